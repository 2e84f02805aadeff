/-
  Texts of this claim, laid together.
-/
import Derived.Test.YtcnkifbjlihaoaaGreatDoorMh4
import Derived.Deep.DeepCutAuto
import Derived.Sort.KeysCollected
import Derived.Lib.SlKeysI
import Derived.Shelf.SlIter.Nil
import Derived.Shelf.SortM.Plain
import Derived.Shelf.SortM.SortNone
import Derived.Ground.GgzProg
import Derived.Ground.SlgmProg
import Derived.Test.YtcnkifbjlihaoaaGreatDoorProg
set_option linter.unusedVariables false
set_option linter.unusedSimpArgs false

namespace Go.Proofs.YtcnkifbjlihaoaaGreatDoor
open Go.RowKit Go.Av
section
variable {w0 : World} {R : List Thing} {rows : List (Value × Bs)} {g off n c : Nat} {f : Nat → Bs} {Ky : Bs → Int} {ok : Bs → Prop}
set_option maxRecDepth 100000 in
set_option maxHeartbeats 16000000 in
theorem ywu' (hc : ylw' w0 Ky ok) (hf : ∀ i, ok (f i)) (hn : n ≤ 100000) (L : Nat) (hi : SymC w0 g off n c f Ky R rows L) (w : World) (σ : Nat → Nat) (a m b : Nat) (hL : b - a ≤ L + 1) (hbn : b ≤ n) (ha1 : a + 1 < m) (hb1 : m + 1 < b) (hm : MergIn (fun i => Ky (f i)) σ a m b)
  (h : Sep w0 w (yaf' 1 (.slice (some ⟨g, off, none⟩) n c) (yap' n (strF f σ)) :: R) rows) :
  Calls Tryz.prog 225 #[.slice (some ⟨g, off, none⟩) n c, .int .i64 (a : Int), .int .i64 (m : Int), .int .i64 (b : Int), yi0'] w (yeq' w0 g off n c f R rows fun τ => ybi' (fun i => Ky (f i)) σ τ a b) := by
 have HC := Lib.hid hc
 have HF := Lib.hid hf
 have HI := Lib.hid hi
 have HX := Lib.hid h
 have HM := Lib.hid hm
 clear h hc hf hm hi
 have q1 : (((m : Int) - (a : Int)) == 1) = false := by rw [beq_eq_false_iff_ne]; omega
 have q1' : (((b : Int) - (m : Int)) == 1) = false := by rw [beq_eq_false_iff_ne]; omega
 obtain ⟨mid, hmid⟩ : ∃ mid, mid = (a + b) / 2 := ⟨_, rfl⟩
 have HMID := Lib.hid hmid
 have em : ((a : Int) + (b : Int)) / 2 = (mid : Int) := by omega
 have hmidn : a < mid ∧ mid < b := by omega
 go_enter Tryz.func225, Tryz.ntmps225
 clear hmid
 by_cases hmm : mid < m
 ·have q2 : decide (((a : Int) + (b : Int)) / 2 < (m : Int)) = true := decide_eq_true (by omega)
  have q2' : decide (mid < m) = true := decide_eq_true hmm
  go_wp2_with fail
  go_loopg [20, 21] (mid - (mid + m - b)) (fun k v v' wr => ∃ (s r : Nat), s + k = r ∧ v = .int .i64 (s : Int) ∧ v' = .int .i64 (r : Int) ∧ mid + m ≤ s + b ∧ r ≤ mid ∧ (∀ x, mid + m ≤ x + b → x < s → Ky (f (σ x)) ≤ Ky (f (σ (mid + m - 1 - x)))) ∧
   (∀ x, r ≤ x → x < mid → Ky (f (σ (mid + m - 1 - x))) < Ky (f (σ x))) ∧ Sep w0 wr (yaf' 1 (.slice (some ⟨g, off, none⟩) n c) (yap' n (strF f σ)) :: R) rows)
  case atStart => exact ⟨mid + m - b, mid, by omega, by go_num, by go_num, by omega, by omega, fun x g1 g2 => by omega, fun x g1 g2 => by omega, HX.out⟩
  case round =>
   rename World => w
   obtain ⟨s, r, hsr, rfl, rfl, hs1, hr1, h3, h4, hS⟩ := hrel
   replace HX := Lib.hid hS
   have HG := Lib.hid (show _ ∧ _ from ⟨h3, h4⟩)
   clear hS h3 h4
   by_cases hlt : s < r
   case neg =>
    obtain rfl : s = r := by omega
    have q0 : decide (s < s) = false := decide_eq_false (by omega)
    have HCU := Lib.hid (yxn' (s0 := mid + m - b) (r0 := mid) HM.out HMID.out (fun _ => ⟨by omega, rfl⟩) (fun hh => absurd hmm hh) (by omega) (by omega) (fun x g1 g2 => HG.out.1 x (by omega) g2) HG.out.2 (by omega) : CutOk _ σ a m b mid s _)
    obtain ⟨e, he⟩ : ∃ e, mid + m - s = e := ⟨_, rfl⟩
    rw [he] at HCU
    have ee : (mid : Int) + (m : Int) - (s : Int) = (e : Int) := by omega
    have hse : s + e = mid + m := by omega
    clear hsr
    go_upto_region 39 with fail
    by_cases g5 : s < m
    ·by_cases g6 : m < e
     ·have q15 : decide (s < m) = true := decide_eq_true g5
      have q16 : decide (m < e) = true := decide_eq_true g6
      have hc0 := yki' HX.out s m e yi0' g5 g6 (by have := HCU.out.eb; omega) hn
      go_wp2_with fail
      refine hc0.mono ?_
      rintro e1 w ⟨rfl, hx⟩
      clear HX hc0
      have HX := Lib.hid hx
      clear hx
      by_cases g1 : a < s
      ·by_cases g2 : s < mid
       ·have q11 : decide (a < s) = true := decide_eq_true g1
        have q12 : decide (s < mid) = true := decide_eq_true g2
        have hc1 := HI.out w _ a s mid (by omega) (by omega) (HCU.out.in1 HM.out g1 g2) HX.out
        go_wp2_with fail
        refine hc1.mono ?_
        rintro e1 w ⟨τ2, rfl, ho2, hx⟩
        clear HX hc1
        have HX := Lib.hid hx
        clear hx
        have HT2 := Lib.hid (show PermF a mid (rotF σ s m e) τ2 ∧ (a < s ∧ s < mid → ybi' _ (rotF σ s m e) τ2 a mid) ∧ (¬ (a < s ∧ s < mid) → τ2 = rotF σ s m e) from ⟨ho2.1, fun _ => ho2, fun hh => absurd ⟨g1, g2⟩ hh⟩)
        clear ho2
        by_cases g3 : mid < e
        ·by_cases g4 : e < b
         ·have q13 : decide (mid < e) = true := decide_eq_true g3
          have q14 : decide (e < b) = true := decide_eq_true g4
          have hc2 := HI.out w τ2 mid e b (by omega) (by omega) (HCU.out.in2 HM.out HT2.out.1 g3 g4) HX.out
          go_wp2_with fail
          refine hc2.mono ?_
          rintro e1 w ⟨τ3, rfl, ho3, hx⟩
          clear HX hc2
          have HX := Lib.hid hx
          clear hx
          go_wp2_with fail
          go_end0
          exact ⟨τ3, rfl, CutOk.done (σ2 := τ2) HM.out HCU.out HT2.out.2.1 HT2.out.2.2 (fun _ => ho3) (fun hh => absurd ⟨g3, g4⟩ hh), HX.out⟩
         ·have q13 : decide (mid < e) = true := decide_eq_true g3
          have q14 : decide (e < b) = false := decide_eq_false g4
          go_wp2_with fail
          go_end0
          exact ⟨τ2, rfl, CutOk.done (σ2 := τ2) HM.out HCU.out HT2.out.2.1 HT2.out.2.2 (fun hh => absurd hh.2 g4) (fun _ => rfl), HX.out⟩
        ·have q13 : decide (mid < e) = false := decide_eq_false g3
         go_wp2_with fail
         go_end0
         exact ⟨τ2, rfl, CutOk.done (σ2 := τ2) HM.out HCU.out HT2.out.2.1 HT2.out.2.2 (fun hh => absurd hh.1 g3) (fun _ => rfl), HX.out⟩
       ·have q11 : decide (a < s) = true := decide_eq_true g1
        have q12 : decide (s < mid) = false := decide_eq_false g2
        obtain ⟨τ2, hτ2⟩ : ∃ τ2, rotF σ s m e = τ2 := ⟨_, rfl⟩
        have HT2 : Hid (PermF a mid (rotF σ s m e) τ2 ∧ (a < s ∧ s < mid → ybi' (fun i => Ky (f i)) (rotF σ s m e) τ2 a mid) ∧ (¬ (a < s ∧ s < mid) → τ2 = rotF σ s m e)) := by rw [← hτ2]; exact ⟨.refl _ _ _, fun hh => absurd hh.2 g2, fun _ => rfl⟩
        have HX : Hid (Sep w0 w (yaf' 1 (.slice (some ⟨g, off, none⟩) n c) (yap' n (strF f τ2)) :: R) rows) := by rw [← hτ2]; exact HX
        clear hτ2
        by_cases g3 : mid < e
        ·by_cases g4 : e < b
         ·have q13 : decide (mid < e) = true := decide_eq_true g3
          have q14 : decide (e < b) = true := decide_eq_true g4
          have hc2 := HI.out w τ2 mid e b (by omega) (by omega) (HCU.out.in2 HM.out HT2.out.1 g3 g4) HX.out
          go_wp2_with fail
          refine hc2.mono ?_
          rintro e1 w ⟨τ3, rfl, ho3, hx⟩
          clear HX hc2
          have HX := Lib.hid hx
          clear hx
          go_wp2_with fail
          go_end0
          exact ⟨τ3, rfl, CutOk.done (σ2 := τ2) HM.out HCU.out HT2.out.2.1 HT2.out.2.2 (fun _ => ho3) (fun hh => absurd ⟨g3, g4⟩ hh), HX.out⟩
         ·have q13 : decide (mid < e) = true := decide_eq_true g3
          have q14 : decide (e < b) = false := decide_eq_false g4
          go_wp2_with fail
          go_end0
          exact ⟨τ2, rfl, CutOk.done (σ2 := τ2) HM.out HCU.out HT2.out.2.1 HT2.out.2.2 (fun hh => absurd hh.2 g4) (fun _ => rfl), HX.out⟩
        ·have q13 : decide (mid < e) = false := decide_eq_false g3
         go_wp2_with fail
         go_end0
         exact ⟨τ2, rfl, CutOk.done (σ2 := τ2) HM.out HCU.out HT2.out.2.1 HT2.out.2.2 (fun hh => absurd hh.1 g3) (fun _ => rfl), HX.out⟩
      ·have q11 : decide (a < s) = false := decide_eq_false g1
       obtain ⟨τ2, hτ2⟩ : ∃ τ2, rotF σ s m e = τ2 := ⟨_, rfl⟩
       have HT2 : Hid (PermF a mid (rotF σ s m e) τ2 ∧ (a < s ∧ s < mid → ybi' (fun i => Ky (f i)) (rotF σ s m e) τ2 a mid) ∧ (¬ (a < s ∧ s < mid) → τ2 = rotF σ s m e)) := by rw [← hτ2]; exact ⟨.refl _ _ _, fun hh => absurd hh.1 g1, fun _ => rfl⟩
       have HX : Hid (Sep w0 w (yaf' 1 (.slice (some ⟨g, off, none⟩) n c) (yap' n (strF f τ2)) :: R) rows) := by rw [← hτ2]; exact HX
       clear hτ2
       by_cases g3 : mid < e
       ·by_cases g4 : e < b
        ·have q13 : decide (mid < e) = true := decide_eq_true g3
         have q14 : decide (e < b) = true := decide_eq_true g4
         have hc2 := HI.out w τ2 mid e b (by omega) (by omega) (HCU.out.in2 HM.out HT2.out.1 g3 g4) HX.out
         go_wp2_with fail
         refine hc2.mono ?_
         rintro e1 w ⟨τ3, rfl, ho3, hx⟩
         clear HX hc2
         have HX := Lib.hid hx
         clear hx
         go_wp2_with fail
         go_end0
         exact ⟨τ3, rfl, CutOk.done (σ2 := τ2) HM.out HCU.out HT2.out.2.1 HT2.out.2.2 (fun _ => ho3) (fun hh => absurd ⟨g3, g4⟩ hh), HX.out⟩
        ·have q13 : decide (mid < e) = true := decide_eq_true g3
         have q14 : decide (e < b) = false := decide_eq_false g4
         go_wp2_with fail
         go_end0
         exact ⟨τ2, rfl, CutOk.done (σ2 := τ2) HM.out HCU.out HT2.out.2.1 HT2.out.2.2 (fun hh => absurd hh.2 g4) (fun _ => rfl), HX.out⟩
       ·have q13 : decide (mid < e) = false := decide_eq_false g3
        go_wp2_with fail
        go_end0
        exact ⟨τ2, rfl, CutOk.done (σ2 := τ2) HM.out HCU.out HT2.out.2.1 HT2.out.2.2 (fun hh => absurd hh.1 g3) (fun _ => rfl), HX.out⟩
     ·have q15 : decide (s < m) = true := decide_eq_true g5
      have q16 : decide (m < e) = false := decide_eq_false g6
      have HX : Hid (Sep w0 w (yaf' 1 (.slice (some ⟨g, off, none⟩) n c) (yap' n (strF f (rotF σ s m e))) :: R) rows) := by
       rw [show m = e by have := HCU.out.me; omega, yhw']; exact HX
      by_cases g1 : a < s
      ·by_cases g2 : s < mid
       ·have q11 : decide (a < s) = true := decide_eq_true g1
        have q12 : decide (s < mid) = true := decide_eq_true g2
        have hc1 := HI.out w _ a s mid (by omega) (by omega) (HCU.out.in1 HM.out g1 g2) HX.out
        go_wp2_with fail
        refine hc1.mono ?_
        rintro e1 w ⟨τ2, rfl, ho2, hx⟩
        clear HX hc1
        have HX := Lib.hid hx
        clear hx
        have HT2 := Lib.hid (show PermF a mid (rotF σ s m e) τ2 ∧ (a < s ∧ s < mid → ybi' _ (rotF σ s m e) τ2 a mid) ∧ (¬ (a < s ∧ s < mid) → τ2 = rotF σ s m e) from ⟨ho2.1, fun _ => ho2, fun hh => absurd ⟨g1, g2⟩ hh⟩)
        clear ho2
        by_cases g3 : mid < e
        ·by_cases g4 : e < b
         ·have q13 : decide (mid < e) = true := decide_eq_true g3
          have q14 : decide (e < b) = true := decide_eq_true g4
          have hc2 := HI.out w τ2 mid e b (by omega) (by omega) (HCU.out.in2 HM.out HT2.out.1 g3 g4) HX.out
          go_wp2_with fail
          refine hc2.mono ?_
          rintro e1 w ⟨τ3, rfl, ho3, hx⟩
          clear HX hc2
          have HX := Lib.hid hx
          clear hx
          go_wp2_with fail
          go_end0
          exact ⟨τ3, rfl, CutOk.done (σ2 := τ2) HM.out HCU.out HT2.out.2.1 HT2.out.2.2 (fun _ => ho3) (fun hh => absurd ⟨g3, g4⟩ hh), HX.out⟩
         ·have q13 : decide (mid < e) = true := decide_eq_true g3
          have q14 : decide (e < b) = false := decide_eq_false g4
          go_wp2_with fail
          go_end0
          exact ⟨τ2, rfl, CutOk.done (σ2 := τ2) HM.out HCU.out HT2.out.2.1 HT2.out.2.2 (fun hh => absurd hh.2 g4) (fun _ => rfl), HX.out⟩
        ·have q13 : decide (mid < e) = false := decide_eq_false g3
         go_wp2_with fail
         go_end0
         exact ⟨τ2, rfl, CutOk.done (σ2 := τ2) HM.out HCU.out HT2.out.2.1 HT2.out.2.2 (fun hh => absurd hh.1 g3) (fun _ => rfl), HX.out⟩
       ·have q11 : decide (a < s) = true := decide_eq_true g1
        have q12 : decide (s < mid) = false := decide_eq_false g2
        obtain ⟨τ2, hτ2⟩ : ∃ τ2, rotF σ s m e = τ2 := ⟨_, rfl⟩
        have HT2 : Hid (PermF a mid (rotF σ s m e) τ2 ∧ (a < s ∧ s < mid → ybi' (fun i => Ky (f i)) (rotF σ s m e) τ2 a mid) ∧ (¬ (a < s ∧ s < mid) → τ2 = rotF σ s m e)) := by rw [← hτ2]; exact ⟨.refl _ _ _, fun hh => absurd hh.2 g2, fun _ => rfl⟩
        have HX : Hid (Sep w0 w (yaf' 1 (.slice (some ⟨g, off, none⟩) n c) (yap' n (strF f τ2)) :: R) rows) := by rw [← hτ2]; exact HX
        clear hτ2
        by_cases g3 : mid < e
        ·by_cases g4 : e < b
         ·have q13 : decide (mid < e) = true := decide_eq_true g3
          have q14 : decide (e < b) = true := decide_eq_true g4
          have hc2 := HI.out w τ2 mid e b (by omega) (by omega) (HCU.out.in2 HM.out HT2.out.1 g3 g4) HX.out
          go_wp2_with fail
          refine hc2.mono ?_
          rintro e1 w ⟨τ3, rfl, ho3, hx⟩
          clear HX hc2
          have HX := Lib.hid hx
          clear hx
          go_wp2_with fail
          go_end0
          exact ⟨τ3, rfl, CutOk.done (σ2 := τ2) HM.out HCU.out HT2.out.2.1 HT2.out.2.2 (fun _ => ho3) (fun hh => absurd ⟨g3, g4⟩ hh), HX.out⟩
         ·have q13 : decide (mid < e) = true := decide_eq_true g3
          have q14 : decide (e < b) = false := decide_eq_false g4
          go_wp2_with fail
          go_end0
          exact ⟨τ2, rfl, CutOk.done (σ2 := τ2) HM.out HCU.out HT2.out.2.1 HT2.out.2.2 (fun hh => absurd hh.2 g4) (fun _ => rfl), HX.out⟩
        ·have q13 : decide (mid < e) = false := decide_eq_false g3
         go_wp2_with fail
         go_end0
         exact ⟨τ2, rfl, CutOk.done (σ2 := τ2) HM.out HCU.out HT2.out.2.1 HT2.out.2.2 (fun hh => absurd hh.1 g3) (fun _ => rfl), HX.out⟩
      ·have q11 : decide (a < s) = false := decide_eq_false g1
       obtain ⟨τ2, hτ2⟩ : ∃ τ2, rotF σ s m e = τ2 := ⟨_, rfl⟩
       have HT2 : Hid (PermF a mid (rotF σ s m e) τ2 ∧ (a < s ∧ s < mid → ybi' (fun i => Ky (f i)) (rotF σ s m e) τ2 a mid) ∧ (¬ (a < s ∧ s < mid) → τ2 = rotF σ s m e)) := by rw [← hτ2]; exact ⟨.refl _ _ _, fun hh => absurd hh.1 g1, fun _ => rfl⟩
       have HX : Hid (Sep w0 w (yaf' 1 (.slice (some ⟨g, off, none⟩) n c) (yap' n (strF f τ2)) :: R) rows) := by rw [← hτ2]; exact HX
       clear hτ2
       by_cases g3 : mid < e
       ·by_cases g4 : e < b
        ·have q13 : decide (mid < e) = true := decide_eq_true g3
         have q14 : decide (e < b) = true := decide_eq_true g4
         have hc2 := HI.out w τ2 mid e b (by omega) (by omega) (HCU.out.in2 HM.out HT2.out.1 g3 g4) HX.out
         go_wp2_with fail
         refine hc2.mono ?_
         rintro e1 w ⟨τ3, rfl, ho3, hx⟩
         clear HX hc2
         have HX := Lib.hid hx
         clear hx
         go_wp2_with fail
         go_end0
         exact ⟨τ3, rfl, CutOk.done (σ2 := τ2) HM.out HCU.out HT2.out.2.1 HT2.out.2.2 (fun _ => ho3) (fun hh => absurd ⟨g3, g4⟩ hh), HX.out⟩
        ·have q13 : decide (mid < e) = true := decide_eq_true g3
         have q14 : decide (e < b) = false := decide_eq_false g4
         go_wp2_with fail
         go_end0
         exact ⟨τ2, rfl, CutOk.done (σ2 := τ2) HM.out HCU.out HT2.out.2.1 HT2.out.2.2 (fun hh => absurd hh.2 g4) (fun _ => rfl), HX.out⟩
       ·have q13 : decide (mid < e) = false := decide_eq_false g3
        go_wp2_with fail
        go_end0
        exact ⟨τ2, rfl, CutOk.done (σ2 := τ2) HM.out HCU.out HT2.out.2.1 HT2.out.2.2 (fun hh => absurd hh.1 g3) (fun _ => rfl), HX.out⟩
    ·have q15 : decide (s < m) = false := decide_eq_false g5
     have HX : Hid (Sep w0 w (yaf' 1 (.slice (some ⟨g, off, none⟩) n c) (yap' n (strF f (rotF σ s m e))) :: R) rows) := by
      rw [show s = m by have := HCU.out.sm; omega, yhv' σ HCU.out.me]; exact HX
     by_cases g1 : a < s
     ·by_cases g2 : s < mid
      ·have q11 : decide (a < s) = true := decide_eq_true g1
       have q12 : decide (s < mid) = true := decide_eq_true g2
       have hc1 := HI.out w _ a s mid (by omega) (by omega) (HCU.out.in1 HM.out g1 g2) HX.out
       go_wp2_with fail
       refine hc1.mono ?_
       rintro e1 w ⟨τ2, rfl, ho2, hx⟩
       clear HX hc1
       have HX := Lib.hid hx
       clear hx
       have HT2 := Lib.hid (show PermF a mid (rotF σ s m e) τ2 ∧ (a < s ∧ s < mid → ybi' _ (rotF σ s m e) τ2 a mid) ∧ (¬ (a < s ∧ s < mid) → τ2 = rotF σ s m e) from ⟨ho2.1, fun _ => ho2, fun hh => absurd ⟨g1, g2⟩ hh⟩)
       clear ho2
       by_cases g3 : mid < e
       ·by_cases g4 : e < b
        ·have q13 : decide (mid < e) = true := decide_eq_true g3
         have q14 : decide (e < b) = true := decide_eq_true g4
         have hc2 := HI.out w τ2 mid e b (by omega) (by omega) (HCU.out.in2 HM.out HT2.out.1 g3 g4) HX.out
         go_wp2_with fail
         refine hc2.mono ?_
         rintro e1 w ⟨τ3, rfl, ho3, hx⟩
         clear HX hc2
         have HX := Lib.hid hx
         clear hx
         go_wp2_with fail
         go_end0
         exact ⟨τ3, rfl, CutOk.done (σ2 := τ2) HM.out HCU.out HT2.out.2.1 HT2.out.2.2 (fun _ => ho3) (fun hh => absurd ⟨g3, g4⟩ hh), HX.out⟩
        ·have q13 : decide (mid < e) = true := decide_eq_true g3
         have q14 : decide (e < b) = false := decide_eq_false g4
         go_wp2_with fail
         go_end0
         exact ⟨τ2, rfl, CutOk.done (σ2 := τ2) HM.out HCU.out HT2.out.2.1 HT2.out.2.2 (fun hh => absurd hh.2 g4) (fun _ => rfl), HX.out⟩
       ·have q13 : decide (mid < e) = false := decide_eq_false g3
        go_wp2_with fail
        go_end0
        exact ⟨τ2, rfl, CutOk.done (σ2 := τ2) HM.out HCU.out HT2.out.2.1 HT2.out.2.2 (fun hh => absurd hh.1 g3) (fun _ => rfl), HX.out⟩
      ·have q11 : decide (a < s) = true := decide_eq_true g1
       have q12 : decide (s < mid) = false := decide_eq_false g2
       obtain ⟨τ2, hτ2⟩ : ∃ τ2, rotF σ s m e = τ2 := ⟨_, rfl⟩
       have HT2 : Hid (PermF a mid (rotF σ s m e) τ2 ∧ (a < s ∧ s < mid → ybi' (fun i => Ky (f i)) (rotF σ s m e) τ2 a mid) ∧ (¬ (a < s ∧ s < mid) → τ2 = rotF σ s m e)) := by rw [← hτ2]; exact ⟨.refl _ _ _, fun hh => absurd hh.2 g2, fun _ => rfl⟩
       have HX : Hid (Sep w0 w (yaf' 1 (.slice (some ⟨g, off, none⟩) n c) (yap' n (strF f τ2)) :: R) rows) := by rw [← hτ2]; exact HX
       clear hτ2
       by_cases g3 : mid < e
       ·by_cases g4 : e < b
        ·have q13 : decide (mid < e) = true := decide_eq_true g3
         have q14 : decide (e < b) = true := decide_eq_true g4
         have hc2 := HI.out w τ2 mid e b (by omega) (by omega) (HCU.out.in2 HM.out HT2.out.1 g3 g4) HX.out
         go_wp2_with fail
         refine hc2.mono ?_
         rintro e1 w ⟨τ3, rfl, ho3, hx⟩
         clear HX hc2
         have HX := Lib.hid hx
         clear hx
         go_wp2_with fail
         go_end0
         exact ⟨τ3, rfl, CutOk.done (σ2 := τ2) HM.out HCU.out HT2.out.2.1 HT2.out.2.2 (fun _ => ho3) (fun hh => absurd ⟨g3, g4⟩ hh), HX.out⟩
        ·have q13 : decide (mid < e) = true := decide_eq_true g3
         have q14 : decide (e < b) = false := decide_eq_false g4
         go_wp2_with fail
         go_end0
         exact ⟨τ2, rfl, CutOk.done (σ2 := τ2) HM.out HCU.out HT2.out.2.1 HT2.out.2.2 (fun hh => absurd hh.2 g4) (fun _ => rfl), HX.out⟩
       ·have q13 : decide (mid < e) = false := decide_eq_false g3
        go_wp2_with fail
        go_end0
        exact ⟨τ2, rfl, CutOk.done (σ2 := τ2) HM.out HCU.out HT2.out.2.1 HT2.out.2.2 (fun hh => absurd hh.1 g3) (fun _ => rfl), HX.out⟩
     ·have q11 : decide (a < s) = false := decide_eq_false g1
      obtain ⟨τ2, hτ2⟩ : ∃ τ2, rotF σ s m e = τ2 := ⟨_, rfl⟩
      have HT2 : Hid (PermF a mid (rotF σ s m e) τ2 ∧ (a < s ∧ s < mid → ybi' (fun i => Ky (f i)) (rotF σ s m e) τ2 a mid) ∧ (¬ (a < s ∧ s < mid) → τ2 = rotF σ s m e)) := by rw [← hτ2]; exact ⟨.refl _ _ _, fun hh => absurd hh.1 g1, fun _ => rfl⟩
      have HX : Hid (Sep w0 w (yaf' 1 (.slice (some ⟨g, off, none⟩) n c) (yap' n (strF f τ2)) :: R) rows) := by rw [← hτ2]; exact HX
      clear hτ2
      by_cases g3 : mid < e
      ·by_cases g4 : e < b
       ·have q13 : decide (mid < e) = true := decide_eq_true g3
        have q14 : decide (e < b) = true := decide_eq_true g4
        have hc2 := HI.out w τ2 mid e b (by omega) (by omega) (HCU.out.in2 HM.out HT2.out.1 g3 g4) HX.out
        go_wp2_with fail
        refine hc2.mono ?_
        rintro e1 w ⟨τ3, rfl, ho3, hx⟩
        clear HX hc2
        have HX := Lib.hid hx
        clear hx
        go_wp2_with fail
        go_end0
        exact ⟨τ3, rfl, CutOk.done (σ2 := τ2) HM.out HCU.out HT2.out.2.1 HT2.out.2.2 (fun _ => ho3) (fun hh => absurd ⟨g3, g4⟩ hh), HX.out⟩
       ·have q13 : decide (mid < e) = true := decide_eq_true g3
        have q14 : decide (e < b) = false := decide_eq_false g4
        go_wp2_with fail
        go_end0
        exact ⟨τ2, rfl, CutOk.done (σ2 := τ2) HM.out HCU.out HT2.out.2.1 HT2.out.2.2 (fun hh => absurd hh.2 g4) (fun _ => rfl), HX.out⟩
      ·have q13 : decide (mid < e) = false := decide_eq_false g3
       go_wp2_with fail
       go_end0
       exact ⟨τ2, rfl, CutOk.done (σ2 := τ2) HM.out HCU.out HT2.out.2.1 HT2.out.2.2 (fun hh => absurd hh.1 g3) (fun _ => rfl), HX.out⟩
   case pos =>
    have q0 : decide (s < r) = true := decide_eq_true hlt
    obtain ⟨hn1, hn2, hn3⟩ := ydc' (x := (mid : Int) + (m : Int) - 1 - ((s : Int) + (r : Int)) / 2) (k := mid + m - 1 - (s + r) / 2) (n := n) (by omega) (by omega) hn
    obtain ⟨hn4, hn5, hn6⟩ := ydc' (x := ((s : Int) + (r : Int)) / 2) (k := (s + r) / 2) (n := n) (by omega) (by omega) hn
    have hn7 : (((s : Int) + (r : Int)) / 2 ≤ (mid : Int) + (m : Int) - 1 ∧ (mid : Int) + (m : Int) - 1 - ((s : Int) + (r : Int)) / 2 < (n : Int)) = True := eq_true (by omega)
    go_wp2_with fail
    refine rM (fun W => Sep w0 W (yaf' 1 (.slice (some ⟨g, off, none⟩) n c) (yap' n (strF f σ)) :: R) rows) 14 ?_
    intro KEEPX
    have hl : ∀ W, Sep w0 W (yaf' 1 (.slice (some ⟨g, off, none⟩) n c) (yap' n (strF f σ)) :: R) rows → _ := fun W hW => ybu' (i := mid + m - 1 - (s + r) / 2) hW (by omega)
    have hl2 : ∀ W, Sep w0 W (yaf' 1 (.slice (some ⟨g, off, none⟩) n c) (yap' n (strF f σ)) :: R) rows → _ := fun W hW => ybu' (i := (s + r) / 2) hW (by omega)
    replace HX := Lib.hid HX.out.drew
    refine rT [(0, false), (1, false), (2, false), (3, false), (4, false), (5, false), (6, true), (7, false), (8, false), (9, false), (10, true)] 3 ?_
    apply Exists.intro; refine ⟨?_, HX.out, ?_⟩
    ·iterate 11 (first | refine yEp ?_ | ((first | apply yax' | apply yas'); (· (simp only [k_i, k_j, k_k]; try rfl)); (· rfl); (· (intros; go_simp; (try simp only [hn1, hn2, hn3, hn4, hn5, hn6, hn7, ↓reduceIte, and_self, Int.toNat_natCast]); try with_reducible rfl)); (· (simp only [Act.put, k_a, k_b, k_c, k_d, k_e, k_f, k_g, k_h]; try rfl))))
     exact rfl
    clear hl hl2
    refine r1 2 11 fun K hK => ?_
    go_wp2_with fail
    refine (HC.out (f (σ (mid + m - 1 - (s + r) / 2))) (f (σ ((s + r) / 2))) _ _ _ (HF.out _) (HF.out _) HX.out).mono ?_
    rintro e w ⟨z, rfl, hr, hx⟩
    replace HX := Lib.hid hx
    clear hx
    go_wp2_with fail
    refine hK _ _ HX.out ?_
    clear hK hn1 hn2 hn3 hn4 hn5 hn6 hn7
    by_cases hr0 : z < 0
    ·have q2 : decide (z < 0) = true := decide_eq_true hr0
     have hr := hr.1 hr0
     refine rT [(12, false), (13, false)] 0 ?_
     apply Exists.intro; refine ⟨?_, HX.out, ?_⟩
     ·iterate 2 (first | refine yEp ?_ | ((first | apply yax' | apply yas'); (· (simp only [k_i, k_j, k_k]; try rfl)); (· rfl); (· (intros; go_simp; (try simp only [hn1, hn2, hn3, hn4, hn5, hn6, hn7, ↓reduceIte, and_self, Int.toNat_natCast]); try with_reducible rfl)); (· (simp only [Act.put, k_a, k_b, k_c, k_d, k_e, k_f, k_g, k_h]; try rfl))))
      exact rfl
     refine yag' (by kernel_rfl) ?_ _
     go_wp2_with fail
     go_roundg ((s + r) / 2 - s)
     case rel => exact ⟨s, (s + r) / 2, by omega, rfl, by go_num, by omega, by omega, HG.out.1, fun x g1 g2 => by
      have k1 := HM.out.left.le (i := (s + r) / 2) (j := x) (by omega) g1 (by omega)
      have k2 := HM.out.right.le (i := mid + m - 1 - x) (j := mid + m - 1 - (s + r) / 2) (by omega) (by omega) (by omega)
      have k1 : Ky (f (σ ((s + r) / 2))) ≤ Ky (f (σ x)) := k1
      have k2 : Ky (f (σ (mid + m - 1 - x))) ≤ Ky (f (σ (mid + m - 1 - (s + r) / 2))) := k2
      omega, HX.out⟩
     case measure => omega
    ·have q2 : decide (z < 0) = false := decide_eq_false hr0
     have hr : ¬ Ky (f (σ (mid + m - 1 - (s + r) / 2))) < Ky (f (σ ((s + r) / 2))) := fun hh => hr0 (hr.2 hh)
     refine rT [(12, false), (13, false)] 0 ?_
     apply Exists.intro; refine ⟨?_, HX.out, ?_⟩
     ·iterate 2 (first | refine yEp ?_ | ((first | apply yax' | apply yas'); (· (simp only [k_i, k_j, k_k]; try rfl)); (· rfl); (· (intros; go_simp; (try simp only [hn1, hn2, hn3, hn4, hn5, hn6, hn7, ↓reduceIte, and_self, Int.toNat_natCast]); try with_reducible rfl)); (· (simp only [Act.put, k_a, k_b, k_c, k_d, k_e, k_f, k_g, k_h]; try rfl))))
      exact rfl
     refine yag' (by kernel_rfl) ?_ _
     go_wp2_with fail
     go_roundg (r - ((s + r) / 2 + 1))
     case rel => exact ⟨(s + r) / 2 + 1, r, by omega, by go_num, rfl, by omega, by omega, fun x g1 g2 => by
      have k1 := HM.out.left.le (i := x) (j := (s + r) / 2) (by omega) (by omega) (by omega)
      have k2 := HM.out.right.le (i := mid + m - 1 - (s + r) / 2) (j := mid + m - 1 - x) (by omega) (by omega) (by omega)
      have k1 : Ky (f (σ x)) ≤ Ky (f (σ ((s + r) / 2))) := k1
      have k2 : Ky (f (σ (mid + m - 1 - (s + r) / 2))) ≤ Ky (f (σ (mid + m - 1 - x))) := k2
      omega, HG.out.2, HX.out⟩
     case measure => omega
 ·have q2 : decide (((a : Int) + (b : Int)) / 2 < (m : Int)) = false := decide_eq_false (by omega)
  have q2' : decide (mid < m) = false := decide_eq_false hmm
  go_wp2_with fail
  go_loopg [20, 21] (m - a) (fun k v v' wr => ∃ (s r : Nat), s + k = r ∧ v = .int .i64 (s : Int) ∧ v' = .int .i64 (r : Int) ∧ a ≤ s ∧ r ≤ m ∧ (∀ x, a ≤ x → x < s → Ky (f (σ x)) ≤ Ky (f (σ (mid + m - 1 - x)))) ∧
   (∀ x, r ≤ x → x < m → Ky (f (σ (mid + m - 1 - x))) < Ky (f (σ x))) ∧ Sep w0 wr (yaf' 1 (.slice (some ⟨g, off, none⟩) n c) (yap' n (strF f σ)) :: R) rows)
  case atStart => exact ⟨a, m, by omega, by go_num, by go_num, by omega, by omega, fun x g1 g2 => by omega, fun x g1 g2 => by omega, HX.out⟩
  case round =>
   rename World => w
   obtain ⟨s, r, hsr, rfl, rfl, hs1, hr1, h3, h4, hS⟩ := hrel
   replace HX := Lib.hid hS
   have HG := Lib.hid (show _ ∧ _ from ⟨h3, h4⟩)
   clear hS h3 h4
   by_cases hlt : s < r
   case neg =>
    obtain rfl : s = r := by omega
    have q0 : decide (s < s) = false := decide_eq_false (by omega)
    have HCU := Lib.hid (yxn' (s0 := a) (r0 := m) HM.out HMID.out (fun hh => absurd hh hmm) (fun _ => ⟨rfl, rfl⟩) (by omega) (by omega) (fun x g1 g2 => HG.out.1 x g1 g2) HG.out.2 (by omega) : CutOk _ σ a m b mid s _)
    obtain ⟨e, he⟩ : ∃ e, mid + m - s = e := ⟨_, rfl⟩
    rw [he] at HCU
    have ee : (mid : Int) + (m : Int) - (s : Int) = (e : Int) := by omega
    have hse : s + e = mid + m := by omega
    clear hsr
    go_upto_region 39 with fail
    by_cases g5 : s < m
    ·by_cases g6 : m < e
     ·have q15 : decide (s < m) = true := decide_eq_true g5
      have q16 : decide (m < e) = true := decide_eq_true g6
      have hc0 := yki' HX.out s m e yi0' g5 g6 (by have := HCU.out.eb; omega) hn
      go_wp2_with fail
      refine hc0.mono ?_
      rintro e1 w ⟨rfl, hx⟩
      clear HX hc0
      have HX := Lib.hid hx
      clear hx
      by_cases g1 : a < s
      ·by_cases g2 : s < mid
       ·have q11 : decide (a < s) = true := decide_eq_true g1
        have q12 : decide (s < mid) = true := decide_eq_true g2
        have hc1 := HI.out w _ a s mid (by omega) (by omega) (HCU.out.in1 HM.out g1 g2) HX.out
        go_wp2_with fail
        refine hc1.mono ?_
        rintro e1 w ⟨τ2, rfl, ho2, hx⟩
        clear HX hc1
        have HX := Lib.hid hx
        clear hx
        have HT2 := Lib.hid (show PermF a mid (rotF σ s m e) τ2 ∧ (a < s ∧ s < mid → ybi' _ (rotF σ s m e) τ2 a mid) ∧ (¬ (a < s ∧ s < mid) → τ2 = rotF σ s m e) from ⟨ho2.1, fun _ => ho2, fun hh => absurd ⟨g1, g2⟩ hh⟩)
        clear ho2
        by_cases g3 : mid < e
        ·by_cases g4 : e < b
         ·have q13 : decide (mid < e) = true := decide_eq_true g3
          have q14 : decide (e < b) = true := decide_eq_true g4
          have hc2 := HI.out w τ2 mid e b (by omega) (by omega) (HCU.out.in2 HM.out HT2.out.1 g3 g4) HX.out
          go_wp2_with fail
          refine hc2.mono ?_
          rintro e1 w ⟨τ3, rfl, ho3, hx⟩
          clear HX hc2
          have HX := Lib.hid hx
          clear hx
          go_wp2_with fail
          go_end0
          exact ⟨τ3, rfl, CutOk.done (σ2 := τ2) HM.out HCU.out HT2.out.2.1 HT2.out.2.2 (fun _ => ho3) (fun hh => absurd ⟨g3, g4⟩ hh), HX.out⟩
         ·have q13 : decide (mid < e) = true := decide_eq_true g3
          have q14 : decide (e < b) = false := decide_eq_false g4
          go_wp2_with fail
          go_end0
          exact ⟨τ2, rfl, CutOk.done (σ2 := τ2) HM.out HCU.out HT2.out.2.1 HT2.out.2.2 (fun hh => absurd hh.2 g4) (fun _ => rfl), HX.out⟩
        ·have q13 : decide (mid < e) = false := decide_eq_false g3
         go_wp2_with fail
         go_end0
         exact ⟨τ2, rfl, CutOk.done (σ2 := τ2) HM.out HCU.out HT2.out.2.1 HT2.out.2.2 (fun hh => absurd hh.1 g3) (fun _ => rfl), HX.out⟩
       ·have q11 : decide (a < s) = true := decide_eq_true g1
        have q12 : decide (s < mid) = false := decide_eq_false g2
        obtain ⟨τ2, hτ2⟩ : ∃ τ2, rotF σ s m e = τ2 := ⟨_, rfl⟩
        have HT2 : Hid (PermF a mid (rotF σ s m e) τ2 ∧ (a < s ∧ s < mid → ybi' (fun i => Ky (f i)) (rotF σ s m e) τ2 a mid) ∧ (¬ (a < s ∧ s < mid) → τ2 = rotF σ s m e)) := by rw [← hτ2]; exact ⟨.refl _ _ _, fun hh => absurd hh.2 g2, fun _ => rfl⟩
        have HX : Hid (Sep w0 w (yaf' 1 (.slice (some ⟨g, off, none⟩) n c) (yap' n (strF f τ2)) :: R) rows) := by rw [← hτ2]; exact HX
        clear hτ2
        by_cases g3 : mid < e
        ·by_cases g4 : e < b
         ·have q13 : decide (mid < e) = true := decide_eq_true g3
          have q14 : decide (e < b) = true := decide_eq_true g4
          have hc2 := HI.out w τ2 mid e b (by omega) (by omega) (HCU.out.in2 HM.out HT2.out.1 g3 g4) HX.out
          go_wp2_with fail
          refine hc2.mono ?_
          rintro e1 w ⟨τ3, rfl, ho3, hx⟩
          clear HX hc2
          have HX := Lib.hid hx
          clear hx
          go_wp2_with fail
          go_end0
          exact ⟨τ3, rfl, CutOk.done (σ2 := τ2) HM.out HCU.out HT2.out.2.1 HT2.out.2.2 (fun _ => ho3) (fun hh => absurd ⟨g3, g4⟩ hh), HX.out⟩
         ·have q13 : decide (mid < e) = true := decide_eq_true g3
          have q14 : decide (e < b) = false := decide_eq_false g4
          go_wp2_with fail
          go_end0
          exact ⟨τ2, rfl, CutOk.done (σ2 := τ2) HM.out HCU.out HT2.out.2.1 HT2.out.2.2 (fun hh => absurd hh.2 g4) (fun _ => rfl), HX.out⟩
        ·have q13 : decide (mid < e) = false := decide_eq_false g3
         go_wp2_with fail
         go_end0
         exact ⟨τ2, rfl, CutOk.done (σ2 := τ2) HM.out HCU.out HT2.out.2.1 HT2.out.2.2 (fun hh => absurd hh.1 g3) (fun _ => rfl), HX.out⟩
      ·have q11 : decide (a < s) = false := decide_eq_false g1
       obtain ⟨τ2, hτ2⟩ : ∃ τ2, rotF σ s m e = τ2 := ⟨_, rfl⟩
       have HT2 : Hid (PermF a mid (rotF σ s m e) τ2 ∧ (a < s ∧ s < mid → ybi' (fun i => Ky (f i)) (rotF σ s m e) τ2 a mid) ∧ (¬ (a < s ∧ s < mid) → τ2 = rotF σ s m e)) := by rw [← hτ2]; exact ⟨.refl _ _ _, fun hh => absurd hh.1 g1, fun _ => rfl⟩
       have HX : Hid (Sep w0 w (yaf' 1 (.slice (some ⟨g, off, none⟩) n c) (yap' n (strF f τ2)) :: R) rows) := by rw [← hτ2]; exact HX
       clear hτ2
       by_cases g3 : mid < e
       ·by_cases g4 : e < b
        ·have q13 : decide (mid < e) = true := decide_eq_true g3
         have q14 : decide (e < b) = true := decide_eq_true g4
         have hc2 := HI.out w τ2 mid e b (by omega) (by omega) (HCU.out.in2 HM.out HT2.out.1 g3 g4) HX.out
         go_wp2_with fail
         refine hc2.mono ?_
         rintro e1 w ⟨τ3, rfl, ho3, hx⟩
         clear HX hc2
         have HX := Lib.hid hx
         clear hx
         go_wp2_with fail
         go_end0
         exact ⟨τ3, rfl, CutOk.done (σ2 := τ2) HM.out HCU.out HT2.out.2.1 HT2.out.2.2 (fun _ => ho3) (fun hh => absurd ⟨g3, g4⟩ hh), HX.out⟩
        ·have q13 : decide (mid < e) = true := decide_eq_true g3
         have q14 : decide (e < b) = false := decide_eq_false g4
         go_wp2_with fail
         go_end0
         exact ⟨τ2, rfl, CutOk.done (σ2 := τ2) HM.out HCU.out HT2.out.2.1 HT2.out.2.2 (fun hh => absurd hh.2 g4) (fun _ => rfl), HX.out⟩
       ·have q13 : decide (mid < e) = false := decide_eq_false g3
        go_wp2_with fail
        go_end0
        exact ⟨τ2, rfl, CutOk.done (σ2 := τ2) HM.out HCU.out HT2.out.2.1 HT2.out.2.2 (fun hh => absurd hh.1 g3) (fun _ => rfl), HX.out⟩
     ·have q15 : decide (s < m) = true := decide_eq_true g5
      have q16 : decide (m < e) = false := decide_eq_false g6
      have HX : Hid (Sep w0 w (yaf' 1 (.slice (some ⟨g, off, none⟩) n c) (yap' n (strF f (rotF σ s m e))) :: R) rows) := by
       rw [show m = e by have := HCU.out.me; omega, yhw']; exact HX
      by_cases g1 : a < s
      ·by_cases g2 : s < mid
       ·have q11 : decide (a < s) = true := decide_eq_true g1
        have q12 : decide (s < mid) = true := decide_eq_true g2
        have hc1 := HI.out w _ a s mid (by omega) (by omega) (HCU.out.in1 HM.out g1 g2) HX.out
        go_wp2_with fail
        refine hc1.mono ?_
        rintro e1 w ⟨τ2, rfl, ho2, hx⟩
        clear HX hc1
        have HX := Lib.hid hx
        clear hx
        have HT2 := Lib.hid (show PermF a mid (rotF σ s m e) τ2 ∧ (a < s ∧ s < mid → ybi' _ (rotF σ s m e) τ2 a mid) ∧ (¬ (a < s ∧ s < mid) → τ2 = rotF σ s m e) from ⟨ho2.1, fun _ => ho2, fun hh => absurd ⟨g1, g2⟩ hh⟩)
        clear ho2
        by_cases g3 : mid < e
        ·by_cases g4 : e < b
         ·have q13 : decide (mid < e) = true := decide_eq_true g3
          have q14 : decide (e < b) = true := decide_eq_true g4
          have hc2 := HI.out w τ2 mid e b (by omega) (by omega) (HCU.out.in2 HM.out HT2.out.1 g3 g4) HX.out
          go_wp2_with fail
          refine hc2.mono ?_
          rintro e1 w ⟨τ3, rfl, ho3, hx⟩
          clear HX hc2
          have HX := Lib.hid hx
          clear hx
          go_wp2_with fail
          go_end0
          exact ⟨τ3, rfl, CutOk.done (σ2 := τ2) HM.out HCU.out HT2.out.2.1 HT2.out.2.2 (fun _ => ho3) (fun hh => absurd ⟨g3, g4⟩ hh), HX.out⟩
         ·have q13 : decide (mid < e) = true := decide_eq_true g3
          have q14 : decide (e < b) = false := decide_eq_false g4
          go_wp2_with fail
          go_end0
          exact ⟨τ2, rfl, CutOk.done (σ2 := τ2) HM.out HCU.out HT2.out.2.1 HT2.out.2.2 (fun hh => absurd hh.2 g4) (fun _ => rfl), HX.out⟩
        ·have q13 : decide (mid < e) = false := decide_eq_false g3
         go_wp2_with fail
         go_end0
         exact ⟨τ2, rfl, CutOk.done (σ2 := τ2) HM.out HCU.out HT2.out.2.1 HT2.out.2.2 (fun hh => absurd hh.1 g3) (fun _ => rfl), HX.out⟩
       ·have q11 : decide (a < s) = true := decide_eq_true g1
        have q12 : decide (s < mid) = false := decide_eq_false g2
        obtain ⟨τ2, hτ2⟩ : ∃ τ2, rotF σ s m e = τ2 := ⟨_, rfl⟩
        have HT2 : Hid (PermF a mid (rotF σ s m e) τ2 ∧ (a < s ∧ s < mid → ybi' (fun i => Ky (f i)) (rotF σ s m e) τ2 a mid) ∧ (¬ (a < s ∧ s < mid) → τ2 = rotF σ s m e)) := by rw [← hτ2]; exact ⟨.refl _ _ _, fun hh => absurd hh.2 g2, fun _ => rfl⟩
        have HX : Hid (Sep w0 w (yaf' 1 (.slice (some ⟨g, off, none⟩) n c) (yap' n (strF f τ2)) :: R) rows) := by rw [← hτ2]; exact HX
        clear hτ2
        by_cases g3 : mid < e
        ·by_cases g4 : e < b
         ·have q13 : decide (mid < e) = true := decide_eq_true g3
          have q14 : decide (e < b) = true := decide_eq_true g4
          have hc2 := HI.out w τ2 mid e b (by omega) (by omega) (HCU.out.in2 HM.out HT2.out.1 g3 g4) HX.out
          go_wp2_with fail
          refine hc2.mono ?_
          rintro e1 w ⟨τ3, rfl, ho3, hx⟩
          clear HX hc2
          have HX := Lib.hid hx
          clear hx
          go_wp2_with fail
          go_end0
          exact ⟨τ3, rfl, CutOk.done (σ2 := τ2) HM.out HCU.out HT2.out.2.1 HT2.out.2.2 (fun _ => ho3) (fun hh => absurd ⟨g3, g4⟩ hh), HX.out⟩
         ·have q13 : decide (mid < e) = true := decide_eq_true g3
          have q14 : decide (e < b) = false := decide_eq_false g4
          go_wp2_with fail
          go_end0
          exact ⟨τ2, rfl, CutOk.done (σ2 := τ2) HM.out HCU.out HT2.out.2.1 HT2.out.2.2 (fun hh => absurd hh.2 g4) (fun _ => rfl), HX.out⟩
        ·have q13 : decide (mid < e) = false := decide_eq_false g3
         go_wp2_with fail
         go_end0
         exact ⟨τ2, rfl, CutOk.done (σ2 := τ2) HM.out HCU.out HT2.out.2.1 HT2.out.2.2 (fun hh => absurd hh.1 g3) (fun _ => rfl), HX.out⟩
      ·have q11 : decide (a < s) = false := decide_eq_false g1
       obtain ⟨τ2, hτ2⟩ : ∃ τ2, rotF σ s m e = τ2 := ⟨_, rfl⟩
       have HT2 : Hid (PermF a mid (rotF σ s m e) τ2 ∧ (a < s ∧ s < mid → ybi' (fun i => Ky (f i)) (rotF σ s m e) τ2 a mid) ∧ (¬ (a < s ∧ s < mid) → τ2 = rotF σ s m e)) := by rw [← hτ2]; exact ⟨.refl _ _ _, fun hh => absurd hh.1 g1, fun _ => rfl⟩
       have HX : Hid (Sep w0 w (yaf' 1 (.slice (some ⟨g, off, none⟩) n c) (yap' n (strF f τ2)) :: R) rows) := by rw [← hτ2]; exact HX
       clear hτ2
       by_cases g3 : mid < e
       ·by_cases g4 : e < b
        ·have q13 : decide (mid < e) = true := decide_eq_true g3
         have q14 : decide (e < b) = true := decide_eq_true g4
         have hc2 := HI.out w τ2 mid e b (by omega) (by omega) (HCU.out.in2 HM.out HT2.out.1 g3 g4) HX.out
         go_wp2_with fail
         refine hc2.mono ?_
         rintro e1 w ⟨τ3, rfl, ho3, hx⟩
         clear HX hc2
         have HX := Lib.hid hx
         clear hx
         go_wp2_with fail
         go_end0
         exact ⟨τ3, rfl, CutOk.done (σ2 := τ2) HM.out HCU.out HT2.out.2.1 HT2.out.2.2 (fun _ => ho3) (fun hh => absurd ⟨g3, g4⟩ hh), HX.out⟩
        ·have q13 : decide (mid < e) = true := decide_eq_true g3
         have q14 : decide (e < b) = false := decide_eq_false g4
         go_wp2_with fail
         go_end0
         exact ⟨τ2, rfl, CutOk.done (σ2 := τ2) HM.out HCU.out HT2.out.2.1 HT2.out.2.2 (fun hh => absurd hh.2 g4) (fun _ => rfl), HX.out⟩
       ·have q13 : decide (mid < e) = false := decide_eq_false g3
        go_wp2_with fail
        go_end0
        exact ⟨τ2, rfl, CutOk.done (σ2 := τ2) HM.out HCU.out HT2.out.2.1 HT2.out.2.2 (fun hh => absurd hh.1 g3) (fun _ => rfl), HX.out⟩
    ·have q15 : decide (s < m) = false := decide_eq_false g5
     have HX : Hid (Sep w0 w (yaf' 1 (.slice (some ⟨g, off, none⟩) n c) (yap' n (strF f (rotF σ s m e))) :: R) rows) := by
      rw [show s = m by have := HCU.out.sm; omega, yhv' σ HCU.out.me]; exact HX
     by_cases g1 : a < s
     ·by_cases g2 : s < mid
      ·have q11 : decide (a < s) = true := decide_eq_true g1
       have q12 : decide (s < mid) = true := decide_eq_true g2
       have hc1 := HI.out w _ a s mid (by omega) (by omega) (HCU.out.in1 HM.out g1 g2) HX.out
       go_wp2_with fail
       refine hc1.mono ?_
       rintro e1 w ⟨τ2, rfl, ho2, hx⟩
       clear HX hc1
       have HX := Lib.hid hx
       clear hx
       have HT2 := Lib.hid (show PermF a mid (rotF σ s m e) τ2 ∧ (a < s ∧ s < mid → ybi' _ (rotF σ s m e) τ2 a mid) ∧ (¬ (a < s ∧ s < mid) → τ2 = rotF σ s m e) from ⟨ho2.1, fun _ => ho2, fun hh => absurd ⟨g1, g2⟩ hh⟩)
       clear ho2
       by_cases g3 : mid < e
       ·by_cases g4 : e < b
        ·have q13 : decide (mid < e) = true := decide_eq_true g3
         have q14 : decide (e < b) = true := decide_eq_true g4
         have hc2 := HI.out w τ2 mid e b (by omega) (by omega) (HCU.out.in2 HM.out HT2.out.1 g3 g4) HX.out
         go_wp2_with fail
         refine hc2.mono ?_
         rintro e1 w ⟨τ3, rfl, ho3, hx⟩
         clear HX hc2
         have HX := Lib.hid hx
         clear hx
         go_wp2_with fail
         go_end0
         exact ⟨τ3, rfl, CutOk.done (σ2 := τ2) HM.out HCU.out HT2.out.2.1 HT2.out.2.2 (fun _ => ho3) (fun hh => absurd ⟨g3, g4⟩ hh), HX.out⟩
        ·have q13 : decide (mid < e) = true := decide_eq_true g3
         have q14 : decide (e < b) = false := decide_eq_false g4
         go_wp2_with fail
         go_end0
         exact ⟨τ2, rfl, CutOk.done (σ2 := τ2) HM.out HCU.out HT2.out.2.1 HT2.out.2.2 (fun hh => absurd hh.2 g4) (fun _ => rfl), HX.out⟩
       ·have q13 : decide (mid < e) = false := decide_eq_false g3
        go_wp2_with fail
        go_end0
        exact ⟨τ2, rfl, CutOk.done (σ2 := τ2) HM.out HCU.out HT2.out.2.1 HT2.out.2.2 (fun hh => absurd hh.1 g3) (fun _ => rfl), HX.out⟩
      ·have q11 : decide (a < s) = true := decide_eq_true g1
       have q12 : decide (s < mid) = false := decide_eq_false g2
       obtain ⟨τ2, hτ2⟩ : ∃ τ2, rotF σ s m e = τ2 := ⟨_, rfl⟩
       have HT2 : Hid (PermF a mid (rotF σ s m e) τ2 ∧ (a < s ∧ s < mid → ybi' (fun i => Ky (f i)) (rotF σ s m e) τ2 a mid) ∧ (¬ (a < s ∧ s < mid) → τ2 = rotF σ s m e)) := by rw [← hτ2]; exact ⟨.refl _ _ _, fun hh => absurd hh.2 g2, fun _ => rfl⟩
       have HX : Hid (Sep w0 w (yaf' 1 (.slice (some ⟨g, off, none⟩) n c) (yap' n (strF f τ2)) :: R) rows) := by rw [← hτ2]; exact HX
       clear hτ2
       by_cases g3 : mid < e
       ·by_cases g4 : e < b
        ·have q13 : decide (mid < e) = true := decide_eq_true g3
         have q14 : decide (e < b) = true := decide_eq_true g4
         have hc2 := HI.out w τ2 mid e b (by omega) (by omega) (HCU.out.in2 HM.out HT2.out.1 g3 g4) HX.out
         go_wp2_with fail
         refine hc2.mono ?_
         rintro e1 w ⟨τ3, rfl, ho3, hx⟩
         clear HX hc2
         have HX := Lib.hid hx
         clear hx
         go_wp2_with fail
         go_end0
         exact ⟨τ3, rfl, CutOk.done (σ2 := τ2) HM.out HCU.out HT2.out.2.1 HT2.out.2.2 (fun _ => ho3) (fun hh => absurd ⟨g3, g4⟩ hh), HX.out⟩
        ·have q13 : decide (mid < e) = true := decide_eq_true g3
         have q14 : decide (e < b) = false := decide_eq_false g4
         go_wp2_with fail
         go_end0
         exact ⟨τ2, rfl, CutOk.done (σ2 := τ2) HM.out HCU.out HT2.out.2.1 HT2.out.2.2 (fun hh => absurd hh.2 g4) (fun _ => rfl), HX.out⟩
       ·have q13 : decide (mid < e) = false := decide_eq_false g3
        go_wp2_with fail
        go_end0
        exact ⟨τ2, rfl, CutOk.done (σ2 := τ2) HM.out HCU.out HT2.out.2.1 HT2.out.2.2 (fun hh => absurd hh.1 g3) (fun _ => rfl), HX.out⟩
     ·have q11 : decide (a < s) = false := decide_eq_false g1
      obtain ⟨τ2, hτ2⟩ : ∃ τ2, rotF σ s m e = τ2 := ⟨_, rfl⟩
      have HT2 : Hid (PermF a mid (rotF σ s m e) τ2 ∧ (a < s ∧ s < mid → ybi' (fun i => Ky (f i)) (rotF σ s m e) τ2 a mid) ∧ (¬ (a < s ∧ s < mid) → τ2 = rotF σ s m e)) := by rw [← hτ2]; exact ⟨.refl _ _ _, fun hh => absurd hh.1 g1, fun _ => rfl⟩
      have HX : Hid (Sep w0 w (yaf' 1 (.slice (some ⟨g, off, none⟩) n c) (yap' n (strF f τ2)) :: R) rows) := by rw [← hτ2]; exact HX
      clear hτ2
      by_cases g3 : mid < e
      ·by_cases g4 : e < b
       ·have q13 : decide (mid < e) = true := decide_eq_true g3
        have q14 : decide (e < b) = true := decide_eq_true g4
        have hc2 := HI.out w τ2 mid e b (by omega) (by omega) (HCU.out.in2 HM.out HT2.out.1 g3 g4) HX.out
        go_wp2_with fail
        refine hc2.mono ?_
        rintro e1 w ⟨τ3, rfl, ho3, hx⟩
        clear HX hc2
        have HX := Lib.hid hx
        clear hx
        go_wp2_with fail
        go_end0
        exact ⟨τ3, rfl, CutOk.done (σ2 := τ2) HM.out HCU.out HT2.out.2.1 HT2.out.2.2 (fun _ => ho3) (fun hh => absurd ⟨g3, g4⟩ hh), HX.out⟩
       ·have q13 : decide (mid < e) = true := decide_eq_true g3
        have q14 : decide (e < b) = false := decide_eq_false g4
        go_wp2_with fail
        go_end0
        exact ⟨τ2, rfl, CutOk.done (σ2 := τ2) HM.out HCU.out HT2.out.2.1 HT2.out.2.2 (fun hh => absurd hh.2 g4) (fun _ => rfl), HX.out⟩
      ·have q13 : decide (mid < e) = false := decide_eq_false g3
       go_wp2_with fail
       go_end0
       exact ⟨τ2, rfl, CutOk.done (σ2 := τ2) HM.out HCU.out HT2.out.2.1 HT2.out.2.2 (fun hh => absurd hh.1 g3) (fun _ => rfl), HX.out⟩
   case pos =>
    have q0 : decide (s < r) = true := decide_eq_true hlt
    obtain ⟨hn1, hn2, hn3⟩ := ydc' (x := (mid : Int) + (m : Int) - 1 - ((s : Int) + (r : Int)) / 2) (k := mid + m - 1 - (s + r) / 2) (n := n) (by omega) (by omega) hn
    obtain ⟨hn4, hn5, hn6⟩ := ydc' (x := ((s : Int) + (r : Int)) / 2) (k := (s + r) / 2) (n := n) (by omega) (by omega) hn
    have hn7 : (((s : Int) + (r : Int)) / 2 ≤ (mid : Int) + (m : Int) - 1 ∧ (mid : Int) + (m : Int) - 1 - ((s : Int) + (r : Int)) / 2 < (n : Int)) = True := eq_true (by omega)
    go_wp2_with fail
    refine rM (fun W => Sep w0 W (yaf' 1 (.slice (some ⟨g, off, none⟩) n c) (yap' n (strF f σ)) :: R) rows) 14 ?_
    intro KEEPX
    have hl : ∀ W, Sep w0 W (yaf' 1 (.slice (some ⟨g, off, none⟩) n c) (yap' n (strF f σ)) :: R) rows → _ := fun W hW => ybu' (i := mid + m - 1 - (s + r) / 2) hW (by omega)
    have hl2 : ∀ W, Sep w0 W (yaf' 1 (.slice (some ⟨g, off, none⟩) n c) (yap' n (strF f σ)) :: R) rows → _ := fun W hW => ybu' (i := (s + r) / 2) hW (by omega)
    replace HX := Lib.hid HX.out.drew
    refine rT [(0, false), (1, false), (2, false), (3, false), (4, false), (5, false), (6, true), (7, false), (8, false), (9, false), (10, true)] 3 ?_
    apply Exists.intro; refine ⟨?_, HX.out, ?_⟩
    ·iterate 11 (first | refine yEp ?_ | ((first | apply yax' | apply yas'); (· (simp only [k_i, k_j, k_k]; try rfl)); (· rfl); (· (intros; go_simp; (try simp only [hn1, hn2, hn3, hn4, hn5, hn6, hn7, ↓reduceIte, and_self, Int.toNat_natCast]); try with_reducible rfl)); (· (simp only [Act.put, k_a, k_b, k_c, k_d, k_e, k_f, k_g, k_h]; try rfl))))
     exact rfl
    clear hl hl2
    refine r1 2 11 fun K hK => ?_
    go_wp2_with fail
    refine (HC.out (f (σ (mid + m - 1 - (s + r) / 2))) (f (σ ((s + r) / 2))) _ _ _ (HF.out _) (HF.out _) HX.out).mono ?_
    rintro e w ⟨z, rfl, hr, hx⟩
    replace HX := Lib.hid hx
    clear hx
    go_wp2_with fail
    refine hK _ _ HX.out ?_
    clear hK hn1 hn2 hn3 hn4 hn5 hn6 hn7
    by_cases hr0 : z < 0
    ·have q2 : decide (z < 0) = true := decide_eq_true hr0
     have hr := hr.1 hr0
     refine rT [(12, false), (13, false)] 0 ?_
     apply Exists.intro; refine ⟨?_, HX.out, ?_⟩
     ·iterate 2 (first | refine yEp ?_ | ((first | apply yax' | apply yas'); (· (simp only [k_i, k_j, k_k]; try rfl)); (· rfl); (· (intros; go_simp; (try simp only [hn1, hn2, hn3, hn4, hn5, hn6, hn7, ↓reduceIte, and_self, Int.toNat_natCast]); try with_reducible rfl)); (· (simp only [Act.put, k_a, k_b, k_c, k_d, k_e, k_f, k_g, k_h]; try rfl))))
      exact rfl
     refine yag' (by kernel_rfl) ?_ _
     go_wp2_with fail
     go_roundg ((s + r) / 2 - s)
     case rel => exact ⟨s, (s + r) / 2, by omega, rfl, by go_num, by omega, by omega, HG.out.1, fun x g1 g2 => by
      have k1 := HM.out.left.le (i := (s + r) / 2) (j := x) (by omega) g1 (by omega)
      have k2 := HM.out.right.le (i := mid + m - 1 - x) (j := mid + m - 1 - (s + r) / 2) (by omega) (by omega) (by omega)
      have k1 : Ky (f (σ ((s + r) / 2))) ≤ Ky (f (σ x)) := k1
      have k2 : Ky (f (σ (mid + m - 1 - x))) ≤ Ky (f (σ (mid + m - 1 - (s + r) / 2))) := k2
      omega, HX.out⟩
     case measure => omega
    ·have q2 : decide (z < 0) = false := decide_eq_false hr0
     have hr : ¬ Ky (f (σ (mid + m - 1 - (s + r) / 2))) < Ky (f (σ ((s + r) / 2))) := fun hh => hr0 (hr.2 hh)
     refine rT [(12, false), (13, false)] 0 ?_
     apply Exists.intro; refine ⟨?_, HX.out, ?_⟩
     ·iterate 2 (first | refine yEp ?_ | ((first | apply yax' | apply yas'); (· (simp only [k_i, k_j, k_k]; try rfl)); (· rfl); (· (intros; go_simp; (try simp only [hn1, hn2, hn3, hn4, hn5, hn6, hn7, ↓reduceIte, and_self, Int.toNat_natCast]); try with_reducible rfl)); (· (simp only [Act.put, k_a, k_b, k_c, k_d, k_e, k_f, k_g, k_h]; try rfl))))
      exact rfl
     refine yag' (by kernel_rfl) ?_ _
     go_wp2_with fail
     go_roundg (r - ((s + r) / 2 + 1))
     case rel => exact ⟨(s + r) / 2 + 1, r, by omega, by go_num, rfl, by omega, by omega, fun x g1 g2 => by
      have k1 := HM.out.left.le (i := x) (j := (s + r) / 2) (by omega) (by omega) (by omega)
      have k2 := HM.out.right.le (i := mid + m - 1 - (s + r) / 2) (j := mid + m - 1 - x) (by omega) (by omega) (by omega)
      have k1 : Ky (f (σ x)) ≤ Ky (f (σ ((s + r) / 2))) := k1
      have k2 : Ky (f (σ (mid + m - 1 - (s + r) / 2))) ≤ Ky (f (σ (mid + m - 1 - x))) := k2
      omega, HG.out.2, HX.out⟩
     case measure => omega
theorem yow' (hc : ylw' w0 Ky ok) (hf : ∀ i, ok (f i)) (hn : n ≤ 100000) : ∀ L, SymC w0 g off n c f Ky R rows L
 | 0 => fun w σ a m b hL hb hm h => by
  have := hm.am
  have := hm.mb
  omega
 | L + 1 => fun w σ a m b hL hb hm h => by
  by_cases h1 : m = a + 1
  ·subst h1
   exact ywv' hc hf hn w σ a b hb hm h
  ·by_cases h2 : b = m + 1
   ·subst h2
    exact yww' hc hf hn w σ a m hb (by have := hm.am; omega) hm h
   ·exact ywu' hc hf hn L (yow' hc hf hn L) w σ a m b hL hb (by have := hm.am; omega) (by have := hm.mb; omega) hm h
end
end Go.Proofs.YtcnkifbjlihaoaaGreatDoor

namespace Go.Av
def BlkA (K : Nat → Int) (σ : Nat → Nat) (n bs a : Nat) : Prop := ∀ q, q * bs < a → q * bs < n → InBlk K σ (q * bs) (min (q * bs + bs) n)
def BlkB (K : Nat → Int) (σ : Nat → Nat) (n bs a : Nat) : Prop := ∀ q, a ≤ q * bs → q * bs < n → InBlk K σ (q * bs) (min (q * bs + bs) n)
theorem yly' {K : Nat → Int} {σ τ : Nat → Nat} {n bs a b : Nat} (hbs : 0 < bs) {q : Nat} (ha : a = q * (2 * bs)) (hb : b = min (a + 2 * bs) n) (hm : a + bs < n) (hA : BlkA K σ n (2 * bs) a) (hB : BlkB K σ n bs a) (ho : ybi' K σ τ a b) :
  BlkA K τ n (2 * bs) (a + 2 * bs) ∧ BlkB K τ n bs (a + 2 * bs) := by
 have e1 : (2 * q) * bs = a := by rw [ha, Nat.mul_comm 2 q, Nat.mul_assoc]
 have e2 : (2 * q + 1) * bs = a + bs := by rw [Nat.add_mul, e1, Nat.one_mul]
 have b1 := hB (2 * q) (by omega) (by omega)
 have b2 := hB (2 * q + 1) (by omega) (by omega)
 rw [e1] at b1
 rw [e2] at b2
 rw [show min (a + bs) n = a + bs by omega] at b1
 rw [show min (a + bs + bs) n = b by omega] at b2
 refine ⟨fun r h1 h2 => ?_, fun r h1 h2 => ?_⟩
 ·rcases Nat.lt_trichotomy r q with h3 | h3 | h3
  ·have h4 : (r + 1) * (2 * bs) ≤ q * (2 * bs) := Nat.mul_le_mul_right _ h3
   rw [Nat.add_mul, Nat.one_mul, ← ha] at h4
   exact (hA r (by omega) h2).keep ho.1 (by omega)
  ·subst h3
   rw [← ha, ← hb]
   exact b1.join (by omega) (by omega) b2 ho
  ·have h4 : (q + 1) * (2 * bs) ≤ r * (2 * bs) := Nat.mul_le_mul_right _ h3
   rw [Nat.add_mul, Nat.one_mul, ← ha] at h4
   omega
 ·exact (hB r (by omega) h2).keep ho.1 (by omega)
theorem yux' {K : Nat → Int} {σ : Nat → Nat} {n bs a : Nat} {q : Nat} (hbs : 0 < bs) (ha : a = q * (2 * bs)) (hm : n ≤ a + bs) (hA : BlkA K σ n (2 * bs) a) (hB : BlkB K σ n bs a) : BlkA K σ n (2 * bs) n := by
 intro r h1 h2
 rcases Nat.lt_trichotomy r q with h3 | h3 | h3
 ·have h4 : (r + 1) * (2 * bs) ≤ q * (2 * bs) := Nat.mul_le_mul_right _ h3
  rw [Nat.add_mul, Nat.one_mul, ← ha] at h4
  exact hA r (by omega) h2
 ·subst h3
  have e1 : (2 * r) * bs = a := by rw [ha, Nat.mul_comm 2 r, Nat.mul_assoc]
  have b1 := hB (2 * r) (by omega) (by omega)
  rw [e1] at b1
  rw [← ha]
  rw [← ha] at h2
  rw [show min (a + 2 * bs) n = min (a + bs) n by omega]
  exact b1
 ·have h4 : (q + 1) * (2 * bs) ≤ r * (2 * bs) := Nat.mul_le_mul_right _ h3
  rw [Nat.add_mul, Nat.one_mul, ← ha] at h4
  omega
theorem BlkA.whole {K : Nat → Int} {σ : Nat → Nat} {n bs : Nat} (h : BlkA K σ n bs n) (hn : n ≤ bs) : InBlk K σ 0 n := by
 by_cases h0 : n = 0
 ·subst h0
  exact ⟨fun i j g1 g2 g3 => by omega, fun i g1 g2 => by omega⟩
 ·have := h 0 (by omega) (by omega)
  rw [Nat.zero_mul, Nat.zero_add, show min bs n = n by omega] at this
  exact this
end Go.Av
namespace Go.Proofs.YtcnkifbjlihaoaaGreatDoor
open Go.RowKit Go.Av
section
variable {w0 : World} {R : List Thing} {rows : List (Value × Bs)} {g off n c : Nat} {f : Nat → Bs} {Ky : Bs → Int} {ok : Bs → Prop}
set_option maxRecDepth 100000 in
set_option maxHeartbeats 8000000 in
theorem yrb' (hc : ylw' w0 Ky ok) (hf : ∀ i, ok (f i)) (hn : n ≤ 100000) (w : World) (h : Sep w0 w (yaf' 1 (.slice (some ⟨g, off, none⟩) n c) (yap' n (strF f fun i => i)) :: R) rows) :
  Calls Tryz.prog 189 #[.slice (some ⟨g, off, none⟩) n c, .int .i64 (n : Int), yi0'] w (yeq' w0 g off n c f R rows fun τ => PermF 0 n (fun i => i) τ ∧ InBlk (fun i => Ky (f i)) τ 0 n) := by
 have HC := Lib.hid hc
 have HF := Lib.hid hf
 have HX := Lib.hid h
 clear h hc hf
 go_enter Tryz.func189, Tryz.ntmps189
 go_wp2_with fail
 go_loopg [7, 8] n (fun k v v' wr => ∃ (q a : Nat) (σ : Nat → Nat), a = q * 20 ∧ n - a = k ∧ a ≤ n ∧ v = .int .i64 (a : Int) ∧ v' = .int .i64 ((a : Int) + 20) ∧ PermF 0 n (fun i => i) σ ∧ (∀ x, a ≤ x → x < n → σ x = x) ∧ BlkA (fun i => Ky (f i)) σ n 20 a ∧
  Sep w0 wr (yaf' 1 (.slice (some ⟨g, off, none⟩) n c) (yap' n (strF f σ)) :: R) rows)
 case atStart => exact ⟨0, 0, fun i => i, by omega, by omega, by omega, by go_num, by go_num, .refl _ _ _, fun x _ _ => rfl, fun q g1 g2 => by omega, HX.out⟩
 case round =>
  rename World => w
  obtain ⟨q, a, σ, haq, hk, han, rfl, rfl, hp, hid, hA, hS⟩ := hrel
  replace HX := Lib.hid hS
  have HT := Lib.hid (show _ ∧ _ ∧ _ from ⟨hp, hid, hA⟩)
  clear hS hp hid hA
  have HQ := Lib.hid (show _ ∧ _ from ⟨haq, hk⟩)
  clear haq hk
  by_cases hlt : a + 20 ≤ n
  case pos =>
   have q0 : decide ((a : Int) + 20 ≤ (n : Int)) = true := decide_eq_true (by omega)
   have hc2 := ygo' HC.out HF.out HX.out a (a + 20) (by omega) hlt hn (fun x g1 g2 => HT.out.2.1 x g1 (by omega))
   rw [show ((a + 20 : Nat) : Int) = (a : Int) + 20 by omega] at hc2
   go_wp2_with fail
   refine hc2.mono ?_
   rintro e w ⟨τ, rfl, ⟨hp, hb⟩, hx⟩
   clear HX hc2
   have HX := Lib.hid hx
   have HN := Lib.hid (show _ ∧ _ from ⟨hp, hb⟩)
   clear hx hp hb
   go_wp2_with fail
   go_roundg (n - (a + 20))
   case rel =>
    refine ⟨q + 1, a + 20, τ, by have := HQ.out.1; omega, rfl, hlt, by go_num, by go_num, HT.out.1.trans (HN.out.1.wide (by omega) (by omega)), fun x g1 g2 => ?_, fun r g1 g2 => ?_, HX.out⟩
    ·rw [HN.out.1.out x (by omega)]
     exact HT.out.2.1 x (by omega) g2
    ·have hq := HQ.out.1
     by_cases hr : r * 20 < a
     ·exact (HT.out.2.2 r hr g2).keep HN.out.1 (by omega)
     ·have : r = q := by omega
      rw [this, ← hq, show min (a + 20) n = a + 20 by omega]
      exact HN.out.2
   case measure => have := HQ.out.2; omega
  case neg =>
   have q0 : decide ((a : Int) + 20 ≤ (n : Int)) = false := decide_eq_false (by omega)
   have hc2 := ygo' HC.out HF.out HX.out a n han (Nat.le_refl _) hn (fun x g1 g2 => HT.out.2.1 x g1 g2)
   go_wp2_with fail
   refine hc2.mono ?_
   rintro e w ⟨τ, rfl, ⟨hp, hb⟩, hx⟩
   have hA : BlkA (fun i => Ky (f i)) τ n 20 n := fun r g1 g2 => by
    have hq := HQ.out.1
    by_cases hr : r * 20 < a
    ·exact (HT.out.2.2 r hr g2).keep hp (by omega)
    ·have hq := HQ.out.1
     have : r = q := by omega
     rw [this, ← hq, show min (a + 20) n = n by omega]
     exact hb
   have hP := HT.out.1.trans (hp.wide (by omega) (Nat.le_refl _))
   clear HX hc2 HT
   have HX := Lib.hid hx
   have HB := Lib.hid (show _ ∧ _ from ⟨hA, hP⟩)
   clear hx hp hb hA hP hlt han q0
   go_wp2_with fail
   go_loopg [6] (n - 20) (fun k v wr => ∃ (bs : Nat) (σ : Nat → Nat), n - bs = k ∧ v = .int .i64 (bs : Int) ∧ 0 < bs ∧ bs ≤ 200000 ∧ PermF 0 n (fun i => i) σ ∧ BlkA (fun i => Ky (f i)) σ n bs n ∧
    Sep w0 wr (yaf' 1 (.slice (some ⟨g, off, none⟩) n c) (yap' n (strF f σ)) :: R) rows)
   case atStart => exact ⟨20, τ, by omega, by go_num, by omega, by omega, HB.out.2, HB.out.1, HX.out⟩
   case round =>
    rename World => w
    obtain ⟨bs, ρ, hk, rfl, hb0, hb2, hp, hA, hS⟩ := hrel
    clear HX HB
    have HX := Lib.hid hS
    have HB := Lib.hid (show _ ∧ _ ∧ _ from ⟨hp, hA, hk⟩)
    clear hS hp hA hk
    by_cases hbn : bs < n
    case neg =>
     have q1 : decide (bs < n) = false := decide_eq_false hbn
     go_wp2_with fail
     go_end0
     exact ⟨ρ, rfl, ⟨HB.out.1, HB.out.2.1.whole (by omega)⟩, HX.out⟩
    case pos =>
     have q1 : decide (bs < n) = true := decide_eq_true hbn
     go_wp2_with fail
     go_loopg [7, 8] n (fun k v v' wr => ∃ (q a : Nat) (σ : Nat → Nat), a = q * (2 * bs) ∧ n - a = k ∧ a ≤ n ∧ v = .int .i64 (a : Int) ∧ v' = .int .i64 ((a : Int) + 2 * (bs : Int)) ∧ PermF 0 n (fun i => i) σ ∧ BlkA (fun i => Ky (f i)) σ n (2 * bs) a ∧ BlkB (fun i => Ky (f i)) σ n bs a ∧
      Sep w0 wr (yaf' 1 (.slice (some ⟨g, off, none⟩) n c) (yap' n (strF f σ)) :: R) rows)
     case atStart => exact ⟨0, 0, ρ, by omega, by omega, by omega, by go_num, by go_num, HB.out.1, fun q g1 g2 => by omega, fun q g1 g2 => HB.out.2.1 q g2 g2, HX.out⟩
     case round =>
      rename World => w
      obtain ⟨q, a, σ, haq, hk, han, rfl, rfl, hp, hA, hB, hS⟩ := hrel
      have HZ := Lib.hid HB.out.2.2
      clear HX HB
      have HX := Lib.hid hS
      have HT := Lib.hid (show _ ∧ _ ∧ _ from ⟨hp, hA, hB⟩)
      have HQ := Lib.hid (show _ ∧ _ from ⟨haq, hk⟩)
      have e1 : (2 * q) * bs = a := by rw [haq, Nat.mul_comm 2 q, Nat.mul_assoc]
      have e2 : (2 * q + 1) * bs = a + bs := by rw [Nat.add_mul, e1, Nat.one_mul]
      have hin : a + bs < n → MergIn (fun i => Ky (f i)) σ a (a + bs) (min (a + 2 * bs) n) := fun hh => by
       have b1 := hB (2 * q) (by omega) (by omega)
       have b2 := hB (2 * q + 1) (by omega) (by omega)
       rw [e1] at b1
       rw [e2] at b2
       rw [show min (a + bs) n = a + bs by omega] at b1
       rw [show min (a + bs + bs) n = min (a + 2 * bs) n by omega] at b2
       exact b1.merg b2 (by omega) (by omega)
      clear hS hp hA hB haq hk e1 e2
      by_cases hlt : a + 2 * bs ≤ n
      case pos =>
       have q2 : decide ((a : Int) + 2 * (bs : Int) ≤ (n : Int)) = true := decide_eq_true (by omega)
       have hmi := hin (by omega)
       rw [show min (a + 2 * bs) n = a + 2 * bs by omega] at hmi
       have hc2 := yow' HC.out HF.out hn (2 * bs) w σ a (a + bs) (a + 2 * bs) (by omega) hlt hmi HX.out
       rw [show ((a + bs : Nat) : Int) = (a : Int) + (bs : Int) by omega, show ((a + 2 * bs : Nat) : Int) = (a : Int) + 2 * (bs : Int) by omega] at hc2
       have HC2 := Lib.hid hc2
       clear hc2 hmi hin
       go_wp2_with fail
       refine HC2.out.mono ?_
       rintro e w ⟨υ, rfl, ho, hx⟩
       have hbm := yly' hb0 HQ.out.1 (show a + 2 * bs = min (a + 2 * bs) n by omega) (by omega) HT.out.2.1 HT.out.2.2 ho
       clear HX HC2
       have HX := Lib.hid hx
       have HN := Lib.hid (show _ ∧ _ from ⟨ho, hbm⟩)
       clear hx ho hbm
       go_wp2_with fail
       go_roundg (n - (a + 2 * bs))
       case rel => exact ⟨q + 1, a + 2 * bs, υ, by have := HQ.out.1; rw [Nat.add_mul]; omega, rfl, hlt, by go_num, by go_num, HT.out.1.trans (HN.out.1.1.wide (by omega) (by omega)), HN.out.2.1, HN.out.2.2, HX.out⟩
       case measure => have := HQ.out.2; omega
      case neg =>
       have q2 : decide ((a : Int) + 2 * (bs : Int) ≤ (n : Int)) = false := decide_eq_false (by omega)
       by_cases hm : a + bs < n
       ·have q3 : decide ((a : Int) + (bs : Int) < (n : Int)) = true := decide_eq_true (by omega)
        have hmi := hin hm
        rw [show min (a + 2 * bs) n = n by omega] at hmi
        have hc2 := yow' HC.out HF.out hn (2 * bs) w σ a (a + bs) n (by omega) (Nat.le_refl _) hmi HX.out
        rw [show ((a + bs : Nat) : Int) = (a : Int) + (bs : Int) by omega] at hc2
        have HC2 := Lib.hid hc2
        clear hc2 hmi hin
        go_wp2_with fail
        refine HC2.out.mono ?_
        rintro e w ⟨υ, rfl, ho, hx⟩
        have hbm := yly' hb0 HQ.out.1 (show n = min (a + 2 * bs) n by omega) hm HT.out.2.1 HT.out.2.2 ho
        clear HX HC2
        have HX := Lib.hid hx
        have HN := Lib.hid (show _ ∧ _ from ⟨ho, hbm⟩)
        clear hx ho hbm
        go_wp2_with fail
        go_roundg (n - bs * 2)
        case rel => exact ⟨bs * 2, υ, rfl, by go_num, by omega, by omega, HT.out.1.trans (HN.out.1.1.wide (by omega) (by omega)), fun r g1 g2 => by
         have := HN.out.2.1 r
         rw [Nat.mul_comm bs 2] at g1 g2 ⊢
         exact this (by omega) g2, HX.out⟩
        case measure => have := HZ.out; omega
       ·have q3 : decide ((a : Int) + (bs : Int) < (n : Int)) = false := decide_eq_false (by omega)
        have hbl := yux' hb0 HQ.out.1 (by omega) HT.out.2.1 HT.out.2.2
        have HN := Lib.hid hbl
        clear hbl hin
        go_wp2_with fail
        go_roundg (n - bs * 2)
        case rel => exact ⟨bs * 2, σ, rfl, by go_num, by omega, by omega, HT.out.1, by rw [Nat.mul_comm bs 2]; exact HN.out, HX.out⟩
        case measure => have := HZ.out; omega
set_option maxRecDepth 100000 in
theorem yju' (hc : ylw' w0 Ky ok) (hf : ∀ i, ok (f i)) (hn : n ≤ 100000) (w : World) (h : Sep w0 w (yaf' 1 (.slice (some ⟨g, off, none⟩) n c) (yap' n (strF f fun i => i)) :: R) rows) :
  Calls Tryz.prog 153 #[.slice (some ⟨g, off, none⟩) n c, yi0'] w (yeq' w0 g off n c f R rows fun τ => PermF 0 n (fun i => i) τ ∧ InBlk (fun i => Ky (f i)) τ 0 n) := by
 have HS := Lib.hid (yrb' hc hf hn w h)
 clear hc hf h
 go_enter Tryz.func153, Tryz.ntmps153
 go_wp2_with fail
 refine HS.out.mono ?_
 rintro e w ⟨τ, rfl, hx⟩
 have HX := Lib.hid hx
 clear hx HS
 go_wp2_with fail
 go_end0
 exact ⟨τ, rfl, HX.out⟩
end
end Go.Proofs.YtcnkifbjlihaoaaGreatDoor

namespace Go.Av
open Go.RowKit Go.Maps Go.Sort
def ye3' : Value → Option (DataW Unit × List MemPlace) := fun _ => some (.nil, [])
theorem yxv' {P : Program} {k : TypeId} (hk : P.underlying k = some .string) (s : ByteArray) (hs : s.size ≤ maxLen) (e : MapEntry) (he : e.key = .string s) : WideElems.rd P k ye3' e = some (.string s.data.toList, .nil) := by
 simp [WideElems.rd, he, keyOf, hk, mapKey, hs, ye3']
theorem yq0' {P : Program} {w : World} {k : TypeId} {m : Nat} {l : List (ByteArray × Value)} (h : MapIs w .string m (l.map fun x => (.string x.1, x.2))) (hk : P.underlying k = some .string) (hn : l.length ≤ 1000000) (hs : ∀ x ∈ l, x.1.size ≤ maxLen) :
  ∃ D0 : DataW Unit, w.ownsMap P k ye3' m l.length D0 ∧ size D0 = l.length ∧ (strKeys D0).Perm (l.map fun x => x.1.data.toList) := by
 obtain ⟨es, clock, h1, h2, h3, h4⟩ := h
 have hlen : es.size = l.length := by
  have := congrArg List.length h4
  simpa using this
 have hall : ∀ e ∈ es.toList, ∃ x ∈ l, e.key = .string x.1 := by
  intro e he
  have hm : kv e ∈ l.map fun x => (Value.string x.1, x.2) := by rw [← h4]; exact List.mem_map_of_mem he
  obtain ⟨x, hx, hxe⟩ := List.mem_map.1 hm
  exact ⟨x, hx, (congrArg Prod.fst hxe).symm⟩
 refine ⟨_, ⟨es, clock, h1, ⟨by rw [hlen]; unfold maxLen; omega, h2, fun e he => ?_⟩, by omega, rfl⟩, ?_, ?_⟩
 ·obtain ⟨x, hx, hk'⟩ := hall e he
  exact ⟨_, yxv' hk x.1 (hs x hx) e hk'⟩
 ·rw [size_eq, (WideShapes.sorted_perm _).length_eq]
  simpa using hlen
 ·have e1 : (es.toList.map (WideElems.rg P k ye3')).map (fun p => strOf p.1) = l.map fun x => x.1.data.toList := by
   have e2 : es.toList.map (fun e => (kv e).1) = l.map fun x => Value.string x.1 := by
    have := congrArg (List.map Prod.fst) h4
    simpa [Function.comp_def] using this
   have e3 : es.toList.map (fun e => strOf (WideElems.rg P k ye3' e).1) = (es.toList.map (fun e => (kv e).1)).map fun v => match v with | .string s => s.data.toList | _ => [] := by
    rw [List.map_map]
    refine List.map_congr_left fun e he => ?_
    obtain ⟨x, hx, hk'⟩ := hall e he
    have hke : (kv e).1 = .string x.1 := hk'
    simp [Function.comp, hke, WideElems.rg, yxv' hk x.1 (hs x hx) e hk', strOf]
   rw [List.map_map, Function.comp_def, e3, e2, List.map_map]
   rfl
  rw [← e1]
  exact (WideShapes.sorted_perm _).map _
theorem yxu' {P : Program} {k : TypeId} (hk : P.underlying k = some (.int .i64)) (x : Int) (hx : (Lit.int .i64 x).wf = true) (e : MapEntry) (he : e.key = .int .i64 x) : WideElems.rd P k ye3' e = some (.int .i64 x, .nil) := by
 simp [WideElems.rd, he, keyOf, hk, mapKey, hx, ye3']
theorem yv8' {P : Program} {w : World} {k : TypeId} {m : Nat} {l : List (Int × Value)} (h : MapIs w (.int .i64) m (l.map fun x => (.int .i64 x.1, x.2))) (hk : P.underlying k = some (.int .i64)) (hn : l.length ≤ 1000000) (hs : ∀ x ∈ l, (Lit.int .i64 x.1).wf = true) :
  ∃ D0 : DataW Unit, w.ownsMap P k ye3' m l.length D0 ∧ Maps.size D0 = l.length ∧ (intKeys D0).Perm (l.map fun x => x.1) := by
 obtain ⟨es, clock, h1, h2, h3, h4⟩ := h
 have hlen : es.size = l.length := by
  have := congrArg List.length h4
  simpa using this
 have hall : ∀ e ∈ es.toList, ∃ x ∈ l, e.key = .int .i64 x.1 := by
  intro e he
  have hm : kv e ∈ l.map fun x => (Value.int .i64 x.1, x.2) := by rw [← h4]; exact List.mem_map_of_mem he
  obtain ⟨x, hx, hxe⟩ := List.mem_map.1 hm
  exact ⟨x, hx, (congrArg Prod.fst hxe).symm⟩
 refine ⟨_, ⟨es, clock, h1, ⟨by rw [hlen]; unfold maxLen; omega, h2, fun e he => ?_⟩, by omega, rfl⟩, ?_, ?_⟩
 ·obtain ⟨x, hx, hk'⟩ := hall e he
  exact ⟨_, yxu' hk x.1 (hs x hx) e hk'⟩
 ·rw [size_eq, (WideShapes.sorted_perm _).length_eq]
  simpa using hlen
 ·have e1 : (es.toList.map (WideElems.rg P k ye3')).map (fun p => Go.intOf p.1) = l.map fun x => x.1 := by
   have e2 : es.toList.map (fun e => (kv e).1) = l.map fun x => Value.int .i64 x.1 := by
    have := congrArg (List.map Prod.fst) h4
    simpa [Function.comp_def] using this
   have e3 : es.toList.map (fun e => Go.intOf (WideElems.rg P k ye3' e).1) = (es.toList.map (fun e => (kv e).1)).map fun v => match v with | .int _ q => q | _ => 0 := by
    rw [List.map_map]
    refine List.map_congr_left fun e he => ?_
    obtain ⟨x, hx, hk'⟩ := hall e he
    have hke : (kv e).1 = .int .i64 x.1 := hk'
    simp [Function.comp, hke, WideElems.rg, yxu' hk x.1 (hs x hx) e hk', Go.intOf]
   rw [List.map_map, Function.comp_def, e3, e2, List.map_map]
   rfl
  rw [← e1]
  exact (WideShapes.sorted_perm _).map _
theorem y0r' {w : World} {base : Nat} {e : TypeId} {v : Value} {n : Nat} {xs : List Value} (h : w.ownsRow base e 1 v n xs) : ∃ D, OwnRow w 1 v xs D ∧ ∀ b ∈ D, base ≤ b ∧ b < w.heap.size := by
 obtain ⟨hl, ⟨rfl, rfl⟩ | ⟨g, cap, cur, rfl, hg, hh, hn, hc, hs, hx⟩⟩ := h
 ·obtain rfl : xs = [] := List.length_eq_zero_iff.1 (by omega)
  exact ⟨[], OwnRow.nil _ _, by simp⟩
 ·exact ⟨[g], ⟨_, n, cap, rfl, hl, hn, hc, (fun h => by cases h), .inr ⟨g, 0, cur, e, rfl, rfl, hh, by omega, by simpa using hx⟩⟩, by simpa using ⟨hg, ya6' hh⟩⟩
theorem ywk' {w : World} {base : Nat} {e : TypeId} {v : Value} {n : Nat} {xs : List Value} (h : w.ownsRow base e 1 v n xs) : ∃ E, ReadRow w 1 v xs E ∧ ∀ b ∈ E, base ≤ b := by
 obtain ⟨hl, ⟨rfl, rfl⟩ | ⟨g, cap, cur, rfl, hg, hh, hn, hc, hs, hx⟩⟩ := h
 ·obtain rfl : xs = [] := List.length_eq_zero_iff.1 (by omega)
  exact ⟨[], ⟨none, 0, 0, rfl, rfl, Nat.le_refl _, by decide, fun _ => rfl, .inl ⟨rfl, rfl⟩⟩, by simp⟩
 ·refine ⟨[g], ⟨_, n, cap, rfl, hl, hn, hc, (fun h => by cases h), .inr ⟨g, 0, rfl, rfl, ya6' hh, fun i x hi => ?_⟩⟩, by simpa using hg⟩
  rw [cell_of_row w g (0 + i) cur e _ hh, ← hx] at *
  rw [List.getElem?_take] at hi
  split at hi
  ·simpa using hi
  ·cases hi
theorem y01' {n : Int} (h1 : -9223372036854775808 ≤ n) (h2 : n ≤ 9223372036854775807) : (Lit.int .i64 n).wf = true := by
 have e1 : IntKind.i64.min = -9223372036854775808 := by decide
 have e2 : IntKind.i64.max = 9223372036854775807 := by decide
 simp only [Lit.wf, Bool.and_eq_true, decide_eq_true_eq, e1, e2]
 omega
end Go.Av

namespace Go.Proofs
open Go.Shelf
def Tryz.keys131_ren : Go.Shelf.Ren := ⟨fun | 7 => 131 | 10 => 173 | n => n, fun | 23 => 210 | 26 => 9 | 3 => 211 | 28 => 208 | 0 => 0 | 27 => 207 | 33 => 229 | 4 => 4 | n => n, fun | n => n⟩
theorem Tryz.keys131 : Go.Proofs.SlLaysZ.n7 Tryz.prog Tryz.keys131_ren := {
 mixed := by kernel_rfl
 f7 := ⟨Tryz.f131.name, by decide, Tryz.func131.trans (congrArg some (by kernel_rfl))⟩
 f10 := ⟨Tryz.f173.name, by decide, Tryz.func173.trans (congrArg some (by kernel_rfl))⟩
 t0 := Tryz.underlying0
 a0 := Tryz.isAgg0
 z0 := Tryz.sizeOf0
 v0 := Tryz.zeroValue0
 t4 := Tryz.underlying4
 a4 := Tryz.isAgg4
 z4 := Tryz.sizeOf4
 v4 := Tryz.zeroValue4
 t23 := Tryz.underlying210
 a23 := Tryz.isAgg210
 z23 := Tryz.sizeOf210
 v23 := Tryz.zeroValue210
 t26 := Tryz.underlying9
 a26 := Tryz.isAgg9
 z26 := Tryz.sizeOf9
 v26 := Tryz.zeroValue9
 t27 := Tryz.underlying207
 a27 := Tryz.isAgg207
 z27 := Tryz.sizeOf207
 v27 := Tryz.zeroValue207
 t28 := Tryz.underlying208
 a28 := Tryz.isAgg208
 z28 := Tryz.sizeOf208
 v28 := Tryz.zeroValue208
 t33 := Tryz.underlying229
 a33 := Tryz.isAgg229
 z33 := Tryz.sizeOf229
 v33 := Tryz.zeroValue229 }
def Tryz.sorted130_ren : Go.Shelf.Ren := ⟨fun | 6 => 130 | 8 => 171 | 9 => 172 | 11 => 206 | 13 => 200 | 12 => 207 | 23 => 240 | 24 => 241 | 14 => 248 | 15 => 249 | 16 => 250 | 17 => 251 | 18 => 252 | 19 => 253 | 20 => 254 | 21 => 255 | 22 => 256 | 25 => 282 | 26 => 273 | 27 => 274 | 28 => 283 | 29 => 284 | 30 => 285 | 31 => 301 | n => n, fun | 26 => 9 | 28 => 208 | 24 => 94 | 0 => 0 | 3 => 3 | 37 => 250 | 48 => 312 | 50 => 249 | 4 => 4 | 40 => 306 | 39 => 305 | 45 => 242 | 5 => 5 | 9 => 9 | 51 => 333 | 55 => 337 | 57 => 353 | 58 => 162 | 33 => 229 | n => n, fun | n => n⟩
theorem Tryz.sorted130 : Go.Proofs.SlLaysZ.n6 Tryz.prog Tryz.sorted130_ren := {
 mixed := by kernel_rfl
 f6 := ⟨Tryz.f130.name, by decide, Tryz.func130.trans (congrArg some (by kernel_rfl))⟩
 f8 := ⟨Tryz.f171.name, by decide, Tryz.func171.trans (congrArg some (by kernel_rfl))⟩
 f11 := ⟨Tryz.f206.name, by decide, Tryz.func206.trans (congrArg some (by kernel_rfl))⟩
 t0 := Tryz.underlying0
 a0 := Tryz.isAgg0
 z0 := Tryz.sizeOf0
 v0 := Tryz.zeroValue0
 t24 := Tryz.underlying94
 a24 := Tryz.isAgg94
 z24 := Tryz.sizeOf94
 v24 := Tryz.zeroValue94
 t26 := Tryz.underlying9
 a26 := Tryz.isAgg9
 z26 := Tryz.sizeOf9
 v26 := Tryz.zeroValue9
 t28 := Tryz.underlying208
 a28 := Tryz.isAgg208
 z28 := Tryz.sizeOf208
 v28 := Tryz.zeroValue208
 i26 := by kernel_rfl }
def Tryz.sort172_ren : Go.Shelf.Ren := ⟨fun | 6 => 172 | 8 => 200 | 9 => 207 | 19 => 240 | 20 => 241 | 21 => 248 | 22 => 249 | 23 => 250 | 24 => 251 | 25 => 252 | 26 => 253 | 27 => 254 | 28 => 255 | 29 => 256 | 36 => 282 | 31 => 273 | 32 => 274 | 37 => 283 | 38 => 284 | 39 => 285 | 41 => 301 | n => n, fun | 27 => 94 | 29 => 9 | 3 => 3 | 32 => 250 | 26 => 94 | 0 => 0 | 44 => 312 | 46 => 249 | 4 => 4 | 36 => 306 | 35 => 305 | 41 => 242 | 5 => 5 | 9 => 9 | 53 => 333 | 57 => 337 | 63 => 353 | 64 => 162 | n => n, fun | n => n⟩
theorem Tryz.sort172 : Go.Proofs.SlLaysM.n6 Tryz.prog Tryz.sort172_ren := {
 mixed := by kernel_rfl
 f6 := ⟨Tryz.f172.name, by decide, Tryz.func172.trans (congrArg some (by kernel_rfl))⟩
 f8 := Tryz.func200.trans (congrArg some (by kernel_rfl))
 f9 := ⟨Tryz.f207.name, by decide, Tryz.func207.trans (congrArg some (by kernel_rfl))⟩
 f19 := Tryz.func240.trans (congrArg some (by kernel_rfl))
 f20 := Tryz.func241.trans (congrArg some (by kernel_rfl))
 f21 := ⟨Tryz.f248.name, by decide, Tryz.func248.trans (congrArg some (by kernel_rfl))⟩
 f22 := ⟨Tryz.f249.name, by decide, Tryz.func249.trans (congrArg some (by kernel_rfl))⟩
 f23 := ⟨Tryz.f250.name, by decide, Tryz.func250.trans (congrArg some (by kernel_rfl))⟩
 f24 := ⟨Tryz.f251.name, by decide, Tryz.func251.trans (congrArg some (by kernel_rfl))⟩
 f25 := ⟨Tryz.f252.name, by decide, Tryz.func252.trans (congrArg some (by kernel_rfl))⟩
 f26 := ⟨Tryz.f253.name, by decide, Tryz.func253.trans (congrArg some (by kernel_rfl))⟩
 f27 := ⟨Tryz.f254.name, by decide, Tryz.func254.trans (congrArg some (by kernel_rfl))⟩
 f28 := ⟨Tryz.f255.name, by decide, Tryz.func255.trans (congrArg some (by kernel_rfl))⟩
 f29 := ⟨Tryz.f256.name, by decide, Tryz.func256.trans (congrArg some (by kernel_rfl))⟩
 f31 := Tryz.func273.trans (congrArg some (by kernel_rfl))
 f32 := Tryz.func274.trans (congrArg some (by kernel_rfl))
 f36 := ⟨Tryz.f282.name, by decide, Tryz.func282.trans (congrArg some (by kernel_rfl))⟩
 f37 := ⟨Tryz.f283.name, by decide, Tryz.func283.trans (congrArg some (by kernel_rfl))⟩
 f38 := ⟨Tryz.f284.name, by decide, Tryz.func284.trans (congrArg some (by kernel_rfl))⟩
 f39 := ⟨Tryz.f285.name, by decide, Tryz.func285.trans (congrArg some (by kernel_rfl))⟩
 f41 := ⟨Tryz.f301.name, by decide, Tryz.func301.trans (congrArg some (by kernel_rfl))⟩
 t0 := Tryz.underlying0
 a0 := Tryz.isAgg0
 z0 := Tryz.sizeOf0
 v0 := Tryz.zeroValue0
 t3 := Tryz.underlying3
 a3 := Tryz.isAgg3
 z3 := Tryz.sizeOf3
 v3 := Tryz.zeroValue3
 t4 := Tryz.underlying4
 a4 := Tryz.isAgg4
 z4 := Tryz.sizeOf4
 v4 := Tryz.zeroValue4
 t5 := Tryz.underlying5
 a5 := Tryz.isAgg5
 z5 := Tryz.sizeOf5
 v5 := Tryz.zeroValue5
 t9 := Tryz.underlying9
 a9 := Tryz.isAgg9
 z9 := Tryz.sizeOf9
 v9 := Tryz.zeroValue9
 t26 := Tryz.underlying94
 a26 := Tryz.isAgg94
 z26 := Tryz.sizeOf94
 v26 := Tryz.zeroValue94
 t27 := Tryz.underlying94
 a27 := Tryz.isAgg94
 z27 := Tryz.sizeOf94
 v27 := Tryz.zeroValue94
 t29 := Tryz.underlying9
 a29 := Tryz.isAgg9
 z29 := Tryz.sizeOf9
 v29 := Tryz.zeroValue9
 t32 := Tryz.underlying250
 a32 := Tryz.isAgg250
 z32 := Tryz.sizeOf250
 v32 := Tryz.zeroValue250
 t35 := Tryz.underlying305
 a35 := Tryz.isAgg305
 z35 := Tryz.sizeOf305
 v35 := Tryz.zeroValue305
 t36 := Tryz.underlying306
 a36 := Tryz.isAgg306
 z36 := Tryz.sizeOf306
 v36 := Tryz.zeroValue306
 t41 := Tryz.underlying242
 a41 := Tryz.isAgg242
 z41 := Tryz.sizeOf242
 v41 := Tryz.zeroValue242
 t44 := Tryz.underlying312
 a44 := Tryz.isAgg312
 z44 := Tryz.sizeOf312
 v44 := Tryz.zeroValue312
 t46 := Tryz.underlying249
 a46 := Tryz.isAgg249
 z46 := Tryz.sizeOf249
 v46 := Tryz.zeroValue249
 t53 := Tryz.underlying333
 a53 := Tryz.isAgg333
 z53 := Tryz.sizeOf333
 v53 := Tryz.zeroValue333
 t57 := Tryz.underlying337
 a57 := Tryz.isAgg337
 z57 := Tryz.sizeOf337
 v57 := Tryz.zeroValue337
 t63 := Tryz.underlying353
 a63 := Tryz.isAgg353
 z63 := Tryz.sizeOf353
 v63 := Tryz.zeroValue353
 t64 := Tryz.underlying162
 a64 := Tryz.isAgg162
 z64 := Tryz.sizeOf162
 v64 := Tryz.zeroValue162 }
open Go.RowKit Go.Maps Go.Sort Go.Shelf
theorem Tryz.sorts130 (m : Nat) : AnyZ.SortsIn Tryz.prog Tryz.sorted130_ren Fence.wide m :=
  ⟨fun blk off cap ss W hH hblk hsz => callsIn_wide.2 (AnyM.slices_Sort_string Tryz.sort172 blk off cap ss W hH hblk hsz),
   fun p cap W => callsIn_wide.2 (AnyM.slices_Sort_string_none Tryz.sort172 p cap W)⟩
theorem Tryz.maps_Keys_131 (mb : Option Nat) (W : World) : CallsIn Fence.wide 5 Tryz.prog 131 #[.map mb] W fun e w' => e = .returned (.func (.func 173) #[] #[.pointer (some ⟨W.heap.size, 0, none⟩)]) ∧ w' = W.alloc (.cells #[.map mb] 210) :=
 AnyZ.keys_in Tryz.keys131 Fence.wide 5 trivial rfl mb W
set_option maxHeartbeats 1000000 in
theorem Tryz.slices_Sorted_keys_130_131 {H : Type} (b nn : Nat) (D0 : DataW H) (R : Value → Option (DataW H × List MemPlace)) (w : World) (hown : w.ownsMap Tryz.prog 9 R b nn D0) (hmax : Maps.size D0 ≤ maxLen) (hbytes : Maps.size D0 * 16 ≤ 140737488355328) :
  CallsIn Fence.wide 5 Tryz.prog 130 #[.func (.func 173) #[] #[.pointer (some ⟨w.heap.size, 0, none⟩)]] (w.alloc (.cells #[.map (some b)] 210)) fun e w' => ∃ (v : Value) (ss : List (List UInt8)), e = .returned v ∧ ss.Perm (strKeys D0) ∧
   w'.ownsRow (w.alloc (.cells #[.map (some b)] 210)).heap.size 9 1 v ss.length ((ss.mergeSort (fun x y => decide (x ≤ y))).map encStr) ∧ (v = .slice none 0 0 ↔ ss = []) ∧ Below (w.alloc (.cells #[.map (some b)] 210)).heap.size (w.alloc (.cells #[.map (some b)] 210)) w' := by
 have hbl := hown.lt
 have hseq : SeqGives Fence.wide 2 Tryz.prog 173 #[.pointer (some ⟨w.heap.size, 0, none⟩)] encStr (fun ss => ss.Perm (strKeys D0)) (Maps.size D0) (w.alloc (.cells #[.map (some b)] 210)) :=
  AnyZ.keys_gives (ρ := Tryz.keys131_ren) { Tryz.keys131 with } Fence.wide _ trivial rfl (by omega) w.heap.size b nn D0 _ (by simp) (by simp) (by
   obtain ⟨es, clock, hb, Ft, hs, hD⟩ := hown
   exact ⟨es, clock, (Below.heap_alloc _ _ b hbl).trans hb, Ft, hs, hD⟩)
 exact AnyZ.sorted_in Tryz.sorted130 Fence.wide 5 trivial trivial trivial trivial rfl (by omega) (Tryz.sorts130 _) (enters_of Tryz.func172 (by kernel_rfl) rfl) 173 #[.pointer (some ⟨w.heap.size, 0, none⟩)] trivial (enters_of Tryz.func173 (by kernel_rfl) rfl) _ _ hmax hbytes _ hseq
end Go.Proofs

namespace Go.Av
open Go.RowKit Go.Sort Go.Maps
theorem yon' {l ss : List Bs} (hr : l.Pairwise (· < ·)) (hp : ss.Perm l) : ss.mergeSort (fun x y => decide (x ≤ y)) = l := by
 refine (mergeSort_of_perm hp).trans ?_
 refine List.mergeSort_of_pairwise (List.Pairwise.imp (fun h => ?_) hr)
 simp only [leB, decide_eq_true_eq]
 exact List.le_of_lt h
def ofT (S : TreeS) (sess : Int) : List Bs := (S.l.filter fun e => decide (0 < sess) && e.2.owner == sess).map (·.1)
end Go.Av
namespace Go.Proofs.YtcnkifbjlihaoaaGreatDoor
open Go.RowKit Go.Av Go.Maps Go.Sort
section
variable {w0 w : World} {t : Nat} {S : TreeS} {P P' : List PRow} {R : List Thing} {rows : List (Value × Bs)}
def yo2' (w0 : World) (t : Nat) (S : TreeS) (P : List PRow) (R : List Thing) (rows : List (Value × Bs)) (l : List Bs) (e : Ending) (w' : World) : Prop :=
 ∃ v P', e = .returned v ∧ (∀ r ∈ P, r ∈ P') ∧ (1, v, l.map sv) ∈ P' ∧ Sep w0 w' (yab' w0 P' :: yaj' t S P' :: R) rows
set_option maxRecDepth 100000 in
set_option maxHeartbeats 4000000 in
theorem ym0' (h : Sep w0 w (yab' w0 P :: yaj' t S P :: R) rows) (hn : S.l.length ≤ 100000) (hk : ∀ e ∈ S.l, e.1.length ≤ 100000) :
  Calls Tryz.prog 50 #[.pointer (some ⟨t, 0, none⟩)] w (yo2' w0 t S P R rows (S.l.map (·.1))) := by
 obtain ⟨m, gs, hperm, hrise, hgs, hS⟩ := yg8' (h.perm (List.Perm.swap _ _ _))
 obtain ⟨D, hM, -⟩ := hS.has (T := yam' .string m (gs.map NodeG.kv)) (by simp)
 have hgl : gs.length = S.l.length := by rw [← hperm.length_eq, List.length_map]
 obtain ⟨D0, ho, hz, hp⟩ := yq0' (P := Tryz.prog) (k := 9) (l := gs.map fun g => (⟨g.key.toArray⟩, Value.pointer (some ⟨g.blk, 0, none⟩))) (by rw [List.map_map]; exact hM) Tryz.underlying9 (by simp; omega) (by
  intro x hx
  obtain ⟨g, hg, rfl⟩ := List.mem_map.1 hx
  have := hk g.ent (hperm.mem_iff.1 (List.mem_map_of_mem hg))
  unfold maxLen
  show g.key.toArray.size ≤ _
  simp only [List.size_toArray]
  have h2 : g.ent.1 = g.key := rfl
  rw [h2] at this
  omega)
 rw [List.length_map] at hz
 have HP := Lib.hid (show (strKeys D0).Perm (S.l.map (·.1)) from hp.trans (by
  rw [List.map_map]
  have := hperm.map (·.1)
  rw [List.map_map] at this
  exact this))
 have HRI := Lib.hid hrise
 have HC := Lib.hid (show _ ∧ _ ∧ _ from ⟨hperm, hrise, hgs⟩)
 have HX := Lib.hid hS
 have cK := callsIn_wide.1 (Tryz.maps_Keys_131 (some m) w)
 have cS := callsIn_wide.1 (Tryz.slices_Sorted_keys_130_131 m _ D0 ye3' w ho (by rw [hz]; unfold maxLen; omega) (by rw [hz]; omega))
 have CK := Lib.hid cK
 have CS := Lib.hid cS
 clear cK cS ho hz hp h hperm hrise hgs hS hM
 go_enter Tryz.func50, Tryz.ntmps50
 go_wp2_with (first | refine v1 ?_ | (refine vS ?_; clear HX; intro w HX) | (refine vA ?_; clear HX; (first | (have hq := b; clear hq; intro w b2 HX) | intro w b HX)) | (go_at_call 131; go_must (refine CK.out.mono ?_); rintro e w1 ⟨rfl, rfl⟩) | (go_at_call 130; go_must (refine CS.out.mono ?_); rintro e w1 ⟨v, ss, rfl, hS, hrow, hnil, hb⟩))
 go_ret
 obtain ⟨E, hr, hE⟩ := ywk' hrow
 have hss : ss.mergeSort (fun x y => decide (x ≤ y)) = S.l.map (·.1) := yon' HRI.out (hS.trans HP.out)
 rw [hss] at hr
 have hsz : w.heap.size ≤ (w.alloc (.cells #[.map (some m)] 210)).heap.size := by simp
 have h1 := (HX.out.up3).poolRead hr (fun b hb => Nat.le_trans hsz (hE b hb)) ((Upd.alloc0 w _ []).trans (Upd.of_below hb))
 obtain ⟨hperm, hrise, hgs⟩ := HC.out
 have h2 := yg9' (S := S) (P := (1, v, (S.l.map (·.1)).map sv) :: P) (h1.up3.up3.up3) hperm hrise (fun g hg => k_n _ (hgs g hg))
 exact ⟨v, _, rfl, fun q hq => k_n _ hq, k_s, h2.up1⟩
theorem yzz' {S : TreeS} {sess : Int} {i : Nat} (hi : i < S.l.length) : ofT ⟨S.room, S.l.take (i + 1)⟩ sess = ofT ⟨S.room, S.l.take i⟩ sess ++ (if decide (0 < sess) && S.l[i].2.owner == sess then [S.l[i].1] else []) := by
 unfold ofT
 dsimp only
 rw [List.take_succ_eq_append_getElem hi, List.filter_append, List.map_append]
 congr 1
 cases hq : (decide (0 < sess) && S.l[i].2.owner == sess) <;> simp [List.filter_cons, hq]
def yrt' (w0 : World) (t : Nat) (S : TreeS) (P : List PRow) (R : List Thing) (rows : List (Value × Bs)) (l : List Bs) (e : Ending) (w' : World) : Prop :=
 ∃ v P', e = .returned v ∧ (∀ r ∈ P, r ∈ P') ∧ Sep w0 w' (yaf' 1 v (l.map sv) :: yab' w0 P' :: yaj' t S P' :: R) rows
def y0a' (w0 : World) (t : Nat) (S : TreeS) (P : List PRow) (R : List Thing) (rows : List (Value × Bs)) (sess : Int) (k : Nat) (v5 v11 : Value) (w : World) : Prop :=
 ∃ (i : Nat) (a : Option Addr) (n c : Nat), i + k = S.l.length ∧ v11 = .int .i64 (i : Int) ∧ v5 = .slice a n c ∧ Sep w0 w (yaf' 1 (.slice a n c) ((ofT ⟨S.room, S.l.take i⟩ sess).map sv) :: yab' w0 P :: yaj' t S P :: R) rows
set_option maxRecDepth 100000 in
set_option maxHeartbeats 4000000 in
theorem yks' (h : Sep w0 w (yab' w0 P :: yaj' t S P :: R) rows) (sess : Int) (hn : S.l.length ≤ 100000) (hk : ∀ e ∈ S.l, e.1.length ≤ 100000) :
  Calls Tryz.prog 80 #[.pointer (some ⟨t, 0, none⟩), .int .i64 sess] w (yrt' w0 t S P R rows (ofT S sess)) := by
 have HN := Lib.hid hn
 have HK := Lib.hid hk
 have HX := Lib.hid h
 clear hn hk h
 go_enter Tryz.func80, Tryz.ntmps80
 go_wp2_with (first | refine v1 ?_ | (refine vS ?_; clear HX; intro w HX) | (refine vA ?_; clear HX; (first | (have hq := b; clear hq; intro w b2 HX) | intro w b HX)) | (refine vP ?_; clear HX; intro w av nv cv HX))
 refine (ym0' HX.out HN.out HK.out).mono ?_
 rintro e w ⟨v, P', rfl, hP', hv, hS⟩
 obtain ⟨E, hE⟩ := hS.poolGet hv
 obtain ⟨a0, n0, c0, rfl, hl0, hn0, hc0, hne⟩ := ReadRow.some hE
 rw [List.length_map, List.length_map, Nat.mul_one] at hl0
 subst hl0
 replace HX := Lib.hid hS
 have HNE := Lib.hid hne
 have HV := Lib.hid hv
 have HPP := Lib.hid hP'
 clear hS hE hne hv hP' hn0 hc0
 have HST := Lib.hid (show y0a' w0 t S P' R rows sess S.l.length (.slice none 0 0) (.int .i64 (0 : Int)) w from ⟨0, none, 0, 0, by simp, rfl, rfl, HX.out.nilRow 1⟩)
 clear HX
 go_wp2_with (first | refine v1 ?_ | (refine vS ?_; clear HX; intro w HX) | (refine vA ?_; clear HX; (first | (have hq := b; clear hq; intro w b2 HX) | intro w b HX)) | (refine vP ?_; clear HX; intro w av nv cv HX))
 go_loopg [5, 11] S.l.length (fun k v5 v11 wr => y0a' w0 t S P' R rows sess k v5 v11 wr)
 case atStart => exact HST.out
 case round =>
  obtain ⟨i, a, n, c, hik, rfl, rfl, hS⟩ := hrel
  have HIK := Lib.hid hik
  by_cases hlt : i < S.l.length
  case neg =>
   obtain rfl : i = S.l.length := by omega
   have HX := Lib.hid hS
   clear hS hlt hik
   go_wp2_with (first | refine v1 ?_ | (refine vS ?_; clear HX; intro w HX) | (refine vA ?_; clear HX; (first | (have hq := b; clear hq; intro w b2 HX) | intro w b HX)) | (refine vP ?_; clear HX; intro w av nv cv HX))
   go_ret
   have h1 := HX.out
   rw [List.take_length] at h1
   exact ⟨_, P', rfl, HPP.out, h1⟩
  case pos =>
   have hmem : S.l[i] ∈ S.l := List.getElem_mem hlt
   have hlook : yal' S.l[i].1 S.l = some S.l[i].2 := (ybm' (yc8' hS.up2)).2 hmem
   have hnd := yc8' hS.up2
   obtain ⟨g, off, rfl⟩ := HNE.out (by intro e; rw [List.map_map, List.map_eq_nil_iff] at e; rw [e] at hlt; simp at hlt)
   obtain ⟨E, hE⟩ := hS.up1.poolGet HV.out
   have hl := ybz' (P := Tryz.prog) (ty := 9) (i := i) (v := sv S.l[i].1) hE (by kernel_rfl) (by simp [hlt])
   obtain ⟨m, x, nv, kvs, N, hnv, hkv, hS2, back⟩ := yuh' hS.up2 hlook
   have HB := Lib.hid (show ∀ w' R', Sep w0 w' (yf2' x S.l[i].2 nv :: yc7' t m S.room :: yam' .string m kvs :: ThL N :: R') rows → Sep w0 w' (yaj' t S P' :: R') rows from fun w' R' hh => by
    have := back w' S.l[i].2 nv P' R' (fun _ h => h) hnv hh
    rw [ynd' hnd hlook] at this
    exact this)
   have HT := Lib.hid (yzz' (sess := sess) hlt)
   obtain ⟨en, hen⟩ : ∃ en, S.l[i] = en := ⟨_, rfl⟩
   rw [hen] at HT hl hS2 hkv HB
   obtain ⟨ps, hps⟩ : ∃ ps : ByteArray, ps = ⟨en.1.toArray⟩ := ⟨_, rfl⟩
   have hpv : sv en.1 = .string ps := by rw [hps]; rfl
   have hpl : ps.data.toList = en.1 := by rw [hps]
   rw [hpv] at hl hkv
   have hlk := ypg' (Lib.hid hS2) ps (by (repeat (first | (with_reducible exact k_s) | (with_reducible apply k_m)))) (by rw [hpl, hpv]; exact hkv)
   have HX := Lib.hid hS2
   have HPV := Lib.hid hpv
   have q0 : decide (i < S.l.length) = true := decide_eq_true hlt
   have q9 : i ≤ 100000 := by have := HN.out; omega
   obtain ⟨zs, hzs⟩ : ∃ z, decide (0 < sess) = z := ⟨_, rfl⟩
   obtain ⟨zo, hzo⟩ : ∃ z, (en.2.owner == sess) = z := ⟨_, rfl⟩
   rw [hzs, hzo] at HT
   clear hS hS2 hlook hnd hE back hen hps hpv hpl hkv hnv hmem
   cases zs with
   | false =>
    go_wp2_with (first | refine v1 ?_ | (refine vS ?_; clear HX; intro w HX) | (refine vA ?_; clear HX; (first | (have hq := b; clear hq; intro w b2 HX) | intro w b HX)) | (refine vP ?_; clear HX; intro w av nv cv HX) | ((with_reducible apply yau' hl); (· rfl); (· rfl); simp only [Act.put, k_a, k_b, k_c]))
    go_roundg (S.l.length - (i + 1))
    case rel =>
     have h2 := HB.out _ _ HX.out
     refine ⟨i + 1, a, n, c, by omega, by go_num, rfl, ?_⟩
     rw [HT.out]
     simp only [Bool.false_and, Bool.false_eq_true, if_false, List.append_nil]
     exact Sep.pm h2 3 [1, 2, 0] rfl rfl
    case measure => omega
   | true =>
    cases zo with
    | false =>
     go_wp2_with (first | refine v1 ?_ | (refine vS ?_; clear HX; intro w HX) | (refine vA ?_; clear HX; (first | (have hq := b; clear hq; intro w b2 HX) | intro w b HX)) | (refine vP ?_; clear HX; intro w av nv cv HX) | ((with_reducible apply yau' hl); (· rfl); (· rfl); simp only [Act.put, k_a, k_b, k_c]))
     go_roundg (S.l.length - (i + 1))
     case rel =>
      have h2 := HB.out _ _ HX.out
      refine ⟨i + 1, a, n, c, by omega, by go_num, rfl, ?_⟩
      rw [HT.out]
      simp only [Bool.and_false, Bool.false_eq_true, if_false, List.append_nil]
      exact Sep.pm h2 3 [1, 2, 0] rfl rfl
     case measure => omega
    | true =>
     have HBD := Lib.hid (show ∀ n, ((ofT ⟨S.room, S.l.take i⟩ sess).map sv).length = n * 1 → n + 1 ≤ 140737488355328 ∧ (n + 1) * 16 ≤ 140737488355328 from fun n hn => by
      have h1 : (ofT ⟨S.room, S.l.take i⟩ sess).length ≤ S.l.length := by
       unfold ofT
       rw [List.length_map]
       exact Nat.le_trans (List.length_filter_le _ _) (by simp; omega)
      have h2 := HN.out
      rw [List.length_map] at hn
      omega)
     go_wp2_with (first | refine v1 ?_ | (refine vS ?_; clear HX; intro w HX) | (refine vA ?_; clear HX; (first | (have hq := b; clear hq; intro w b2 HX) | intro w b HX)) | (refine vP ?_; clear HX; intro w av nv cv HX) | ((with_reducible apply yau' hl); (· rfl); (· rfl); simp only [Act.put, k_a, k_b, k_c]))
     go_roundg (S.l.length - (i + 1))
     case rel =>
      have h1 := HX.out.cut1
      have h2 := HB.out _ _ (h1.up4.up4.up4.up4)
      refine ⟨i + 1, av, nv, cv, by omega, by go_num, rfl, ?_⟩
      rw [HT.out]
      simp only [Bool.and_self, if_true, List.map_append, List.map_cons, List.map_nil, HPV.out]
      exact Sep.pm h2 3 [1, 2, 0] rfl rfl
     case measure => omega
theorem yz4' (h : Sep w0 w (yab' w0 P :: yaj' t S P :: R) rows) (sess : Int) (hn : S.l.length ≤ 100000) (hk : ∀ e ∈ S.l, e.1.length ≤ 100000) :
  Calls Tryz.prog 80 #[.pointer (some ⟨t, 0, none⟩), .int .i64 sess] w (yo2' w0 t S P R rows (ofT S sess)) :=
 (yks' h sess hn hk).mono fun e w' ⟨v, P', he, hP, hS⟩ =>
  ⟨v, (1, v, (ofT S sess).map sv) :: P', he, fun q hq => k_n _ (hP q hq), k_s, (yaz' hS.poolRow.up1 (P' := (1, v, (ofT S sess).map sv) :: P') (fun q hq => k_n _ hq)).up1⟩
end
end Go.Proofs.YtcnkifbjlihaoaaGreatDoor

namespace Go.Av
open Go.RowKit
def ydr' (p : Bs) : Nat := (ybs' p).length
def yen' (l : List Bs) : List Bs := [8, 7, 6, 5, 4, 3, 2, 1].flatMap fun d => l.filter fun p => ydr' p == d
theorem ymb' {α : Type} (k : α → Nat) : ∀ (ds : List Nat) (l : List α), ds.Nodup → (∀ x ∈ l, k x ∈ ds) → (ds.flatMap fun d => l.filter fun x => k x == d).Perm l
 | [], l, _, h => by
  cases l with
  | nil => exact .refl _
  | cons x l => exact absurd (h x k_s) (by simp)
 | d :: ds, l, hn, h => by
  rw [List.flatMap_cons]
  have hne : ∀ d' ∈ ds, d' ≠ d := fun d' hd e => (List.nodup_cons.1 hn).1 (e ▸ hd)
  have he : (ds.flatMap fun d' => l.filter fun x => k x == d') = ds.flatMap fun d' => (l.filter fun x => !(k x == d)).filter fun x => k x == d' := by
   rw [List.flatMap_def, List.flatMap_def]
   congr 1
   apply List.map_congr_left
   intro d' hd
   rw [List.filter_filter]
   apply List.filter_congr
   intro x _
   have := hne d' hd
   by_cases hx : k x = d'
   ·have h2 : ¬ k x = d := by omega
    simp [hx, this]
   ·simp [hx]
  rw [he]
  refine ((ymb' k ds (l.filter fun x => !(k x == d)) (List.nodup_cons.1 hn).2 (fun x hx => ?_)).append_left _).trans (List.filter_append_perm _ l)
  have h1 := List.mem_filter.1 hx
  have h2 := h x h1.1
  simp at h1
  rcases List.mem_cons.1 h2 with h3 | h3
  ·exact absurd h3 h1.2
  ·exact h3
theorem yt5' (f : Nat → Bs) (n : Nat) (τ : Nat → Nat) (hp : PermF 0 n (fun i => i) τ) (hb : InBlk (fun i => -(ydr' (f i) : Int)) τ 0 n) :
  (((List.range n).map τ).map f).Perm ((List.range n).map f) ∧ ((∀ i, i < n → 1 ≤ ydr' (f i) ∧ ydr' (f i) ≤ 8) → ((List.range n).map τ).map f = yen' ((List.range n).map f)) := by
 have hpm : ((List.range n).map τ).Perm (List.range n) := by
  have := hp.all n (Nat.le_refl _)
  rwa [List.map_id'] at this
 refine ⟨hpm.map f, fun hd => ?_⟩
 have he : (List.range n).map τ = [8, 7, 6, 5, 4, 3, 2, 1].flatMap fun d => (List.range n).filter fun i => ydr' (f i) == d := by
  refine yk9' (K := fun i => -(ydr' (f i) : Int)) (hpm.trans (ymb' (fun i => ydr' (f i)) _ _ (by decide) (fun i hi => ?_)).symm) ?_ ?_
  ·have := hd i (List.mem_range.1 hi)
   simp
   omega
  ·rw [List.pairwise_map]
   refine List.Pairwise.imp_of_mem ?_ List.pairwise_lt_range
   intro i j hi hj hij
   exact hb.sort i j (Nat.zero_le _) hij (List.mem_range.1 hj)
  ·rw [List.pairwise_flatMap]
   refine ⟨fun d _ => ?_, ?_⟩
   ·refine List.Pairwise.imp_of_mem ?_ (List.pairwise_lt_range.filter _)
    intro i j hi hj hij
    have h1 := (List.mem_filter.1 hi).2
    have h2 := (List.mem_filter.1 hj).2
    simp at h1 h2
    exact .inr ⟨show -(ydr' (f i) : Int) = -(ydr' (f j) : Int) by rw [h1, h2], hij⟩
   ·have : ([8, 7, 6, 5, 4, 3, 2, 1] : List Nat).Pairwise (fun a b => b < a) := by decide
    refine this.imp ?_
    intro a b hab x hx y hy
    have h1 := (List.mem_filter.1 hx).2
    have h2 := (List.mem_filter.1 hy).2
    simp at h1 h2
    exact .inl (show -(ydr' (f x) : Int) < -(ydr' (f y) : Int) by rw [h1, h2]; omega)
 rw [he]
 unfold yen'
 rw [List.map_flatMap]
 rw [List.flatMap_def, List.flatMap_def]
 congr 1
 apply List.map_congr_left
 intro d _
 rw [List.filter_map]
 rfl
def purT (l : List Bs) (S : TreeS) : TreeS := l.foldl (fun S p => { S with l := remT p S.l }) S
theorem ypt' {K : Nat} : ∀ (l : List Bs) {S : TreeS}, TreeB K S → TreeB K (purT l S)
 | [], _, h => h
 | p :: l, S, h => ypt' l (y0y' h p)
theorem ytl' {l : List Bs} {S : TreeS} {i : Nat} (hi : i < l.length) : purT (l.take (i + 1)) S = { purT (l.take i) S with l := remT l[i] (purT (l.take i) S).l } := by
 rw [List.take_succ_eq_append_getElem hi]
 unfold purT
 rw [List.foldl_append]
 rfl
end Go.Av
namespace Go.Proofs.YtcnkifbjlihaoaaGreatDoor
open Go.RowKit Go.Av
section
variable {w0 w : World} {t : Nat} {S : TreeS} {P P' : List PRow} {R : List Thing} {rows : List (Value × Bs)}
set_option maxRecDepth 100000 in
theorem yu2' (a b : Int) (w : World) : Calls Tryz.prog 155 #[.int .i64 a, .int .i64 b] w fun e w' => (∃ r : Int, e = .returned (.int .i64 r) ∧ (r < 0 ↔ a < b)) ∧ w' = w := by
 have qa : (a != a) = false := by simp
 have qb : (b != b) = false := by simp
 rcases Int.lt_trichotomy a b with h | h | h
 ·have q1 : decide (a < b) = true := decide_eq_true h
  go_enter Tryz.func155, Tryz.ntmps155
  go_wp2
  go_ret
  exact ⟨⟨_, rfl, by omega⟩, rfl⟩
 ·subst h
  have q1 : decide (a < a) = false := decide_eq_false (by omega)
  go_enter Tryz.func155, Tryz.ntmps155
  go_wp2
  go_ret
  exact ⟨⟨_, rfl, by omega⟩, rfl⟩
 ·have q1 : decide (a < b) = false := decide_eq_false (by omega)
  have q2 : decide (b < a) = true := decide_eq_true h
  go_enter Tryz.func155, Tryz.ntmps155
  go_wp2
  go_ret
  exact ⟨⟨_, rfl, by omega⟩, rfl⟩
set_option maxRecDepth 100000 in
theorem yvx' (hd : DoorN w0) : ylw' w0 (fun p => -(ydr' p : Int)) (fun p => p.length ≤ 100000) := by
 intro x y w R rows hx hy h
 have HX := Lib.hid h
 have hpy := yfa' ⟨y.toArray⟩
 have hpx := yfa' ⟨x.toArray⟩
 have HPY := Lib.hid (fun w hw => hpy w hw (by show y.toArray.size ≤ _; rw [List.size_toArray]; unfold maxLen; omega))
 have HPX := Lib.hid (fun w hw => hpx w hw (by show x.toArray.size ≤ _; rw [List.size_toArray]; unfold maxLen; omega))
 clear h hpx hpy
 unfold sv
 go_enter Tryz.func154, Tryz.ntmps154
 go_wp2_with fail
 refine (HPY.out w (hd.1.sep HX.out)).mono ?_
 rintro e w ⟨v, D, rfl, ho, hu⟩
 obtain ⟨a, n, c, rfl, hl, hn, hc, -⟩ := id ho
 rw [List.length_map, Nat.mul_one] at hl
 have hx2 := HX.out.keep (hu.mono (fun _ h => h) (fun b hb => by cases hb) : Upd _ w [] [])
 clear HX HPY
 have HX := Lib.hid hx2
 clear hx2 ho hu
 go_wp2_with fail
 refine (HPX.out w (hd.1.sep HX.out)).mono ?_
 rintro e w ⟨v, D, rfl, ho, hu⟩
 obtain ⟨a2, n2, c2, rfl, hl2, hn2, hc2, -⟩ := id ho
 rw [List.length_map, Nat.mul_one] at hl2
 have hx2 := HX.out.keep (hu.mono (fun _ h => h) (fun b hb => by cases hb) : Upd _ w [] [])
 clear HX HPX
 have HX := Lib.hid hx2
 clear hx2 ho hu
 go_wp2_with fail
 refine (yu2' _ _ _).mono ?_
 rintro e w1 ⟨⟨r, rfl, hr⟩, rfl⟩
 go_wp2_with fail
 go_ret
 refine ⟨r, rfl, hr.trans ?_, HX.out⟩
 have e1 : (ybs' y).length = n := hl
 have e2 : (ybs' x).length = n2 := hl2
 show (n : Int) < (n2 : Int) ↔ -((ybs' x).length : Int) < -((ybs' y).length : Int)
 omega
set_option maxRecDepth 100000 in
theorem yk8' (a : Option Addr) (c : Nat) (fv : Value) (w : World) : Calls Tryz.prog 224 #[.slice a 0 c, .int .i64 0, .int .i64 0, fv] w fun e w' => e = .returned (.tuple #[]) ∧ w' = w := by
 go_enter Tryz.func224, Tryz.ntmps224
 go_wp2
 refine wp_loop_rounds 1 ?_
 rw [rounds_succ]
 go_wp2
 go_end0
 exact ⟨rfl, rfl⟩
set_option maxRecDepth 100000 in
theorem yrc' (a : Option Addr) (c : Nat) (fv : Value) (w : World) : Calls Tryz.prog 189 #[.slice a 0 c, .int .i64 0, fv] w fun e w' => e = .returned (.tuple #[]) ∧ w' = w := by
 go_enter Tryz.func189, Tryz.ntmps189
 go_wp2
 refine wp_loop_rounds 1 ?_
 rw [rounds_succ]
 go_wp2_with fail
 refine (yk8' a c fv _).mono ?_
 rintro e w1 ⟨rfl, rfl⟩
 go_wp2_with fail
 refine wp_loop_rounds 1 ?_
 rw [rounds_succ]
 go_wp2
 go_end0
 exact ⟨rfl, rfl⟩
set_option maxRecDepth 100000 in
theorem yjv' (a : Option Addr) (c : Nat) (fv : Value) (w : World) : Calls Tryz.prog 153 #[.slice a 0 c, fv] w fun e w' => e = .returned (.tuple #[]) ∧ w' = w := by
 go_enter Tryz.func153, Tryz.ntmps153
 go_wp2_with fail
 refine (yrc' a c fv _).mono ?_
 rintro e w1 ⟨rfl, rfl⟩
 go_wp2_with fail
 go_end0
 exact ⟨rfl, rfl⟩
def yus' (w0 : World) (v : Value) (l : List Bs) (R : List Thing) (rows : List (Value × Bs)) (e : Ending) (w' : World) : Prop :=
 e = .returned (.tuple #[]) ∧ ∃ l', l'.Perm l ∧ ((∀ p ∈ l, 1 ≤ ydr' p ∧ ydr' p ≤ 8) → l' = yen' l) ∧ Sep w0 w' (yaf' 1 v (l'.map sv) :: R) rows
theorem yvb' (hd : DoorN w0) {v : Value} {l : List Bs} (h : Sep w0 w (yaf' 1 v (l.map sv) :: R) rows) (hl : ∀ p ∈ l, p.length ≤ 100000) (hn : l.length ≤ 100000) :
  Calls Tryz.prog 153 #[v, yi0'] w (yus' w0 v l R rows) := by
 obtain ⟨a, n, c, rfl, h1, h2, h3⟩ := h.rowLen
 rw [List.length_map, Nat.mul_one] at h1
 by_cases h0 : n = 0
 ·subst h0
  refine (yjv' a c yi0' w).mono ?_
  rintro e w1 ⟨rfl, rfl⟩
  have : l = [] := List.eq_nil_of_length_eq_zero h1
  subst this
  exact ⟨rfl, [], .refl _, fun _ => rfl, h⟩
 ·have hsome : ∃ g off, a = some ⟨g, off, none⟩ := by
   obtain ⟨y, hy, hs, -⟩ := h.rowCell (i := 0) (x := sv (l[0]'(by omega))) (by rw [List.getElem?_map, List.getElem?_eq_getElem (by omega)]; rfl)
   obtain ⟨g, off, sp⟩ := y
   simp only at hs
   subst hs
   exact ⟨g, off, hy⟩
  obtain ⟨g, off, rfl⟩ := hsome
  have hc : l.map sv = yap' n (strF (fun i => l.getD i []) fun i => i) := by
   apply List.ext_getElem
   ·simp [yap', h1]
   ·intro i g1 g2
    simp only [List.length_map] at g1
    simp [yap', strF, g1]
  have hb : (List.range n).map (fun i => l.getD i []) = l := by
   apply List.ext_getElem
   ·simp [h1]
   ·intro i g1 g2
    simp [g2]
  rw [hc] at h
  refine (yju' (ok := fun p => p.length ≤ 100000) (yvx' hd) (fun i => ?_) (by omega) w h).mono ?_
  ·rw [List.getD_eq_getElem?_getD]
   cases hg : l[i]? with
   | none => simp
   | some p => exact hl p (List.mem_of_getElem? hg)
  ·rintro e w1 ⟨τ, rfl, ⟨hp, hbk⟩, hS⟩
   obtain ⟨e1, e2⟩ := yt5' (fun i => l.getD i []) n τ hp hbk
   rw [hb] at e1 e2
   refine ⟨rfl, _, e1, fun hh => e2 (fun i hi => ?_), ?_⟩
   ·have : l.getD i [] = l[i]'(by omega) := by rw [List.getD_eq_getElem?_getD, List.getElem?_eq_getElem (by omega)]; rfl
    show 1 ≤ ydr' (l.getD i []) ∧ ydr' (l.getD i []) ≤ 8
    rw [this]
    exact hh _ (List.getElem_mem _)
   ·have : (((List.range n).map τ).map fun i => l.getD i []).map sv = yap' n (strF (fun i => l.getD i []) τ) := by
     simp [yap', strF, Function.comp_def]
    rw [this]
    exact hS
def yyc' (w0 : World) (t : Nat) (S : TreeS) (P : List PRow) (R : List Thing) (rows : List (Value × Bs)) (l : List Bs) (e : Ending) (w' : World) : Prop :=
 ∃ l', l'.Perm l ∧ ((∀ p ∈ l, 1 ≤ ydr' p ∧ ydr' p ≤ 8) → l' = yen' l) ∧ yrt' w0 t (purT l' S) P R rows l' e w'
def yxh' (w0 : World) (t : Nat) (S : TreeS) (P : List PRow) (R : List Thing) (rows : List (Value × Bs)) (v : Value) (l : List Bs) (k : Nat) (vi : Value) (w : World) : Prop :=
 ∃ (i : Nat) (P' : List PRow), i + k = l.length ∧ vi = .int .i64 (i : Int) ∧ (∀ r ∈ P, r ∈ P') ∧ Sep w0 w (yab' w0 P' :: yaj' t (purT (l.take i) S) P' :: yaf' 1 v (l.map sv) :: R) rows
set_option maxRecDepth 100000 in
set_option maxHeartbeats 4000000 in
theorem ytn' {K : Nat} (h : Sep w0 w (yab' w0 P :: yaj' t S P :: R) rows) (hd : DoorN w0) (hB : TreeB K S) (hK : K ≤ 100000) (sess : Int) :
  Calls Tryz.prog 85 #[.pointer (some ⟨t, 0, none⟩), .int .i64 sess] w (yyc' w0 t S P R rows (ofT S sess)) := by
 have HX := Lib.hid h
 have HB := Lib.hid (show _ ∧ _ from ⟨hB, hK⟩)
 clear h hB hK
 go_enter Tryz.func85, Tryz.ntmps85
 go_wp2_with (first | refine v1 ?_ | (refine vS ?_; clear HX; intro w HX) | (refine vA ?_; clear HX; (first | (have hq := b; clear hq; intro w b2 HX) | intro w b HX)))
 refine (yks' HX.out sess (by have := HB.out.1.many; omega) (fun e he => by have := HB.out.1.keys e he; omega)).mono ?_
 rintro e w ⟨v, P', rfl, hP', hS⟩
 obtain ⟨a0, n0, c0, rfl, hl0, hn0, hc0⟩ := hS.rowLen
 rw [List.length_map, Nat.mul_one] at hl0
 replace HX := Lib.hid hS
 have HP := Lib.hid hP'
 clear hS hP'
 go_wp2_with (first | refine v1 ?_ | (refine vS ?_; clear HX; intro w HX) | (refine vA ?_; clear HX; (first | (have hq := b; clear hq; intro w b2 HX) | intro w b HX)))
 refine (yvb' hd HX.out (fun p hp => ?_) ?_).mono ?_
 ·obtain ⟨e, he, rfl⟩ := List.mem_map.1 hp
  have := HB.out.1.keys e (List.mem_filter.1 he).1
  omega
 ·have h1 : (ofT S sess).length ≤ S.l.length := by unfold ofT; rw [List.length_map]; exact List.length_filter_le _ _
  have := HB.out.1.many
  omega
 rintro e w ⟨rfl, l', hp, hpu, hS⟩
 have hlen := hp.length_eq
 have hkey : ∀ p ∈ l', p.length ≤ 200 := fun p hpm => by
  obtain ⟨e, he, rfl⟩ := List.mem_map.1 (hp.mem_iff.1 hpm)
  exact HB.out.1.keys e (List.mem_filter.1 he).1
 have h500 : l'.length ≤ 500 := by
  have h1 : (ofT S sess).length ≤ S.l.length := by unfold ofT; rw [List.length_map]; exact List.length_filter_le _ _
  have := HB.out.1.many
  omega
 have HPU := Lib.hid (show _ ∧ _ ∧ _ from ⟨hp, hpu, hkey⟩)
 rw [← hl0] at hn0 HX
 rw [← hl0]
 rw [← hlen] at hn0
 rw [← hl0] at hS
 rw [← hlen] at hS ⊢
 clear HX hp hpu hkey hl0 hlen
 have HX := Lib.hid hS
 clear hS
 go_wp2_with (first | refine v1 ?_ | (refine vS ?_; clear HX; intro w HX) | (refine vA ?_; clear HX; (first | (have hq := b; clear hq; intro w b2 HX) | intro w b HX)))
 have HST := Lib.hid (show yxh' w0 t S P' R rows (.slice a0 l'.length c0) l' l'.length (.int .i64 (0 : Int)) _ from ⟨0, P', by simp, rfl, fun q hq => hq, HX.out.pm 3 [1, 2, 0] rfl rfl⟩)
 clear HX
 go_loopg [15] l'.length (fun k v wr => yxh' w0 t S P' R rows (.slice a0 l'.length c0) l' k v wr)
 case atStart => exact HST.out
 case round =>
  rename World => w
  obtain ⟨i, P2, hik, rfl, hP2, hS⟩ := hrel
  clear HST
  have HX := Lib.hid hS
  have HP2 := Lib.hid hP2
  clear hS hP2
  by_cases hlt : i < l'.length
  case neg =>
   obtain rfl : i = l'.length := by omega
   clear hlt hik
   go_wp2_with (first | refine v1 ?_ | (refine vS ?_; clear HX; intro w HX) | (refine vA ?_; clear HX; (first | (have hq := b; clear hq; intro w b2 HX) | intro w b HX)))
   go_ret
   have h1 := HX.out.up2
   rw [List.take_length] at h1
   exact ⟨l', HPU.out.1, HPU.out.2.1, _, P2, rfl, fun q hq => HP2.out q (HP.out q hq), h1⟩
  case pos =>
   obtain ⟨y, hy, hs, -⟩ := HX.out.up2.rowCell (i := i) (x := sv l'[i]) (by simp [hlt])
   obtain ⟨g, off, sp⟩ := y
   simp only at hs
   subst hs hy
   obtain ⟨D, hD⟩ := HX.out.up2.fst
   obtain ⟨E, hE, -⟩ := OwnRow.read hD
   have hl := ybz' (P := Tryz.prog) (ty := 9) (i := i) (v := sv l'[i]) hE (by kernel_rfl) (by simp [hlt])
   have HTK := Lib.hid (ytl' (S := S) hlt)
   have HBI := Lib.hid (ypt' (l'.take i) HB.out.1)
   have hps := HPU.out.2.2 _ (List.getElem_mem hlt)
   obtain ⟨p, hp⟩ : ∃ p, l'[i] = p := ⟨_, rfl⟩
   rw [hp] at hl HTK hps
   have q0 : decide (i < l'.length) = true := decide_eq_true hlt
   have HPS := Lib.hid hps
   unfold sv at hl
   clear hD hE hp hps
   go_wp2_with (first | refine v1 ?_ | (refine vS ?_; clear HX; intro w HX) | (refine vA ?_; clear HX; (first | (have hq := b; clear hq; intro w b2 HX) | intro w b HX)) | ((with_reducible apply yau' hl); (· rfl); (· rfl); simp only [Act.put, k_a, k_b, k_c]))
   refine (yf3' HX.out hd ⟨p.toArray⟩ (by show p.toArray.size ≤ _; rw [List.size_toArray]; have := HPS.out; omega) (HBI.out.ok HB.out.2)).mono ?_
   rintro e w ⟨rfl, P3, hP3, hx⟩
   clear HX hl
   have HX := Lib.hid hx
   have HP3 := Lib.hid hP3
   clear hx hP3
   go_wp2_with (first | refine v1 ?_ | (refine vS ?_; clear HX; intro w HX) | (refine vA ?_; clear HX; (first | (have hq := b; clear hq; intro w b2 HX) | intro w b HX)))
   go_roundg (l'.length - (i + 1))
   case rel => exact ⟨i + 1, P3, by omega, by go_num, fun q hq => HP3.out q (HP2.out q hq), by rw [HTK.out]; exact HX.out⟩
   case measure => omega
end
end Go.Proofs.YtcnkifbjlihaoaaGreatDoor

namespace Go.Av
open Go.RowKit
structure WaitS where
 sess : Int
 ops : List OpS
 close : Bool
 fails : Bool
abbrev ybx' := List (Bs × Int)
abbrev yd9' := List (Int × WaitS)
structure PartS where
 t : TreeS
 held : ybx'
 zxid : Int
 wait : yd9'
 decided : List Int
 closed : List Int
def yan' (l : List OpS) : Nat := (l.filter fun o => o.kind == 1).length
def yd5' (l : List OpS) : Nat := if yan' l = 0 then 0 else l.findIdx fun o => o.kind == 1
def ya2' (W : yd9') : Nat := (W.map fun e => if e.2.fails then 0 else yan' e.2.ops).sum
def yay' (o : OpS) : List Bs := match yat' o.p with
 | none => [o.p]
 | some up => if o.kind == 1 && seqF o.flags then [o.p, up] else [o.p]
def ydd' (p q : Bs) : Bool := decide (q = p) || (decide (q = (yat' p).getD []) || decide (yat' q = some p))
def ybp' (H : ybx') (who : Int) (p : Bs) : Bool := ybn' p && H.any fun e => e.2 != who && ydd' p e.1
def setH (H : ybx') (p : Bs) (who : Int) : ybx' := if (H.any fun e => decide (e.1 = p)) then H.map (fun e => if e.1 = p then (p, who) else e) else H ++ [(p, who)]
def ydi' (H : ybx') (who : Int) (ps : List Bs) : Option Bs := match ps.find? (fun p => !ybn' p) with
 | some p => some p
 | none => ps.find? fun p => ybp' H who p
def yc5' (H : ybx') (who : Int) (ps : List Bs) : ybx' := if (ydi' H who ps).isSome then H else ps.foldl (fun H p => setH H p who) H
def ydz' (H : ybx') (who : Int) : ybx' := H.filter fun e => e.2 != who
def ycz' (W : yd9') (sess : Int) : Bool := W.any fun e => e.2.close && e.2.sess == sess
def ynn' (W : yd9') (sess : Int) : Bool := W.any fun e => e.2.sess == sess
def yes' (H : ybx') (id : Int) (ops : List OpS) : Option Nat := ops.findIdx? fun o => (yay' o).any fun p => ybp' H id p
def ydk' (S : PartS) (id sess : Int) (ops : List OpS) : Int × Int :=
 if sess ∈ S.closed then (11, -1)
 else if ycz' S.wait sess = true then (12, -1)
 else match yes' S.held id ops with
  | some i => (12, i)
  | none => if 0 < yan' ops ∧ 0 < ya2' S.wait ∧ S.t.room < ya2' S.wait + S.t.l.length + yan' ops then (12, yd5' ops) else (0, -1)
def yb4' (S : PartS) (sess num : Int) (ops : List OpS) : ReplyS × PartS :=
 if mayS sess num ops ≠ 0 then (yeg' num (mayS sess num ops) (-1) 0, S)
 else if (ydk' S 0 sess ops).1 ≠ 0 then ({ yeg' num (ydk' S 0 sess ops).1 (ydk' S 0 sess ops).2 ops.length with zxid := S.zxid + 1 }, { S with zxid := S.zxid + 1 })
 else ((ya3' S.t sess num (S.zxid + 1) ops).1, { S with zxid := S.zxid + 1, t := (ya3' S.t sess num (S.zxid + 1) ops).2 })
def hasW (W : yd9') (id : Int) : Bool := W.any fun e => e.1 == id
def ych' (S : PartS) (id sess : Int) : Bool := decide (id < 1) || (decide (sess < 1) || (hasW S.wait id || decide (id ∈ S.decided)))
def ybb' (H : ybx') (id : Int) (ops : List OpS) : ybx' := ops.foldl (fun H o => yc5' H id (yay' o)) H
def yd1' (S : PartS) (id sess : Int) (ops : List OpS) : (Int × Int) × PartS :=
 if ych' S id sess = true then ((1, -1), S)
 else if mayS sess 1 ops ≠ 0 then ((mayS sess 1 ops, -1), S)
 else if (ydk' S id sess ops).1 ≠ 0 then (ydk' S id sess ops, S)
 else (if (ybv' S.t sess S.zxid ops).2.2 = true then (0, -1) else ((ybv' S.t sess S.zxid ops).1.err, (ybv' S.t sess S.zxid ops).1.at_),
  { S with held := ybb' S.held id ops, wait := S.wait ++ [(id, ⟨sess, ops, false, !(ybv' S.t sess S.zxid ops).2.2⟩)] })
def ycb' (S : PartS) (id sess : Int) : Int × PartS :=
 if ych' S id sess = true then (1, S)
 else if sess ∈ S.closed then (11, S)
 else if ynn' S.wait sess = true then (12, S)
 else if (ydi' S.held id (ofT S.t sess)).isSome = true then (12, S)
 else (0, { S with held := yc5' S.held id (ofT S.t sess), wait := S.wait ++ [(id, ⟨sess, [], true, false⟩)] })
def yed' (W : yd9') (id : Int) : Option WaitS := (W.find? fun e => e.1 == id).map (·.2)
def delW (W : yd9') (id : Int) : yd9' := W.filter fun e => e.1 != id
def ybo' (S : PartS) (id : Int) (commit : Bool) : (List ResS × Int) × PartS := match yed' S.wait id with
 | none => (([], 4), S)
 | some x =>
  if (!commit || x.fails) = true then (([], 0), { S with zxid := S.zxid + 1, held := ydz' S.held id, wait := delW S.wait id, decided := S.decided ++ [id] })
  else if x.close = true then (([], 0), { S with zxid := S.zxid + 1, held := ydz' S.held id, wait := delW S.wait id, decided := S.decided ++ [id], t := purT (yen' (ofT S.t x.sess)) S.t, closed := if x.sess ∈ S.closed then S.closed else S.closed ++ [x.sess] })
  else (((ybv' S.t x.sess (S.zxid + 1) x.ops).1.rs, 0), { S with zxid := S.zxid + 1, held := ydz' S.held id, wait := delW S.wait id, decided := S.decided ++ [id], t := (ybv' S.t x.sess (S.zxid + 1) x.ops).2.1 })
end Go.Av

namespace Go.Av
theorem ynw' (a b : Bs) : (a == b) = decide (a = b) := by
 by_cases h : a = b
 ·subst h; simp
 ·rw [decide_eq_false h, beq_eq_false_iff_ne]; exact h
end Go.Av
namespace Go.Proofs.YtcnkifbjlihaoaaGreatDoor
open Go.RowKit Go.Av
def hkv (e : Bs × Int) : Value × Value := (sv e.1, .int .i64 e.2)
def LkO (l : Nat) (H : ybx') (L : List Thing) : Prop := ∃ m, L = [yac' l (.cells #[.map (some m)] 223 (0, 0)), yam' .string m (H.map hkv)]
def ThLk (l : Nat) (H : ybx') : Thing := Bun (LkO l H)
section
variable {w0 w : World} {l : Nat} {H : ybx'} {R : List Thing} {rows : List (Value × Bs)}
theorem ylb' (h : Sep w0 w (ThLk l H :: R) rows) : ∃ m, Sep w0 w (yac' l (.cells #[.map (some m)] 223 (0, 0)) :: yam' .string m (H.map hkv) :: R) rows := by
 obtain ⟨L, ⟨m, rfl⟩, hS⟩ := h.opens
 exact ⟨m, hS⟩
theorem yeb' {m : Nat} (h : Sep w0 w (yac' l (.cells #[.map (some m)] 223 (0, 0)) :: yam' .string m (H.map hkv) :: R) rows) : Sep w0 w (ThLk l H :: R) rows :=
 Sep.shut (O := LkO l H) ⟨m, rfl⟩ h
def yxb' (w0 : World) (l m r : Nat) (H : ybx') (R : List Thing) (rows : List (Value × Bs)) (f : Bs × Int → Bool) (k : Nat) (w : World) : Prop :=
 ∃ left : ybx', left.length = k ∧ (∀ e ∈ left, e ∈ H) ∧ (∀ e ∈ H, e ∈ left ∨ f e = false) ∧ Sep w0 w (yd3' .string m r (H.map hkv) (left.map hkv) :: yac' l (.cells #[.map (some m)] 223 (0, 0)) :: R) rows
set_option maxRecDepth 100000 in
set_option maxHeartbeats 8000000 in
theorem yjx' (h : Sep w0 w (ThLk l H :: R) rows) (hd : DoorN w0) (who : Int) (p : ByteArray) (hp : p.size ≤ 100000) (hH : ∀ e ∈ H, e.1.length ≤ 100000) :
  Calls Tryz.prog 143 #[.pointer (some ⟨l, 0, none⟩), .int .i64 who, .string p] w fun e w' => e = .returned (.bool (ybp' H who p.data.toList)) ∧ Sep w0 w' (ThLk l H :: R) rows := by
 have HX := Lib.hid h
 have HH := Lib.hid hH
 clear h hH
 obtain ⟨res, hres⟩ : ∃ res, ybp' H who p.data.toList = res := ⟨_, rfl⟩
 rw [hres]
 have HRES := Lib.hid hres
 clear hres
 go_enter Tryz.func143, Tryz.ntmps143
 go_wp2_with (first | refine u0 ?_ | (refine uS ?_; clear HX; intro w HX) | (refine uA ?_; clear HX; (first | (have hq := b; clear hq; intro w b2 HX) | intro w b HX)))
 refine (yfn' p _ (hd.sep HX.out).1 (by unfold maxLen; omega)).mono ?_
 obtain ⟨g, hg⟩ : ∃ g, ybn' p.data.toList = g := ⟨_, rfl⟩
 rw [hg]
 rintro e w1 ⟨rfl, hu⟩
 replace HX := Lib.hid (HX.out.keep hu)
 clear hu
 cases g with
 | false =>
  obtain rfl : res = false := by rw [← HRES.out]; unfold ybp'; rw [hg]; rfl
  clear hg HRES
  go_wp2_with (first | refine u0 ?_ | (refine uS ?_; clear HX; intro w HX) | (refine uA ?_; clear HX; (first | (have hq := b; clear hq; intro w b2 HX) | intro w b HX)))
  go_ret
  exact ⟨rfl, HX.out⟩
 | true =>
  have HR0 := Lib.hid (show res = H.any fun e => e.2 != who && ydd' p.data.toList e.1 by rw [← HRES.out]; unfold ybp'; rw [hg]; rfl)
  clear hg HRES
  go_wp2_with (first | refine u0 ?_ | (refine uS ?_; clear HX; intro w HX) | (refine uA ?_; clear HX; (first | (have hq := b; clear hq; intro w b2 HX) | intro w b HX)))
  refine (ydo' p _ (hd.sep HX.out).1 (by unfold maxLen; omega)).mono ?_
  obtain ⟨pp, hpp⟩ : ∃ pp, yat' p.data.toList = pp := ⟨_, rfl⟩
  rw [hpp]
  rintro e w1 ⟨rfl, hu⟩
  replace HX := Lib.hid (HX.out.keep hu)
  have HPP := Lib.hid hpp
  clear hu hpp
  obtain ⟨up, hup⟩ : ∃ up : ByteArray, up = ⟨(pp.getD []).toArray⟩ := ⟨_, rfl⟩
  have hupv : sv (pp.getD []) = .string up := by rw [hup]; rfl
  obtain ⟨zz, hzz⟩ : ∃ zz, pp.isSome = zz := ⟨_, rfl⟩
  rw [hupv, hzz]
  have HUP := Lib.hid (show up.data.toList = pp.getD [] by rw [hup])
  clear hup hupv hzz
  obtain ⟨m, hS⟩ := ylb' HX.out
  replace HX := Lib.hid hS
  clear hS
  go_upto_region 4 with (first | refine u0 ?_ | (refine uS ?_; clear HX; intro w HX) | (refine uA ?_; clear HX; (first | (have hq := b; clear hq; intro w b2 HX) | intro w b HX)))
  obtain ⟨r, w9, hrun, h9⟩ := yfo' (P := Tryz.prog) HX.out.up1 Tryz.underlying221
  have HST := Lib.hid (show yxb' w0 l m r H R rows (fun e => e.2 != who && ydd' p.data.toList e.1) H.length w9 from ⟨H, rfl, fun _ h => h, fun e he => .inl he, h9⟩)
  go_wp2_with (first | refine u0 ?_ | (refine uS ?_; clear HX; intro w HX) | (refine uA ?_; clear HX; (first | (have hq := b; clear hq; intro w b2 HX) | intro w b HX)))
  clear HX hrun h9
  go_loopg [9, 10, 11, 12] H.length (fun k _ _ _ _ wr => yxb' w0 l m r H R rows (fun e => e.2 != who && ydd' p.data.toList e.1) k wr)
  case atStart => exact HST.out
  case round =>
   obtain ⟨left, hk, hin, hall, hS⟩ := hrel
   clear HST
   rcases yhp' (P := Tryz.prog) hkv hS with ⟨rfl, hn⟩ | ⟨l1, ge, l2, w1, rfl, hn, h1, hen⟩
   ·have HX := Lib.hid hS
    obtain rfl : res = false := by
     rw [HR0.out, List.any_eq_false]
     intro e he
     rcases hall e he with h | h
     ·cases h
     ·exact fun hh => by have h' : (e.2 != who && ydd' p.data.toList e.1) = false := h; rw [h'] at hh; cases hh
    clear hS hk hin hall
    go_wp2_with (first | refine u0 ?_ | (refine uS ?_; clear HX; intro w HX) | (refine uA ?_; clear HX; (first | (have hq := b; clear hq; intro w b2 HX) | intro w b HX)))
    go_ret
    exact ⟨rfl, yeb' (yei' HX.out).up1⟩
   ·have HX := Lib.hid h1
    have hge := hin ge (by simp)
    have HGE := Lib.hid (HH.out ge hge)
    have HR := Lib.hid (show (ge.2 != who && ydd' p.data.toList ge.1) = true → true = res from fun hf => by rw [HR0.out]; exact (List.any_eq_true.2 ⟨ge, hge, hf⟩).symm)
    have HF := Lib.hid (show _ ∧ _ ∧ _ from ⟨hk, hin, hall⟩)
    clear hS h1 hk hin hall hge
    obtain ⟨q, x⟩ := ge
    dsimp only [hkv] at hn hen HGE HR HX
    obtain ⟨qs, hqs⟩ : ∃ qs : ByteArray, qs = ⟨q.toArray⟩ := ⟨_, rfl⟩
    have hqv : sv q = .string qs := by rw [hqs]; rfl
    have HQ := Lib.hid (show qs.data.toList = q by rw [hqs])
    rw [hqv] at hn hen
    clear hqs hqv
    by_cases hx : x = who
    ·have q1 : (x == who) = true := by rw [hx]; exact beq_self_eq_true _
     have HFE := Lib.hid (show (x != who && ydd' p.data.toList q) = false by rw [hx]; simp)
     clear hx HR
     go_wp2_with (first | refine u0 ?_ | (refine uS ?_; clear HX; intro w HX) | (refine uA ?_; clear HX; (first | (have hq := b; clear hq; intro w b2 HX) | intro w b HX)))
     go_roundg (l1 ++ l2).length
     case rel =>
      obtain ⟨hk, hin, hall⟩ := HF.out
      refine ⟨l1 ++ l2, rfl, fun x hx => hin x ?_, fun x hx => ?_, HX.out⟩
      ·rcases List.mem_append.1 hx with h | h <;> simp [h]
      ·rcases hall x hx with h | h
       ·rcases List.mem_append.1 h with h | h
        ·exact .inl (List.mem_append_left _ h)
        ·rcases List.mem_cons.1 h with rfl | h
         ·exact .inr HFE.out
         ·exact .inl (List.mem_append_right _ h)
       ·exact .inr h
     case measure =>
      obtain ⟨hk, hin, hall⟩ := HF.out
      simp at hk ⊢; omega
    ·have q1 : (x == who) = false := by rw [beq_eq_false_iff_ne]; exact hx
     have HXW := Lib.hid (show (x != who) = true by rw [bne_iff_ne]; exact hx)
     clear hx
     go_wp2_with (first | refine u0 ?_ | (refine uS ?_; clear HX; intro w HX) | (refine uA ?_; clear HX; (first | (have hq := b; clear hq; intro w b2 HX) | intro w b HX)))
     refine (ydo' qs _ (hd.sep HX.out).1 (by rw [show qs.size = qs.data.toList.length by simp, HQ.out]; unfold maxLen; have := HGE.out; omega)).mono ?_
     rw [HQ.out]
     obtain ⟨z1, hz1⟩ : ∃ z, (qs.toList == p.toList) = z := ⟨_, rfl⟩
     obtain ⟨z2, hz2⟩ : ∃ z, (qs.toList == up.toList) = z := ⟨_, rfl⟩
     have e1 : decide (q = p.data.toList) = z1 := by rw [← hz1, yov', HQ.out]; exact (ynw' ..).symm
     have e2 : decide (q = (yat' p.data.toList).getD []) = z2 := by rw [← hz2, yov', HQ.out, HUP.out, HPP.out]; exact (ynw' ..).symm
     have HNR := Lib.hid (show ydd' p.data.toList q = (z1 || (z2 || decide (yat' q = some p.data.toList))) by unfold ydd'; rw [e1, e2])
     clear e1 e2
     cases hpq : yat' q with
     | none =>
      rintro e w1 ⟨rfl, hu⟩
      replace HX := Lib.hid (HX.out.keep hu)
      have HPQ := Lib.hid hpq
      clear hu hpq
      dsimp only [Option.isSome, Option.getD]
      unfold sv
      cases z1 with
      | true =>
       have HFE := Lib.hid (show (x != who && ydd' p.data.toList q) = true by rw [HXW.out, HNR.out]; rfl)
       obtain rfl : res = true := (HR.out HFE.out).symm
       go_wp2_with (first | refine u0 ?_ | (refine uS ?_; clear HX; intro w HX) | (refine uA ?_; clear HX; (first | (have hq := b; clear hq; intro w b2 HX) | intro w b HX)))
       go_ret
       exact ⟨rfl, yeb' (yei' HX.out).up1⟩
      | false =>
       cases z2 with
       | true =>
        have HFE := Lib.hid (show (x != who && ydd' p.data.toList q) = true by rw [HXW.out, HNR.out]; rfl)
        obtain rfl : res = true := (HR.out HFE.out).symm
        go_wp2_with (first | refine u0 ?_ | (refine uS ?_; clear HX; intro w HX) | (refine uA ?_; clear HX; (first | (have hq := b; clear hq; intro w b2 HX) | intro w b HX)))
        go_ret
        exact ⟨rfl, yeb' (yei' HX.out).up1⟩
       | false =>
        have HFE := Lib.hid (show (x != who && ydd' p.data.toList q) = false by rw [HXW.out, HNR.out, HPQ.out]; rfl)
        go_wp2_with (first | refine u0 ?_ | (refine uS ?_; clear HX; intro w HX) | (refine uA ?_; clear HX; (first | (have hq := b; clear hq; intro w b2 HX) | intro w b HX)))
        go_roundg (l1 ++ l2).length
        case rel =>
         obtain ⟨hk, hin, hall⟩ := HF.out
         refine ⟨l1 ++ l2, rfl, fun x hx => hin x ?_, fun x hx => ?_, HX.out⟩
         ·rcases List.mem_append.1 hx with h | h <;> simp [h]
         ·rcases hall x hx with h | h
          ·rcases List.mem_append.1 h with h | h
           ·exact .inl (List.mem_append_left _ h)
           ·rcases List.mem_cons.1 h with rfl | h
            ·exact .inr HFE.out
            ·exact .inl (List.mem_append_right _ h)
          ·exact .inr h
        case measure =>
         obtain ⟨hk, hin, hall⟩ := HF.out
         simp at hk ⊢; omega
     | some u =>
      rintro e w1 ⟨rfl, hu⟩
      replace HX := Lib.hid (HX.out.keep hu)
      have HPQ := Lib.hid hpq
      clear hu hpq
      dsimp only [Option.isSome, Option.getD]
      unfold sv
      obtain ⟨us, hus⟩ : ∃ us : ByteArray, us = ⟨u.toArray⟩ := ⟨_, rfl⟩
      have HU := Lib.hid (show us.data.toList = u by rw [hus])
      rw [← hus]
      clear hus
      obtain ⟨z4, hz4⟩ : ∃ z, (us.toList == p.toList) = z := ⟨_, rfl⟩
      have e4 : decide (some u = some p.data.toList) = z4 := by rw [← hz4, yov', HU.out]; exact (by rw [ynw']; exact decide_eq_decide.2 ⟨fun h => Option.some.inj h, fun h => congrArg some h⟩)
      have HN4 := Lib.hid (show ydd' p.data.toList q = (z1 || (z2 || z4)) by rw [HNR.out, HPQ.out, e4])
      clear e4
      cases z1 with
      | true =>
       have HFE := Lib.hid (show (x != who && ydd' p.data.toList q) = true by rw [HXW.out, HN4.out]; rfl)
       obtain rfl : res = true := (HR.out HFE.out).symm
       go_wp2_with (first | refine u0 ?_ | (refine uS ?_; clear HX; intro w HX) | (refine uA ?_; clear HX; (first | (have hq := b; clear hq; intro w b2 HX) | intro w b HX)))
       go_ret
       exact ⟨rfl, yeb' (yei' HX.out).up1⟩
      | false =>
       cases z2 with
       | true =>
        have HFE := Lib.hid (show (x != who && ydd' p.data.toList q) = true by rw [HXW.out, HN4.out]; rfl)
        obtain rfl : res = true := (HR.out HFE.out).symm
        go_wp2_with (first | refine u0 ?_ | (refine uS ?_; clear HX; intro w HX) | (refine uA ?_; clear HX; (first | (have hq := b; clear hq; intro w b2 HX) | intro w b HX)))
        go_ret
        exact ⟨rfl, yeb' (yei' HX.out).up1⟩
       | false =>
        cases z4 with
        | true =>
         have HFE := Lib.hid (show (x != who && ydd' p.data.toList q) = true by rw [HXW.out, HN4.out]; rfl)
         obtain rfl : res = true := (HR.out HFE.out).symm
         go_wp2_with (first | refine u0 ?_ | (refine uS ?_; clear HX; intro w HX) | (refine uA ?_; clear HX; (first | (have hq := b; clear hq; intro w b2 HX) | intro w b HX)))
         go_ret
         exact ⟨rfl, yeb' (yei' HX.out).up1⟩
        | false =>
         have HFE := Lib.hid (show (x != who && ydd' p.data.toList q) = false by rw [HXW.out, HN4.out]; rfl)
         go_wp2_with (first | refine u0 ?_ | (refine uS ?_; clear HX; intro w HX) | (refine uA ?_; clear HX; (first | (have hq := b; clear hq; intro w b2 HX) | intro w b HX)))
         go_roundg (l1 ++ l2).length
         case rel =>
          obtain ⟨hk, hin, hall⟩ := HF.out
          refine ⟨l1 ++ l2, rfl, fun x hx => hin x ?_, fun x hx => ?_, HX.out⟩
          ·rcases List.mem_append.1 hx with h | h <;> simp [h]
          ·rcases hall x hx with h | h
           ·rcases List.mem_append.1 h with h | h
            ·exact .inl (List.mem_append_left _ h)
            ·rcases List.mem_cons.1 h with rfl | h
             ·exact .inr HFE.out
             ·exact .inl (List.mem_append_right _ h)
           ·exact .inr h
         case measure =>
          obtain ⟨hk, hin, hall⟩ := HF.out
          simp at hk ⊢; omega
end
end Go.Proofs.YtcnkifbjlihaoaaGreatDoor

namespace Go.Av
open Go.RowKit Go.MapKept Go.ChangeMaps
section
variable {P : Program} {w w0 : World} {d : TypeDesc} {m r : Nat} {t k e : TypeId} {R : List Thing} {rows : List (Value × Bs)}
theorem yod' {l1 l2 left : List (Value × Value)} {key v0 : Value} (h : RangeIs w d m r (l1 ++ (key, v0) :: l2) left) (hne : m ≠ r) (hk : MapKept.IsKey d key) (hl : ∀ p ∈ left, p.1 ≠ key) (ht : P.underlying t = some (.map k e)) (hd : P.underlying k = some d) (tk ty : TypeId) :
  ∃ w', (Builtin.delete_ #[t, tk] ty #[.map (some m), key]).run P w = .ok (.tuple #[]) w' ∧ RangeIs w' d m r (l1 ++ l2) left ∧ Upd w w' [m] [m] := by
 obtain ⟨es, clock, seen, a1, a2, a3, a4, a5, a6⟩ := h
 have hM : MapIs w d m (l1 ++ (key, v0) :: l2) := ⟨es, clock, a1, a2, a3, a4⟩
 have hnd := hM.nodup
 rcases MapKept.findNow_spec hk es.toList 0 a3 with ⟨b1, b2⟩ | ⟨j, e', b1, b2, b3⟩
 ·exfalso
  have hm : (key, v0) ∈ es.toList.map kv := by rw [a4]; simp
  obtain ⟨e', he', heq⟩ := List.mem_map.1 hm
  exact b2 e' he' (congrArg Prod.fst heq)
 ·have hjs : j < es.size := by
   have := (List.getElem?_eq_some_iff.1 b2).1
   simpa using this
  have hlist : (es.eraseIdxIfInBounds j).toList = es.toList.take j ++ es.toList.drop (j + 1) := by
   rw [Array.eraseIdxIfInBounds, dif_pos hjs, Array.toList_eraseIdx, yf7' b2]
  refine ⟨setBlock w m (.map (es.eraseIdxIfInBounds j) clock), ?_, ⟨_, clock, seen, (heap_set a1).1, MapKept.stamped_erase a2 _, ?_, ?_, ?_, ?_⟩, yc9' w m _ _ a1⟩
  ·simp [Builtin.delete_, run_underlying ht, MapKept.run_getObj_map a1, MapKept.run_checkKey hd hk, MapKept.run_findKey hd b1, MapKept.run_setObj_map _ a1, Result.andThen, setBlock]
  ·intro x hx
   rw [hlist] at hx
   refine a3 x ?_
   rcases List.mem_append.1 hx with hx | hx
   ·exact List.mem_of_mem_take hx
   ·exact List.mem_of_mem_drop hx
  ·have hs := yg2' b2
   have hsp : l1 ++ (key, v0) :: l2 = (es.toList.take j).map kv ++ (key, e'.val) :: (es.toList.drop (j + 1)).map kv := by
    rw [← a4]
    conv => lhs; rw [hs]
    simp [kv, b3]
   obtain ⟨r1, _, r3⟩ := ylh' hnd hsp
   rw [hlist, List.map_append, r1, r3]
  ·exact ((heap_set a1).2 _ (Ne.symm hne)).trans a5
  ·rw [← a6]
   have hsee : seen.contains e'.born = true := by
    cases hc : seen.contains e'.born with
    | true => rfl
    | false =>
     exfalso
     refine hl (kv e') ?_ b3
     rw [← a6]
     refine List.mem_map.2 ⟨e', ?_, rfl⟩
     simp only [leftOf, Array.toList_filter, List.mem_filter]
     exact ⟨List.mem_of_getElem? b2, by rw [hc]; rfl⟩
   simp only [leftOf, Array.toList_filter]
   rw [hlist]
   conv => rhs; rw [yg2' b2]
   rw [List.filter_append, List.filter_append, List.filter_cons, hsee]
   rfl
theorem y0i' {l1 l2 left : List (Value × Value)} {key v0 : Value} (h : Sep w0 w (yd3' d m r (l1 ++ (key, v0) :: l2) left :: R) rows) (hk : MapKept.IsKey d key) (hl : ∀ p ∈ left, p.1 ≠ key) (ht : P.underlying t = some (.map k e)) (hd : P.underlying k = some d) :
  ∃ w', (∀ tk ty, (Builtin.delete_ #[t, tk] ty #[.map (some m), key]).run P w = .ok (.tuple #[]) w') ∧ Sep w0 w' (yd3' d m r (l1 ++ l2) left :: R) rows := by
 obtain ⟨D, hP, _, back⟩ := h.use
 obtain ⟨hR, hne, rfl⟩ := hP
 obtain ⟨w', hrun, hR', hU⟩ := yod' (P := P) hR hne hk hl ht hd 0 0
 exact ⟨w', fun _ _ => hrun, back w' [m, r] (yd3' d m r (l1 ++ l2) left) (hU.mono (fun b hb => by simp at hb; simp [hb]) (fun b hb => .inr hb)) ⟨hR', hne, rfl⟩⟩
theorem Sep.mapOld {l1 l2 : List (Value × Value)} {key v0 v : Value} (h : Sep w0 w (yam' d m (l1 ++ (key, v0) :: l2) :: R) rows) (ht : P.underlying t = some (.map k e)) (hd : P.underlying k = some d) (hk : MapKept.IsKey d key) :
  ∃ w', (Instr.mapUpdate t (.map (some m)) key v).run P w = .ok () w' ∧ Sep w0 w' (yam' d m (l1 ++ (key, v) :: l2) :: R) rows := by
 obtain ⟨w', hrun, hM, hU⟩ := yxr' (P := P) (v := v) h.mapIs ht hd hk
 exact ⟨w', hrun, h.mapTo hU hM⟩
end
theorem ysa' {α : Type} {f : α → Bool} {l : List α} {i : Nat} (hi : i < l.length) (h : ∀ x ∈ l.take i, f x = false) (hf : f l[i] = true) : l.find? f = some l[i] := by
 have hs : l = l.take i ++ l[i] :: l.drop (i + 1) := by rw [← List.drop_eq_getElem_cons hi, List.take_append_drop]
 obtain ⟨o, ho⟩ : ∃ o, l[i] = o := ⟨_, rfl⟩
 rw [ho] at hf hs ⊢
 obtain ⟨T, hT⟩ : ∃ T, l.take i = T := ⟨_, rfl⟩
 obtain ⟨D, hD⟩ : ∃ D, l.drop (i + 1) = D := ⟨_, rfl⟩
 rw [hT] at h hs
 rw [hD] at hs
 rw [hs, List.find?_append, List.find?_eq_none.2 fun o ho => by simp [h o ho], List.find?_cons, hf]
 rfl
theorem yj1' {α : Type} [DecidableEq α] {f f' : α → Bool} {g : α} : ∀ {H : List α}, H.Nodup → g ∈ H → f g = true → f' g = false → (∀ x ∈ H, x ≠ g → f' x = f x) → ∃ c1 c2, H.filter f = c1 ++ g :: c2 ∧ H.filter f' = c1 ++ c2
 | [], _, h, _, _, _ => by cases h
 | y :: H, hn, hg, h1, h2, h3 => by
  rw [List.nodup_cons] at hn
  by_cases hy : y = g
  ·subst hy
   refine ⟨[], H.filter f, by rw [List.filter_cons, h1]; rfl, ?_⟩
   rw [List.filter_cons, h2]
   refine List.filter_congr (fun x hx => h3 x (k_n _ hx) (fun e => hn.1 (e ▸ hx)))
  ·rcases List.mem_cons.1 hg with hg | hg
   ·exact absurd hg.symm hy
   obtain ⟨c1, c2, e1, e2⟩ := yj1' hn.2 hg h1 h2 (fun x hx => h3 x (k_n _ hx))
   have hf := h3 y k_s hy
   rw [List.filter_cons, List.filter_cons, hf]
   cases f y with
   | true => exact ⟨y :: c1, c2, by rw [e1]; rfl, by rw [e2]; rfl⟩
   | false => exact ⟨c1, c2, e1, e2⟩
theorem ywq' {H1 H2 : ybx'} {p : Bs} {x who : Int} (hn : ((H1 ++ (p, x) :: H2).map (·.1)).Nodup) : setH (H1 ++ (p, x) :: H2) p who = H1 ++ (p, who) :: H2 := by
 have h1 : ((H1 ++ (p, x) :: H2).any fun e => decide (e.1 = p)) = true := List.any_eq_true.2 ⟨(p, x), by simp, by simp⟩
 rw [List.map_append, List.map_cons, List.nodup_append] at hn
 obtain ⟨-, h3, h4⟩ := hn
 rw [List.nodup_cons] at h3
 unfold setH
 rw [if_pos h1, List.map_append, List.map_cons]
 have ha : ∀ L : ybx', (∀ e ∈ L, e.1 ≠ p) → L.map (fun e => if e.1 = p then (p, who) else e) = L := fun L hL => by
  conv => rhs; rw [← List.map_id L]
  exact List.map_congr_left fun e he => by rw [if_neg (hL e he)]; rfl
 rw [ha H1 (fun e he h => h4 e.1 (List.mem_map_of_mem he) p k_s h), ha H2 (fun e he h => h3.1 (List.mem_map.2 ⟨e, he, h⟩))]
 simp
theorem ywp' {H : ybx'} {p : Bs} {who : Int} (hn : ∀ e ∈ H, e.1 ≠ p) : setH H p who = H ++ [(p, who)] := by
 unfold setH
 rw [if_neg]
 rw [List.any_eq_true]
 rintro ⟨e, he, h⟩
 exact hn e he (by simpa using h)
theorem ywo' (H : ybx') (p : Bs) (who : Int) : (setH H p who).length ≤ H.length + 1 := by
 unfold setH
 split
 ·rw [List.length_map]; omega
 ·rw [List.length_append]; simp
theorem yt0' {H : ybx'} {p : Bs} {who : Int} {e : Bs × Int} (h : e ∈ setH H p who) : e = (p, who) ∨ e ∈ H := by
 unfold setH at h
 split at h
 ·obtain ⟨x, hx, rfl⟩ := List.mem_map.1 h
  by_cases hp : x.1 = p
  ·rw [if_pos hp]; exact .inl rfl
  ·rw [if_neg hp]; exact .inr hx
 ·rcases List.mem_append.1 h with h | h
  ·exact .inr h
  ·exact .inl (List.mem_singleton.1 h)
end Go.Av
namespace Go.Proofs.YtcnkifbjlihaoaaGreatDoor
open Go.RowKit Go.Av
section
variable {w0 w : World} {l : Nat} {H : ybx'} {P P' : List PRow} {R : List Thing} {rows : List (Value × Bs)}
theorem yj4' {d : TypeDesc} {m : Nat} (h : Sep w0 w (yam' d m (H.map hkv) :: R) rows) : (H.map (·.1)).Nodup := by
 have h1 := h.mapIs.nodup
 rw [List.map_map] at h1
 rw [List.nodup_iff_pairwise_ne, List.pairwise_map] at h1 ⊢
 exact List.Pairwise.imp (fun hab e => hab (congrArg sv e)) h1
theorem y0j' {m : Nat} (h : Sep w0 w (yam' .string m (H.map hkv) :: R) rows) (p : Bs) (who : Int) :
  ∃ w', (Instr.mapUpdate 221 (.map (some m)) (sv p) (.int .i64 who)).run Tryz.prog w = .ok () w' ∧ Sep w0 w' (yam' .string m ((setH H p who).map hkv) :: R) rows := by
 by_cases hin : ∃ e ∈ H, e.1 = p
 ·obtain ⟨⟨q, x⟩, he, rfl⟩ := hin
  obtain ⟨H1, H2, rfl⟩ := List.append_of_mem he
  have hn := yj4' h
  rw [ywq' hn]
  rw [List.map_append, List.map_cons] at h ⊢
  exact Sep.mapOld (P := Tryz.prog) h Tryz.underlying221 Tryz.underlying9 trivial
 ·have hn : ∀ e ∈ H, e.1 ≠ p := fun e he h => hin ⟨e, he, h⟩
  rw [ywp' hn, List.map_append]
  exact Sep.mapAdd (P := Tryz.prog) h Tryz.underlying221 Tryz.underlying9 trivial (fun q hq e => by
   obtain ⟨x, hx, rfl⟩ := List.mem_map.1 hq
   exact hn x hx (yg6' e))
set_option maxRecDepth 100000 in
set_option maxHeartbeats 4000000 in
theorem yo0' (h : Sep w0 w (yab' w0 P :: ThLk l H :: R) rows) (hd : DoorN w0) (who : Int) (ps : List Bs) (v : Value) (hv : (1, v, ps.map sv) ∈ P) (hp : ∀ p ∈ ps, p.length ≤ 100000) (hH : ∀ e ∈ H, e.1.length ≤ 100000) (hn : ps.length ≤ 100000) :
  Calls Tryz.prog 147 #[.pointer (some ⟨l, 0, none⟩), .int .i64 who, v] w fun e w' => e = .returned (.tuple #[sv ((ydi' H who ps).getD []), .bool (ydi' H who ps).isSome]) ∧ Sep w0 w' (yab' w0 P :: ThLk l H :: R) rows := by
 obtain ⟨E, hE⟩ := h.poolGet hv
 obtain ⟨a, n, c, rfl, hl0, -, -, hne⟩ := ReadRow.some hE
 rw [List.length_map, Nat.mul_one] at hl0
 subst hl0
 have HNE := Lib.hid hne
 have HV := Lib.hid (show _ ∧ _ ∧ _ ∧ _ from ⟨hv, hp, hH, hn⟩)
 have HX := Lib.hid h
 obtain ⟨wr, hwr⟩ : ∃ wr, ydi' H who ps = wr := ⟨_, rfl⟩
 rw [hwr]
 have HWR := Lib.hid hwr
 clear h hE hne hv hp hH hwr
 go_enter Tryz.func147, Tryz.ntmps147
 go_wp2_with (first | refine u0 ?_ | (refine uS ?_; clear HX; intro w HX) | (refine uA ?_; clear HX; (first | (have hq := b; clear hq; intro w b2 HX) | intro w b HX)))
 have HST := HX
 clear HX
 go_loopg [9, 14] ps.length (fun k _ v14 wr => ∃ i : Nat, i + k = ps.length ∧ v14 = .int .i64 (i : Int) ∧ (∀ p ∈ ps.take i, ybn' p = true) ∧ Sep w0 wr (yab' w0 P :: ThLk l H :: R) rows)
 case atStart => exact ⟨0, by simp, rfl, by simp, HST.out⟩
 case round =>
  rename World => w
  obtain ⟨i, hik, rfl, hgd, hS⟩ := hrel
  clear HST
  have HX := Lib.hid hS
  have HGD := Lib.hid hgd
  clear hS hgd
  by_cases hlt : i < ps.length
  case neg =>
   obtain rfl : i = ps.length := by omega
   rw [List.take_length] at HGD
   have HW2 := Lib.hid (show wr = ps.find? fun p => ybp' H who p by rw [← HWR.out]; unfold ydi'; rw [List.find?_eq_none.2 (fun p hp => by rw [HGD.out p hp]; simp)])
   clear hlt hik HWR
   go_wp2_with (first | refine u0 ?_ | (refine uS ?_; clear HX; intro w HX) | (refine uA ?_; clear HX; (first | (have hq := b; clear hq; intro w b2 HX) | intro w b HX)))
   have HST := HX
   clear HX
   go_loopg [11, 25] ps.length (fun k _ v14 wr => ∃ i : Nat, i + k = ps.length ∧ v14 = .int .i64 (i : Int) ∧ (∀ p ∈ ps.take i, ybp' H who p = false) ∧ Sep w0 wr (yab' w0 P :: ThLk l H :: R) rows)
   case atStart => exact ⟨0, by simp, rfl, by simp, HST.out⟩
   case round =>
    rename World => w
    obtain ⟨i, hik, rfl, hbl, hS⟩ := hrel
    clear HST
    have HX := Lib.hid hS
    have HBL := Lib.hid hbl
    clear hS hbl
    by_cases hlt : i < ps.length
    case neg =>
     obtain rfl : i = ps.length := by omega
     rw [List.take_length] at HBL
     obtain rfl : wr = none := by rw [HW2.out, List.find?_eq_none]; intro p hp; rw [HBL.out p hp]; exact Bool.false_ne_true
     clear hlt hik
     go_wp2_with (first | refine u0 ?_ | (refine uS ?_; clear HX; intro w HX) | (refine uA ?_; clear HX; (first | (have hq := b; clear hq; intro w b2 HX) | intro w b HX)))
     go_ret2
     exact ⟨rfl, HX.out⟩
    case pos =>
     obtain ⟨g, off, rfl⟩ := HNE.out (by intro e; rw [List.map_eq_nil_iff] at e; rw [e] at hlt; simp at hlt)
     obtain ⟨E, hE⟩ := HX.out.poolGet HV.out.1
     have hl := ybz' (P := Tryz.prog) (ty := 9) (i := i) (v := sv ps[i]) hE (by kernel_rfl) (by simp [hlt])
     have HTK := Lib.hid (show ps.take (i + 1) = ps.take i ++ [ps[i]] from List.take_succ_eq_append_getElem hlt)
     have HPS := Lib.hid (HV.out.2.1 ps[i] (List.getElem_mem hlt))
     have hfd := ysa' (f := fun p => ybp' H who p) hlt HBL.out
     have q0 : decide (i < ps.length) = true := decide_eq_true hlt
     obtain ⟨p, hp⟩ : ∃ p, ps[i] = p := ⟨_, rfl⟩
     rw [hp] at hl HTK HPS hfd
     have HFD := Lib.hid hfd
     unfold sv at hl
     clear hE hp hfd
     go_wp2_with (first | refine u0 ?_ | (refine uS ?_; clear HX; intro w HX) | (refine uA ?_; clear HX; (first | (have hq := b; clear hq; intro w b2 HX) | intro w b HX)) | ((with_reducible apply yau' hl); (· rfl); (· rfl); simp only [Act.put, k_a, k_b, k_c]))
     refine (yjx' HX.out.up1 hd who ⟨p.toArray⟩ (by show p.toArray.size ≤ _; rw [List.size_toArray]; exact HPS.out) HV.out.2.2.1).mono ?_
     have e1 : (⟨p.toArray⟩ : ByteArray).data.toList = p := rfl
     rw [e1]
     obtain ⟨zb, hzb⟩ : ∃ zb, ybp' H who p = zb := ⟨_, rfl⟩
     rw [hzb]
     have HZB := Lib.hid hzb
     rintro e w ⟨rfl, hx⟩
     clear HX hl e1 hzb
     have HX := Lib.hid hx.up1
     clear hx
     cases zb with
     | true =>
      obtain rfl : wr = some p := by rw [HW2.out]; exact HFD.out HZB.out
      go_wp2_with (first | refine u0 ?_ | (refine uS ?_; clear HX; intro w HX) | (refine uA ?_; clear HX; (first | (have hq := b; clear hq; intro w b2 HX) | intro w b HX)))
      go_ret2
      exact ⟨rfl, HX.out⟩
     | false =>
      go_wp2_with (first | refine u0 ?_ | (refine uS ?_; clear HX; intro w HX) | (refine uA ?_; clear HX; (first | (have hq := b; clear hq; intro w b2 HX) | intro w b HX)))
      go_roundg (ps.length - (i + 1))
      case rel => exact ⟨i + 1, by omega, by go_num, by
       rw [HTK.out]
       intro q hq
       rcases List.mem_append.1 hq with hq | hq
       ·exact HBL.out q hq
       ·rw [List.mem_singleton] at hq; rw [hq]; exact HZB.out, HX.out⟩
      case measure => omega
  case pos =>
   obtain ⟨g, off, rfl⟩ := HNE.out (by intro e; rw [List.map_eq_nil_iff] at e; rw [e] at hlt; simp at hlt)
   obtain ⟨E, hE⟩ := HX.out.poolGet HV.out.1
   have hl := ybz' (P := Tryz.prog) (ty := 9) (i := i) (v := sv ps[i]) hE (by kernel_rfl) (by simp [hlt])
   have HTK := Lib.hid (show ps.take (i + 1) = ps.take i ++ [ps[i]] from List.take_succ_eq_append_getElem hlt)
   have HPS := Lib.hid (HV.out.2.1 ps[i] (List.getElem_mem hlt))
   have hfd := ysa' (f := fun p => !ybn' p) hlt (fun p hp => by rw [HGD.out p hp]; rfl)
   have q0 : decide (i < ps.length) = true := decide_eq_true hlt
   obtain ⟨p, hp⟩ : ∃ p, ps[i] = p := ⟨_, rfl⟩
   rw [hp] at hl HTK HPS hfd
   have HFD := Lib.hid hfd
   unfold sv at hl
   clear hE hp hfd
   go_wp2_with (first | refine u0 ?_ | (refine uS ?_; clear HX; intro w HX) | (refine uA ?_; clear HX; (first | (have hq := b; clear hq; intro w b2 HX) | intro w b HX)) | ((with_reducible apply yau' hl); (· rfl); (· rfl); simp only [Act.put, k_a, k_b, k_c]))
   refine (yfn' ⟨p.toArray⟩ _ (hd.sep HX.out).1 (by show p.toArray.size ≤ _; rw [List.size_toArray]; unfold maxLen; have := HPS.out; omega)).mono ?_
   have e1 : (⟨p.toArray⟩ : ByteArray).data.toList = p := rfl
   rw [e1]
   obtain ⟨zb, hzb⟩ : ∃ zb, ybn' p = zb := ⟨_, rfl⟩
   rw [hzb]
   have HZB := Lib.hid hzb
   rintro e w ⟨rfl, hu⟩
   replace HX := Lib.hid (HX.out.keep hu)
   clear hl e1 hzb hu
   cases zb with
   | false =>
    obtain rfl : wr = some p := by rw [← HWR.out]; unfold ydi'; rw [HFD.out (by rw [HZB.out]; rfl)]
    go_wp2_with (first | refine u0 ?_ | (refine uS ?_; clear HX; intro w HX) | (refine uA ?_; clear HX; (first | (have hq := b; clear hq; intro w b2 HX) | intro w b HX)))
    go_ret2
    exact ⟨rfl, HX.out⟩
   | true =>
    go_wp2_with (first | refine u0 ?_ | (refine uS ?_; clear HX; intro w HX) | (refine uA ?_; clear HX; (first | (have hq := b; clear hq; intro w b2 HX) | intro w b HX)))
    go_roundg (ps.length - (i + 1))
    case rel => exact ⟨i + 1, by omega, by go_num, by
     rw [HTK.out]
     intro q hq
     rcases List.mem_append.1 hq with hq | hq
     ·exact HGD.out q hq
     ·rw [List.mem_singleton] at hq; rw [hq]; exact HZB.out, HX.out⟩
    case measure => omega
end
end Go.Proofs.YtcnkifbjlihaoaaGreatDoor

namespace Go.Av
theorem ymc' (who : Int) : ∀ (ps : List Bs) (H : ybx'), (ps.foldl (fun H p => setH H p who) H).length ≤ H.length + ps.length
 | [], H => by simp
 | p :: ps, H => by
  have h1 := ymc' who ps (setH H p who)
  have h2 := ywo' H p who
  rw [List.foldl_cons, List.length_cons]
  omega
theorem yho' {who : Int} {e : Bs × Int} : ∀ (ps : List Bs) (H : ybx'), e ∈ ps.foldl (fun H p => setH H p who) H → (e.1 ∈ ps ∧ e.2 = who) ∨ e ∈ H
 | [], H, h => .inr h
 | p :: ps, H, h => by
  rcases yho' ps (setH H p who) h with h | h
  ·exact .inl ⟨k_n _ h.1, h.2⟩
  ·rcases yt0' h with h | h
   ·exact .inl ⟨by rw [h]; exact k_s, by rw [h]⟩
   ·exact .inr h
end Go.Av
namespace Go.Proofs.YtcnkifbjlihaoaaGreatDoor
open Go.RowKit Go.Av
section
variable {w0 w : World} {l : Nat} {H : ybx'} {P P' : List PRow} {R : List Thing} {rows : List (Value × Bs)}
set_option maxRecDepth 100000 in
set_option maxHeartbeats 4000000 in
theorem yio' (h : Sep w0 w (yab' w0 P :: ThLk l H :: R) rows) (hd : DoorN w0) (who : Int) (ps : List Bs) (v : Value) (hv : (1, v, ps.map sv) ∈ P) (hp : ∀ p ∈ ps, p.length ≤ 100000) (hH : ∀ e ∈ H, e.1.length ≤ 100000) (hn : ps.length ≤ 100000) :
  Calls Tryz.prog 71 #[.pointer (some ⟨l, 0, none⟩), .int .i64 who, v] w fun e w' => e = .returned (.tuple #[sv ((ydi' H who ps).getD []), .bool (!(ydi' H who ps).isSome)]) ∧ Sep w0 w' (yab' w0 P :: ThLk l (yc5' H who ps) :: R) rows := by
 obtain ⟨E, hE⟩ := h.poolGet hv
 obtain ⟨a, n, c, rfl, hl0, -, -, hne⟩ := ReadRow.some hE
 rw [List.length_map, Nat.mul_one] at hl0
 subst hl0
 have HNE := Lib.hid hne
 have HV := Lib.hid (show _ ∧ _ ∧ _ ∧ _ from ⟨hv, hp, hH, hn⟩)
 have HX := Lib.hid h
 clear h hE hne hv hp hH
 obtain ⟨wr, hwr⟩ : ∃ wr, ydi' H who ps = wr := ⟨_, rfl⟩
 obtain ⟨H', hH'⟩ : ∃ H', yc5' H who ps = H' := ⟨_, rfl⟩
 rw [hwr, hH']
 have HTH := Lib.hid (show H' = if wr.isSome then H else ps.foldl (fun H p => setH H p who) H by rw [← hH', ← hwr]; rfl)
 have HWR := Lib.hid hwr
 clear hwr hH'
 go_enter Tryz.func71, Tryz.ntmps71
 go_wp2_with (first | refine u0 ?_ | (refine uS ?_; clear HX; intro w HX) | (refine uA ?_; clear HX; (first | (have hq := b; clear hq; intro w b2 HX) | intro w b HX)))
 refine (yo0' HX.out hd who ps _ HV.out.1 HV.out.2.1 HV.out.2.2.1 HV.out.2.2.2).mono ?_
 rw [HWR.out]
 rintro e w ⟨rfl, hx⟩
 replace HX := Lib.hid hx
 clear hx
 cases wr with
 | some p =>
  obtain rfl : H' = H := HTH.out
  dsimp only [Option.isSome, Option.getD]
  unfold sv
  go_wp2_with (first | refine u0 ?_ | (refine uS ?_; clear HX; intro w HX) | (refine uA ?_; clear HX; (first | (have hq := b; clear hq; intro w b2 HX) | intro w b HX)))
  go_ret2
  exact ⟨rfl, HX.out⟩
 | none =>
  have HTI := Lib.hid (show H' = ps.foldl (fun H p => setH H p who) H from HTH.out)
  clear HTH
  dsimp only [Option.isSome, Option.getD]
  unfold sv
  go_wp2_with (first | refine u0 ?_ | (refine uS ?_; clear HX; intro w HX) | (refine uA ?_; clear HX; (first | (have hq := b; clear hq; intro w b2 HX) | intro w b HX)))
  have HST := HX
  clear HX
  go_loopg [11, 23] ps.length (fun k _ v23 wr => ∃ i : Nat, i + k = ps.length ∧ v23 = .int .i64 (i : Int) ∧ Sep w0 wr (yab' w0 P :: ThLk l ((ps.take i).foldl (fun H p => setH H p who) H) :: R) rows)
  case atStart => exact ⟨0, by simp, rfl, HST.out⟩
  case round =>
   rename World => w
   obtain ⟨i, hik, rfl, hS⟩ := hrel
   clear HST
   by_cases hlt : i < ps.length
   case neg =>
    obtain rfl : i = ps.length := by omega
    rw [List.take_length, ← HTI.out] at hS
    have HX := Lib.hid hS
    clear hS hlt hik
    go_wp2_with (first | refine u0 ?_ | (refine uS ?_; clear HX; intro w HX) | (refine uA ?_; clear HX; (first | (have hq := b; clear hq; intro w b2 HX) | intro w b HX)))
    go_ret2
    exact ⟨rfl, HX.out⟩
   case pos =>
    obtain ⟨g, off, rfl⟩ := HNE.out (by intro e; rw [List.map_eq_nil_iff] at e; rw [e] at hlt; simp at hlt)
    obtain ⟨E, hE⟩ := hS.poolGet HV.out.1
    have hl := ybz' (P := Tryz.prog) (ty := 9) (i := i) (v := sv ps[i]) hE (by kernel_rfl) (by simp [hlt])
    have HTK := Lib.hid (show (ps.take (i + 1)).foldl (fun H p => setH H p who) H = setH ((ps.take i).foldl (fun H p => setH H p who) H) ps[i] who by rw [List.take_succ_eq_append_getElem hlt, List.foldl_append]; rfl)
    have q0 : decide (i < ps.length) = true := decide_eq_true hlt
    obtain ⟨p, hp⟩ : ∃ p, ps[i] = p := ⟨_, rfl⟩
    rw [hp] at hl HTK
    obtain ⟨Hi, hHi⟩ : ∃ Hi, (ps.take i).foldl (fun H p => setH H p who) H = Hi := ⟨_, rfl⟩
    rw [hHi] at hS HTK
    obtain ⟨m, hS⟩ := ylb' hS.up1
    obtain ⟨w9, hrun, h9⟩ := y0j' hS.up1 p who
    have HX := Lib.hid hS
    have H9 := Lib.hid h9
    unfold sv at hl hrun
    clear hE hp hHi hS h9
    go_wp2_with (first | refine u0 ?_ | (refine uS ?_; clear HX; intro w HX) | (refine uA ?_; clear HX; (first | (have hq := b; clear hq; intro w b2 HX) | intro w b HX)) | ((with_reducible apply yau' hl); (· rfl); (· rfl); simp only [Act.put, k_a, k_b, k_c]))
    go_roundg (ps.length - (i + 1))
    case rel => exact ⟨i + 1, by omega, by go_num, by rw [HTK.out]; exact (yeb' H9.out.up1).up1⟩
    case measure => omega
def yxd' (w0 : World) (l m r : Nat) (H : ybx') (R : List Thing) (rows : List (Value × Bs)) (who : Int) (k : Nat) (v5 : Value) (w : World) : Prop :=
 ∃ (left : ybx') (n : Nat), left.length = k ∧ left.Nodup ∧ (∀ e ∈ left, e ∈ H) ∧ n + left.length ≤ H.length ∧ v5 = .int .i64 (n : Int) ∧
  Sep w0 w (yd3' .string m r ((H.filter fun e => decide (e ∈ left) || e.2 != who).map hkv) (left.map hkv) :: yac' l (.cells #[.map (some m)] 223 (0, 0)) :: R) rows
def yx4' (w0 : World) (l : Nat) (H : ybx') (R : List Thing) (rows : List (Value × Bs)) (e : Ending) (w' : World) : Prop :=
 ∃ n : Int, e = .returned (.int .i64 n) ∧ Sep w0 w' (ThLk l H :: R) rows
set_option maxRecDepth 100000 in
set_option maxHeartbeats 4000000 in
theorem yvm' (h : Sep w0 w (ThLk l H :: R) rows) (who : Int) (hn : H.length ≤ 100000) :
  Calls Tryz.prog 84 #[.pointer (some ⟨l, 0, none⟩), .int .i64 who] w (yx4' w0 l (ydz' H who) R rows) := by
 obtain ⟨m, hS⟩ := ylb' h
 have hk := yj4' hS.up1
 have hnd : H.Nodup := by
  rw [List.nodup_iff_pairwise_ne, List.pairwise_map] at hk
  rw [List.nodup_iff_pairwise_ne]
  exact List.Pairwise.imp (fun hab e => hab (congrArg Prod.fst e)) hk
 have HK := Lib.hid (show _ ∧ _ ∧ _ from ⟨hk, hnd, hn⟩)
 have HX := Lib.hid hS
 clear h hS hk hnd hn
 go_enter Tryz.func84, Tryz.ntmps84
 go_upto_region 2 with (first | refine u0 ?_ | (refine uS ?_; clear HX; intro w HX) | (refine uA ?_; clear HX; (first | (have hq := b; clear hq; intro w b2 HX) | intro w b HX)))
 obtain ⟨r, w9, hrun, h9⟩ := yfo' (P := Tryz.prog) HX.out.up1 Tryz.underlying221
 have HST := Lib.hid (show yxd' w0 l m r H R rows who H.length (.int .i64 (0 : Int)) w9 from ⟨H, 0, rfl, HK.out.2.1, fun _ h => h, by omega, rfl, by rw [List.filter_eq_self.2 (fun e he => by simp [he])]; exact h9⟩)
 go_wp2_with (first | refine u0 ?_ | (refine uS ?_; clear HX; intro w HX) | (refine uA ?_; clear HX; (first | (have hq := b; clear hq; intro w b2 HX) | intro w b HX)))
 clear HX hrun h9
 go_loopg [5, 6, 7] H.length (fun k v5 _ _ wr => yxd' w0 l m r H R rows who k v5 wr)
 case atStart => exact HST.out
 case round =>
  obtain ⟨left, n, hk, hnd, hin, hn, rfl, hS⟩ := hrel
  clear HST
  rcases yhp' (P := Tryz.prog) hkv hS with ⟨rfl, hnx⟩ | ⟨l1, ge, l2, w1, rfl, hnx, h1, hen⟩
  ·have HX := Lib.hid hS
   clear hS hk hnd hin hn
   go_wp2_with (first | refine u0 ?_ | (refine uS ?_; clear HX; intro w HX) | (refine uA ?_; clear HX; (first | (have hq := b; clear hq; intro w b2 HX) | intro w b HX)))
   go_ret
   have h5 := yei' HX.out
   have e5 : (H.filter fun e => decide (e ∈ ([] : ybx')) || e.2 != who) = ydz' H who := by
    unfold ydz'
    exact List.filter_congr (fun x _ => by simp)
   rw [e5] at h5
   exact ⟨_, rfl, yeb' h5.up1⟩
  ·have hge := hin ge (by simp)
   rw [List.nodup_append] at hnd
   obtain ⟨n1, n2, n3⟩ := hnd
   rw [List.nodup_cons] at n2
   have hnot : ge ∉ l1 ++ l2 := fun hm => by
    rcases List.mem_append.1 hm with hm | hm
    ·exact n3 _ hm _ k_s rfl
    ·exact n2.1 hm
   have hnd2 : (l1 ++ l2).Nodup := List.nodup_append.2 ⟨n1, n2.2, fun a ha b hb => n3 a ha b (k_n _ hb)⟩
   have HF := Lib.hid (show _ ∧ _ ∧ _ ∧ _ from ⟨hk, hnd2, fun e (he : e ∈ l1 ++ l2) => hin e (by rcases List.mem_append.1 he with h | h <;> simp [h]), hn⟩)
   have hlen : n + (l1 ++ l2).length + 1 ≤ H.length := by simp at hn ⊢; omega
   have HLN := Lib.hid (show n ≤ 100000 ∧ n + (l1 ++ l2).length + 1 ≤ H.length from ⟨by have := HK.out.2.2; omega, hlen⟩)
   have hothers : ∀ x ∈ H, x ≠ ge → (decide (x ∈ l1 ++ l2) || x.2 != who) = (decide (x ∈ l1 ++ ge :: l2) || x.2 != who) := fun x _ hx => by
    have : (x ∈ l1 ++ l2) ↔ (x ∈ l1 ++ ge :: l2) := by simp [hx]
    simp [this]
   by_cases hx : ge.2 = who
   ·obtain ⟨c1, c2, e1, e2⟩ := yj1' (f := fun e => decide (e ∈ l1 ++ ge :: l2) || e.2 != who) (f' := fun e => decide (e ∈ l1 ++ l2) || e.2 != who) HK.out.2.1 hge (by simp) (by rw [hx]; simp only [bne_self_eq_false, Bool.or_false]; exact decide_eq_false hnot) hothers
    rw [e1, List.map_append, List.map_cons] at h1
    obtain ⟨w9, hrun, h9⟩ := y0i' (P := Tryz.prog) (key := (hkv ge).1) (v0 := (hkv ge).2) h1 trivial (fun p hp e => by
     obtain ⟨x, hx2, rfl⟩ := List.mem_map.1 hp
     have hxe : x.1 = ge.1 := yg6' e
     have hxH := HF.out.2.2.1 x hx2
     exact hnot ((yi6' (f := fun e : Bs × Int => e.1) HK.out.1 hxH hge hxe) ▸ hx2)) Tryz.underlying221 Tryz.underlying9
    rw [← List.map_append, ← e2] at h9
    have HX := Lib.hid h1
    have H9 := Lib.hid h9
    clear hS h1 h9 hk hin hge hnot n1 n2 n3 hnd2 hn hlen hothers e1 e2
    obtain ⟨q, x⟩ := ge
    dsimp only [hkv] at hnx hen hrun hx HX
    have q1 : (x == who) = true := by rw [hx]; exact beq_self_eq_true _
    have q9 : n ≤ 100000 := HLN.out.1
    clear hx
    go_wp2_with (first | refine u0 ?_ | (refine uS ?_; clear HX; intro w HX) | (refine uA ?_; clear HX; (first | (have hq := b; clear hq; intro w b2 HX) | intro w b HX)))
    go_roundg (l1 ++ l2).length
    case rel => exact ⟨l1 ++ l2, n + 1, rfl, HF.out.2.1, HF.out.2.2.1, by have := HLN.out.2; omega, by go_num, H9.out⟩
    case measure =>
     have := HF.out.1
     simp at this ⊢; omega
   ·have e2 : (H.filter fun e => decide (e ∈ l1 ++ ge :: l2) || e.2 != who) = H.filter fun e => decide (e ∈ l1 ++ l2) || e.2 != who := List.filter_congr (fun x hxH => by
     by_cases hxg : x = ge
     ·subst hxg
      have : (x.2 != who) = true := by rw [bne_iff_ne]; exact hx
      simp [this]
     ·exact (hothers x hxH hxg).symm)
    rw [e2] at h1
    have HX := Lib.hid h1
    clear hS h1 hk hin hge hnot n1 n2 n3 hnd2 hn hlen hothers e2
    obtain ⟨q, x⟩ := ge
    dsimp only [hkv] at hnx hen hx HX
    have q1 : (x == who) = false := by rw [beq_eq_false_iff_ne]; exact hx
    clear hx
    go_wp2_with (first | refine u0 ?_ | (refine uS ?_; clear HX; intro w HX) | (refine uA ?_; clear HX; (first | (have hq := b; clear hq; intro w b2 HX) | intro w b HX)))
    go_roundg (l1 ++ l2).length
    case rel => exact ⟨l1 ++ l2, n, rfl, HF.out.2.1, HF.out.2.2.1, by have := HLN.out.2; omega, rfl, HX.out⟩
    case measure =>
     have := HF.out.1
     simp at this ⊢; omega
set_option maxRecDepth 100000 in
theorem yn9' (h : Sep w0 w (ThLk l H :: R) rows) : Calls Tryz.prog 92 #[.pointer (some ⟨l, 0, none⟩)] w fun e w' => e = .returned (.int .i64 (H.length : Nat)) ∧ Sep w0 w' (ThLk l H :: R) rows := by
 obtain ⟨m, hS⟩ := ylb' h
 have hlen := fun ty => ys2' (P := Tryz.prog) hS.up1.mapIs Tryz.underlying221 ty
 rw [List.length_map] at hlen
 have HX := Lib.hid hS
 clear h hS
 go_enter Tryz.func92, Tryz.ntmps92
 go_wp2_with (first | refine u0 ?_ | (refine uS ?_; clear HX; intro w HX) | (refine uA ?_; clear HX; (first | (have hq := b; clear hq; intro w b2 HX) | intro w b HX)))
 go_ret
 exact ⟨rfl, yeb' HX.out⟩
set_option maxRecDepth 100000 in
theorem yoa' (h : Sep w0 w R rows) : Calls Tryz.prog 59 #[] w fun e w' => ∃ l, e = .returned (.pointer (some ⟨l, 0, none⟩)) ∧ Sep w0 w' (ThLk l [] :: R) rows := by
 have HX := Lib.hid h
 clear h
 go_enter Tryz.func59, Tryz.ntmps59
 go_wp2_with (first | refine u0 ?_ | (refine uS ?_; clear HX; intro w HX) | (refine uA ?_; clear HX; (first | (have hq := b; clear hq; intro w b2 HX) | intro w b HX)) | (refine uN ?_; clear HX; intro w mm HX))
 go_ret
 exact ⟨_, rfl, yeb' HX.out⟩
end
end Go.Proofs.YtcnkifbjlihaoaaGreatDoor

namespace Go.Av
open Go.RowKit
structure WaitG where
 id : Int
 x : WaitS
 v : Value
def WaitG.kv (g : WaitG) : Value × Value := (.int .i64 g.id, .agg #[.int .i64 g.x.sess, g.v, .bool g.x.close, .bool g.x.fails])
def WaitG.ent (g : WaitG) : Int × WaitS := (g.id, g.x)
def ikv (i : Int) : Value × Value := (.int .i64 i, .bool true)
theorem ycw' (a b : List OpS) : yan' (a ++ b) = yan' a + yan' b := by unfold yan'; rw [List.filter_append, List.length_append]
theorem ydq' (o : OpS) : yan' [o] = if o.kind = 1 then 1 else 0 := by
 unfold yan'
 by_cases h : o.kind = 1
 ·rw [if_pos h]; simp [h]
 ·rw [if_neg h]; simp [h]
theorem yf6' (l : List OpS) : yan' l ≤ l.length := List.length_filter_le _ _
theorem yhn' {l : List OpS} (h : yan' l = 0) : yd5' l = 0 := by unfold yd5'; rw [if_pos h]
theorem yj2' {a : List OpS} (o : OpS) (h : yan' a ≠ 0) : yd5' (a ++ [o]) = yd5' a := by
 unfold yd5'
 rw [if_neg h, if_neg (by rw [ycw']; omega), List.findIdx_append, if_pos]
 unfold yan' at h
 obtain ⟨x, hx⟩ := List.exists_mem_of_length_pos (Nat.pos_of_ne_zero h)
 obtain ⟨h1, h2⟩ := List.mem_filter.1 hx
 exact List.findIdx_lt_length_of_exists ⟨x, h1, h2⟩
theorem yqo' {a : List OpS} {o : OpS} (h : yan' a = 0) (ho : o.kind = 1) : yd5' (a ++ [o]) = a.length := by
 have hn : ∀ x ∈ a, (x.kind == 1) = false := fun x hx => by
  cases hh : (x.kind == 1) with
  | false => rfl
  | true =>
   have : x ∈ a.filter fun o => o.kind == 1 := List.mem_filter.2 ⟨hx, hh⟩
   unfold yan' at h
   rw [List.eq_nil_of_length_eq_zero h] at this
   cases this
 unfold yd5'
 rw [if_neg (by rw [ycw', ydq', if_pos ho]; omega), List.findIdx_append, if_neg]
 ·simp [ho]
 ·have : List.findIdx (fun o => o.kind == 1) a = a.length := List.findIdx_eq_length.2 hn
  omega
end Go.Av
namespace Go.Proofs.YtcnkifbjlihaoaaGreatDoor
open Go.RowKit Go.Av
theorem sn_x1 : StructN Tryz.prog 123 7 := ⟨by kernel_rfl⟩
theorem sn_x2 : StructN Tryz.prog 144 4 := ⟨by kernel_rfl⟩
theorem z_x2 : ydh' Tryz.prog 144 #[.int .i64 0, .slice none 0 0, .bool false, .bool false] := by unfold ydh'; kernel_rfl
abbrev yai' (room : Int) (t lk : Nat) (zxid : Int) (mw md mc : Nat) : Array Value := #[.int .i64 room, .pointer (some ⟨t, 0, none⟩), .pointer (some ⟨lk, 0, none⟩), .int .i64 zxid, .map (some mw), .map (some md), .map (some mc)]
def PtO (b : Nat) (S : PartS) (P : List PRow) (L : List Thing) : Prop :=
 ∃ (t lk mw md mc : Nat) (gs : List WaitG), L = [yac' b (.cells (yai' S.t.room t lk S.zxid mw md mc) 123 (0, 0)), yaj' t S.t P, ThLk lk S.held, yam' (.int .i64) mw (gs.map WaitG.kv), yam' (.int .i64) md (S.decided.map ikv), yam' (.int .i64) mc (S.closed.map ikv)] ∧
  gs.map WaitG.ent = S.wait ∧ ∀ g ∈ gs, (5, g.v, g.x.ops.flatMap OpS.cells) ∈ P
def ybk' (b : Nat) (S : PartS) (P : List PRow) : Thing := Bun (PtO b S P)
section
variable {w0 w : World} {b : Nat} {S : PartS} {P P' : List PRow} {R : List Thing} {rows : List (Value × Bs)}
theorem ybt' (h : Sep w0 w (ybk' b S P :: R) rows) : ∃ (t lk mw md mc : Nat) (gs : List WaitG), gs.map WaitG.ent = S.wait ∧ (∀ g ∈ gs, (5, g.v, g.x.ops.flatMap OpS.cells) ∈ P) ∧
  Sep w0 w (yac' b (.cells (yai' S.t.room t lk S.zxid mw md mc) 123 (0, 0)) :: yaj' t S.t P :: ThLk lk S.held :: yam' (.int .i64) mw (gs.map WaitG.kv) :: yam' (.int .i64) md (S.decided.map ikv) :: yam' (.int .i64) mc (S.closed.map ikv) :: R) rows := by
 obtain ⟨L, ⟨t, lk, mw, md, mc, gs, rfl, h1, h2⟩, hS⟩ := h.opens
 exact ⟨t, lk, mw, md, mc, gs, h1, h2, hS⟩
theorem ya7' {t lk mw md mc : Nat} {gs : List WaitG} (h : Sep w0 w (yac' b (.cells (yai' S.t.room t lk S.zxid mw md mc) 123 (0, 0)) :: yaj' t S.t P :: ThLk lk S.held :: yam' (.int .i64) mw (gs.map WaitG.kv) :: yam' (.int .i64) md (S.decided.map ikv) :: yam' (.int .i64) mc (S.closed.map ikv) :: R) rows)
  (h1 : gs.map WaitG.ent = S.wait) (h2 : ∀ g ∈ gs, (5, g.v, g.x.ops.flatMap OpS.cells) ∈ P) : Sep w0 w (ybk' b S P :: R) rows :=
 Sep.shut (O := PtO b S P) ⟨t, lk, mw, md, mc, gs, rfl, h1, h2⟩ h
theorem yde' (h : Sep w0 w (ybk' b S P :: R) rows) (hP : ∀ r ∈ P, r ∈ P') : Sep w0 w (ybk' b S P' :: R) rows := by
 obtain ⟨t, lk, mw, md, mc, gs, h1, h2, hS⟩ := ybt' h
 exact ya7' (yaz' hS.up1 hP).up1 h1 (fun g hg => hP _ (h2 g hg))
set_option maxRecDepth 100000 in
set_option maxHeartbeats 4000000 in
theorem yit' (h : Sep w0 w (yab' w0 P :: R) rows) (l : List OpS) (v : Value) (hv : (5, v, l.flatMap OpS.cells) ∈ P) (hn : l.length ≤ 100000) :
  Calls Tryz.prog 93 #[v] w fun e w' => e = .returned (.tuple #[.int .i64 (yan' l : Nat), .int .i64 (yd5' l : Nat)]) ∧ Sep w0 w' (yab' w0 P :: R) rows := by
 obtain ⟨E, hE⟩ := h.poolGet hv
 obtain ⟨a, n, c, rfl, hl0, -, -, hne⟩ := ReadRow.some hE
 rw [yav' yak'] at hl0
 obtain rfl : l.length = n := by omega
 have HNE := Lib.hid hne
 have HV := Lib.hid hv
 have HX := Lib.hid h
 have HN := Lib.hid hn
 clear h hE hne hv hl0
 go_enter Tryz.func93, Tryz.ntmps93
 go_wp2_with (first | refine u0 ?_ | (refine uS ?_; clear HX; intro w HX) | (refine uA ?_; clear HX; (first | (have hq := b; clear hq; intro w b2 HX) | intro w b HX)))
 have HST := HX
 clear HX
 go_loopg [2, 3, 8] l.length (fun k v2 v3 v8 wr => ∃ i : Nat, i + k = l.length ∧ v2 = .int .i64 (yan' (l.take i) : Nat) ∧ v3 = .int .i64 (yd5' (l.take i) : Nat) ∧ v8 = .int .i64 (i : Int) ∧ Sep w0 wr (yab' w0 P :: R) rows)
 case atStart => exact ⟨0, by simp, rfl, rfl, rfl, HST.out⟩
 case round =>
  rename World => w
  obtain ⟨i, hik, rfl, rfl, rfl, hS⟩ := hrel
  clear HST
  have HX := Lib.hid hS
  clear hS
  by_cases hlt : i < l.length
  case neg =>
   obtain rfl : i = l.length := by omega
   rw [List.take_length]
   clear hlt hik
   go_wp2_with (first | refine u0 ?_ | (refine uS ?_; clear HX; intro w HX) | (refine uA ?_; clear HX; (first | (have hq := b; clear hq; intro w b2 HX) | intro w b HX)))
   go_ret2
   exact ⟨rfl, HX.out⟩
  case pos =>
   obtain ⟨g, off, rfl⟩ := HNE.out (by intro e; have := congrArg List.length e; rw [yav' yak'] at this; simp at this; omega)
   obtain ⟨E, hE⟩ := HX.out.poolGet HV.out
   have hl := ycs' (P := Tryz.prog) (f := OpS.cells) (i := i) hE yak' sn_op hlt
   have htk : l.take (i + 1) = l.take i ++ [l[i]] := List.take_succ_eq_append_getElem hlt
   have hcn := yf6' (l.take i)
   have hti : (l.take i).length = i := by rw [List.length_take]; omega
   have q0 : decide (i < l.length) = true := decide_eq_true hlt
   obtain ⟨o, ho⟩ : ∃ o, l[i] = o := ⟨_, rfl⟩
   rw [ho] at hl htk
   have hca : yan' (l.take (i + 1)) = yan' (l.take i) + (if o.kind = 1 then 1 else 0) := by rw [htk, ycw', ydq']
   obtain ⟨kind, path, data, ver, flags⟩ := o
   simp only [OpS.cells] at hl
   dsimp only at hca
   by_cases hk : kind = 1
   ·have q1 : (kind != 1) = false := by rw [hk]; rfl
    rw [if_pos hk] at hca
    by_cases h0 : yan' (l.take i) = 0
    ·have hfi := yqo' (o := ⟨kind, path, data, ver, flags⟩) h0 hk
     rw [← htk, hti] at hfi
     rw [h0, yhn' h0]
     have HFI := Lib.hid (show _ ∧ _ from ⟨hca, hfi⟩)
     clear hE ho hfi hk hca hcn htk
     go_wp2_with (first | refine u0 ?_ | (refine uS ?_; clear HX; intro w HX) | (refine uA ?_; clear HX; (first | (have hq := b; clear hq; intro w b2 HX) | intro w b HX)) | ((with_reducible apply yau' hl); (· rfl); (· rfl); simp only [Act.put, k_a, k_b, k_c]))
     go_roundg (l.length - (i + 1))
     case rel => exact ⟨i + 1, by omega, by rw [HFI.out.1, h0]; rfl, by rw [HFI.out.2], by go_num, HX.out.drop⟩
     case measure => omega
    ·have hfi := yj2' ⟨kind, path, data, ver, flags⟩ h0
     rw [← htk] at hfi
     have HFI := Lib.hid (show _ ∧ _ from ⟨hca, hfi⟩)
     obtain ⟨cc, hcc⟩ : ∃ cc, yan' (l.take i) = cc := ⟨_, rfl⟩
     rw [hcc] at h0 HFI hcn ⊢
     have q2 : ((cc : Int) == 0) = false := by rw [beq_eq_false_iff_ne]; omega
     have q3 : cc ≤ 100000 := by have := HN.out; omega
     clear hE ho hfi hk hca hcn htk hcc
     go_wp2_with (first | refine u0 ?_ | (refine uS ?_; clear HX; intro w HX) | (refine uA ?_; clear HX; (first | (have hq := b; clear hq; intro w b2 HX) | intro w b HX)) | ((with_reducible apply yau' hl); (· rfl); (· rfl); simp only [Act.put, k_a, k_b, k_c]))
     go_roundg (l.length - (i + 1))
     case rel => exact ⟨i + 1, by omega, by rw [HFI.out.1]; go_num, by rw [HFI.out.2], by go_num, HX.out.drop⟩
     case measure => omega
   ·have q1 : (kind != 1) = true := by rw [bne_iff_ne]; exact hk
    rw [if_neg hk, Nat.add_zero] at hca
    have hfi : yd5' (l.take (i + 1)) = yd5' (l.take i) := by
     by_cases h0 : yan' (l.take i) = 0
     ·rw [yhn' h0, yhn' (by rw [hca]; exact h0)]
     ·rw [htk]; exact yj2' _ h0
    have HFI := Lib.hid (show _ ∧ _ from ⟨hca, hfi⟩)
    clear hE ho hfi hk hca hcn htk
    go_wp2_with (first | refine u0 ?_ | (refine uS ?_; clear HX; intro w HX) | (refine uA ?_; clear HX; (first | (have hq := b; clear hq; intro w b2 HX) | intro w b HX)) | ((with_reducible apply yau' hl); (· rfl); (· rfl); simp only [Act.put, k_a, k_b, k_c]))
    go_roundg (l.length - (i + 1))
    case rel => exact ⟨i + 1, by omega, by rw [HFI.out.1]; rfl, by rw [HFI.out.2], by go_num, HX.out.drop⟩
    case measure => omega
end
end Go.Proofs.YtcnkifbjlihaoaaGreatDoor

namespace Go.Av
open Go.RowKit
theorem ywn' {f : Int} (h0 : 0 ≤ f) (h3 : f ≤ 3) : (bits .and .i64 f 2 != 0) = seqF f := by
 rcases (show f = 0 ∨ f = 1 ∨ f = 2 ∨ f = 3 by omega) with rfl | rfl | rfl | rfl <;> decide
end Go.Av
namespace Go.Proofs.YtcnkifbjlihaoaaGreatDoor
open Go.RowKit Go.Av
section
variable {w0 w : World} {b : Nat} {S : PartS} {P P' : List PRow} {R : List Thing} {rows : List (Value × Bs)}
def yyg' (w0 : World) (l : List Bs) (R : List Thing) (rows : List (Value × Bs)) (e : Ending) (w' : World) : Prop :=
 ∃ v, e = .returned v ∧ Sep w0 w' (yaf' 1 v (l.map sv) :: R) rows
set_option maxRecDepth 100000 in
set_option maxHeartbeats 4000000 in
theorem yhb' (h : Sep w0 w R rows) (hd : DoorN w0) (o : OpS) (hp : o.path.size ≤ 100000) (h0 : 0 ≤ o.flags) (h3 : o.flags ≤ 3) :
  Calls Tryz.prog 72 #[o.val] w (yyg' w0 (yay' o) R rows) := by
 have hsq := ywn' h0 h3
 obtain ⟨ws, hws⟩ : ∃ ws, yay' o = ws := ⟨_, rfl⟩
 rw [hws]
 have HWS := Lib.hid hws
 have HX := Lib.hid h
 clear h hws h0 h3
 obtain ⟨kind, path, data, ver, flags⟩ := o
 unfold OpS.val
 dsimp only at hp hsq ⊢
 obtain ⟨zs, hzs⟩ : ∃ z, seqF flags = z := ⟨_, rfl⟩
 rw [hzs] at hsq
 have HZS := Lib.hid hzs
 clear hzs
 have HBD := Lib.hid (show ∀ n, [sv path.data.toList].length = n * 1 → n + 1 ≤ 140737488355328 ∧ (n + 1) * 16 ≤ 140737488355328 from fun n hn => by simp at hn; omega)
 go_enter Tryz.func72, Tryz.ntmps72
 go_upto_region 2 with (first | refine u0 ?_ | (refine uS ?_; clear HX; intro w HX) | (refine uA ?_; clear HX; (first | (have hq := b; clear hq; intro w b2 HX) | intro w b HX)) | (refine uP ?_; clear HX; intro w av nv cv HX))
 have h9 := HX.out.cellRow (K := 1) (n := 1) (cs := [Value.string path]) rfl (by omega)
 replace HX := Lib.hid h9
 clear h9
 go_wp2_with (first | refine u0 ?_ | (refine uS ?_; clear HX; intro w HX) | (refine uA ?_; clear HX; (first | (have hq := b; clear hq; intro w b2 HX) | intro w b HX)) | (refine uP ?_; clear HX; intro w av nv cv HX))
 refine (ydo' path _ (hd.sep HX.out).1 (by unfold maxLen; omega)).mono ?_
 cases hpa : yat' path.data.toList with
 | none =>
  rintro e w1 ⟨rfl, hu⟩
  replace HX := Lib.hid (HX.out.keep hu)
  obtain rfl : ws = [path.data.toList] := by rw [← HWS.out]; unfold yay'; rw [show yat' (OpS.p ⟨kind, path, data, ver, flags⟩) = none from hpa]; rfl
  clear hu hpa
  dsimp only [Option.isSome, Option.getD]
  unfold sv
  go_wp2_with (first | refine u0 ?_ | (refine uS ?_; clear HX; intro w HX) | (refine uA ?_; clear HX; (first | (have hq := b; clear hq; intro w b2 HX) | intro w b HX)) | (refine uP ?_; clear HX; intro w av nv cv HX))
  go_ret
  exact ⟨_, rfl, HX.out.cut1⟩
 | some up =>
  rintro e w1 ⟨rfl, hu⟩
  replace HX := Lib.hid (HX.out.keep hu)
  have HW2 := Lib.hid (show ws = if kind == 1 && zs then [path.data.toList, up] else [path.data.toList] by rw [← HWS.out]; unfold yay'; rw [show yat' (OpS.p ⟨kind, path, data, ver, flags⟩) = some up from hpa, ← HZS.out]; rfl)
  clear hu hpa
  dsimp only [Option.isSome, Option.getD]
  obtain ⟨us, hus⟩ : ∃ us : ByteArray, us = ⟨up.toArray⟩ := ⟨_, rfl⟩
  have husv : sv up = .string us := by rw [hus]; rfl
  rw [husv]
  have HUS := Lib.hid husv
  clear hus husv
  obtain ⟨zk, hzk⟩ : ∃ z, (kind == 1) = z := ⟨_, rfl⟩
  rw [hzk] at HW2
  cases zk with
  | false =>
   obtain rfl : ws = [path.data.toList] := HW2.out
   go_wp2_with (first | refine u0 ?_ | (refine uS ?_; clear HX; intro w HX) | (refine uA ?_; clear HX; (first | (have hq := b; clear hq; intro w b2 HX) | intro w b HX)) | (refine uP ?_; clear HX; intro w av nv cv HX))
   go_ret
   exact ⟨_, rfl, HX.out.cut1⟩
  | true =>
   cases zs with
   | false =>
    obtain rfl : ws = [path.data.toList] := HW2.out
    go_wp2_with (first | refine u0 ?_ | (refine uS ?_; clear HX; intro w HX) | (refine uA ?_; clear HX; (first | (have hq := b; clear hq; intro w b2 HX) | intro w b HX)) | (refine uP ?_; clear HX; intro w av nv cv HX))
    go_ret
    exact ⟨_, rfl, HX.out.cut1⟩
   | true =>
    obtain rfl : ws = [path.data.toList, up] := HW2.out
    go_wp2_with (first | refine u0 ?_ | (refine uS ?_; clear HX; intro w HX) | (refine uA ?_; clear HX; (first | (have hq := b; clear hq; intro w b2 HX) | intro w b HX)) | (refine uP ?_; clear HX; intro w av nv cv HX))
    go_ret
    refine ⟨_, rfl, ?_⟩
    rw [List.map_cons, List.map_cons, List.map_nil, HUS.out]
    exact HX.out.cut1.cut1
end
end Go.Proofs.YtcnkifbjlihaoaaGreatDoor
