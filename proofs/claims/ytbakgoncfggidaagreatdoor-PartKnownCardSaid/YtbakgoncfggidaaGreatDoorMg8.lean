/-
  Texts of this claim, laid together.
-/
import Derived.Test.YtbakgoncfggidaaGreatDoorMg7
import Derived.HandedShaped
import Derived.Handed
import Derived.Lib.LaidTab
set_option linter.unusedVariables false
set_option linter.unusedSimpArgs false

namespace Go.Proofs.YtbakgoncfggidaaGreatDoor
open Go.RowKit Go.Av
section
variable {W : World}
def FaRel (W : World) (n : Nat) (rs : List PRow) (b k : Nat) (v : Value) (w : World) : Prop :=
  ∃ (i : Nat) (S : PartS) (P' : List PRow), i + k = n ∧ v = .int .i64 (i : Int) ∧ (∀ r ∈ rs, r ∈ P') ∧ PartC i S ∧ IdsW S ∧ S.wait = [] ∧ S.held = [] ∧ S.t.room = 30 ∧ Sep W w [ThPool W P', ThPart b S P'] []
def FlRel (W : World) (l : List PAct) (ops : List OpS) (X : TreeS) (rs : List PRow) (b k : Nat) (v : Value) (w : World) : Prop :=
  ∃ (i : Nat) (S : PartS) (P' : List PRow), i + k = l.length ∧ v = .int .i64 (i : Int) ∧ (∀ r ∈ rs, r ∈ P') ∧ PartC (30 + i) S ∧ IdsW S ∧ Fore ops X S ∧ Sep W w [ThPool W P', ThPart b S P'] []
def FrRel (W : World) (n : Nat) (Ts : List Thing) (k : Nat) (v : Value) (w : World) : Prop :=
  ∃ (i : Nat), i + k = n ∧ v = .int .i64 (i : Int) ∧ Sep W w Ts []
theorem local_room (S : PartS) (sess num : Int) (l : List OpS) : (localS S sess num l).2.t.room = S.t.room := by
  unfold localS
  split
  · rfl
  · split
    · rfl
    · exact request_room ..
theorem pt_pool {w0 w : World} {b : Nat} {S : PartS} {P : List PRow} {R : List Thing} {rows : List (Value × Bs)} {r : PRow} (h : Sep w0 w (ThPool w0 (r :: P) :: ThPart b S P :: R) rows) : Sep w0 w (ThPool w0 (r :: P) :: ThPart b S (r :: P) :: R) rows :=
  (pt_mono h.up1 (fun q hq => k_n _ hq)).up1
set_option maxRecDepth 100000 in
set_option maxHeartbeats 16000000 in
theorem partForeseen_walk (a0 : Option Addr) (len0 cap0 : Nat) (l0 : List OpS) (a1 : Option Addr) (len1 cap1 : Nat) (l1 : List OpS) (a2 : Option Addr) (len2 cap2 : Nat) (l2 : List PAct) (commit : Bool) (W : World) (hd : DoorN W) (h0 : IsOps W a0 len0 cap0 l0) (h1 : IsOps W a1 len1 cap1 l1) (h2 : IsPActs W a2 len2 cap2 l2) :
    Calls Tryz.prog 7 #[.slice a0 len0 cap0, .slice a1 len1 cap1, .slice a2 len2 cap2, .bool commit] W fun e w' => e = .returned (.bool true) ∧ Below W.heap.size W w' := by
  obtain ⟨E0, r0⟩ := h0.row
  obtain ⟨E1, r1⟩ := h1.row
  obtain ⟨E2, r2⟩ := h2.row
  obtain rfl : l0.length = len0 := h0.1
  obtain rfl : l1.length = len1 := h1.1
  obtain rfl : l2.length = len2 := h2.1
  have HR := Lib.hid (show _ ∧ _ ∧ _ from ⟨r0, r1, r2⟩)
  have HO := Lib.hid h2.2.2.2.2.2
  clear h0 h1 h2 r0 r1 r2
  by_cases hl0 : longS l0 = true
  · go_enter Tryz.func7, Tryz.ntmps7
    go_wp2_with fail
    refine (awake_any hd).mono ?_
    rintro e w ⟨rfl, hu⟩
    have HX := Lib.hid (((Sep.start W).keep hu).poolNew.poolOld HR.out.2.2 |>.poolOld HR.out.2.1 |>.poolOld HR.out.1)
    clear hu
    go_wp2_with (first | go_skip | refine uK ?_ | refine uL ?_ | refine uM ?_ | (refine uS ?_; clear HX; intro w HX) | (refine uA ?_; clear HX; (first | (have hq := b8; clear hq; intro w b9 HX) | (have hq := b7; clear hq; intro w b8 HX) | (have hq := b6; clear hq; intro w b7 HX) | (have hq := b5; clear hq; intro w b6 HX) | (have hq := b4; clear hq; intro w b5 HX) | (have hq := b3; clear hq; intro w b4 HX) | (have hq := b2; clear hq; intro w b3 HX) | (have hq := b; clear hq; intro w b2 HX) | intro w b HX)) | (refine tWN ?_; clear HX; intro w mm HX; simp only [Act.put, k_a, k_b, k_c]) | (refine tWP ?_; clear HX; intro w av nv cv HX; simp only [Act.put, k_a, k_b, k_c]))
    have hlong := long_any HX.out l0 _ k_s
    rw [hl0] at hlong
    refine hlong.mono ?_
    clear hlong
    rintro e w ⟨rfl, hx⟩
    clear HX
    have HX := Lib.hid hx
    clear hx
    go_wp2_with (first | go_skip | refine uK ?_ | refine uL ?_ | refine uM ?_ | (refine uS ?_; clear HX; intro w HX) | (refine uA ?_; clear HX; (first | (have hq := b8; clear hq; intro w b9 HX) | (have hq := b7; clear hq; intro w b8 HX) | (have hq := b6; clear hq; intro w b7 HX) | (have hq := b5; clear hq; intro w b6 HX) | (have hq := b4; clear hq; intro w b5 HX) | (have hq := b3; clear hq; intro w b4 HX) | (have hq := b2; clear hq; intro w b3 HX) | (have hq := b; clear hq; intro w b2 HX) | intro w b HX)) | (refine tWN ?_; clear HX; intro w mm HX; simp only [Act.put, k_a, k_b, k_c]) | (refine tWP ?_; clear HX; intro w av nv cv HX; simp only [Act.put, k_a, k_b, k_c]))
    go_ret
    exact ⟨rfl, HX.out.below⟩
  have hl0 : longS l0 = false := by simpa using hl0
  by_cases hl1 : longS l1 = true
  · go_enter Tryz.func7, Tryz.ntmps7
    go_wp2_with fail
    refine (awake_any hd).mono ?_
    rintro e w ⟨rfl, hu⟩
    have HX := Lib.hid (((Sep.start W).keep hu).poolNew.poolOld HR.out.2.2 |>.poolOld HR.out.2.1 |>.poolOld HR.out.1)
    clear hu
    go_wp2_with (first | go_skip | refine uK ?_ | refine uL ?_ | refine uM ?_ | (refine uS ?_; clear HX; intro w HX) | (refine uA ?_; clear HX; (first | (have hq := b8; clear hq; intro w b9 HX) | (have hq := b7; clear hq; intro w b8 HX) | (have hq := b6; clear hq; intro w b7 HX) | (have hq := b5; clear hq; intro w b6 HX) | (have hq := b4; clear hq; intro w b5 HX) | (have hq := b3; clear hq; intro w b4 HX) | (have hq := b2; clear hq; intro w b3 HX) | (have hq := b; clear hq; intro w b2 HX) | intro w b HX)) | (refine tWN ?_; clear HX; intro w mm HX; simp only [Act.put, k_a, k_b, k_c]) | (refine tWP ?_; clear HX; intro w av nv cv HX; simp only [Act.put, k_a, k_b, k_c]))
    have hlong := long_any HX.out l0 _ k_s
    rw [hl0] at hlong
    refine hlong.mono ?_
    clear hlong
    rintro e w ⟨rfl, hx⟩
    clear HX
    have HX := Lib.hid hx
    clear hx
    go_wp2_with (first | go_skip | refine uK ?_ | refine uL ?_ | refine uM ?_ | (refine uS ?_; clear HX; intro w HX) | (refine uA ?_; clear HX; (first | (have hq := b8; clear hq; intro w b9 HX) | (have hq := b7; clear hq; intro w b8 HX) | (have hq := b6; clear hq; intro w b7 HX) | (have hq := b5; clear hq; intro w b6 HX) | (have hq := b4; clear hq; intro w b5 HX) | (have hq := b3; clear hq; intro w b4 HX) | (have hq := b2; clear hq; intro w b3 HX) | (have hq := b; clear hq; intro w b2 HX) | intro w b HX)) | (refine tWN ?_; clear HX; intro w mm HX; simp only [Act.put, k_a, k_b, k_c]) | (refine tWP ?_; clear HX; intro w av nv cv HX; simp only [Act.put, k_a, k_b, k_c]))
    have hlong := long_any HX.out l1 _ (k_n _ k_s)
    rw [hl1] at hlong
    refine hlong.mono ?_
    clear hlong
    rintro e w ⟨rfl, hx⟩
    clear HX
    have HX := Lib.hid hx
    clear hx
    go_wp2_with (first | go_skip | refine uK ?_ | refine uL ?_ | refine uM ?_ | (refine uS ?_; clear HX; intro w HX) | (refine uA ?_; clear HX; (first | (have hq := b8; clear hq; intro w b9 HX) | (have hq := b7; clear hq; intro w b8 HX) | (have hq := b6; clear hq; intro w b7 HX) | (have hq := b5; clear hq; intro w b6 HX) | (have hq := b4; clear hq; intro w b5 HX) | (have hq := b3; clear hq; intro w b4 HX) | (have hq := b2; clear hq; intro w b3 HX) | (have hq := b; clear hq; intro w b2 HX) | intro w b HX)) | (refine tWN ?_; clear HX; intro w mm HX; simp only [Act.put, k_a, k_b, k_c]) | (refine tWP ?_; clear HX; intro w av nv cv HX; simp only [Act.put, k_a, k_b, k_c]))
    go_ret
    exact ⟨rfl, HX.out.below⟩
  have hl1 : longS l1 = false := by simpa using hl1
  by_cases h25 : 25 < l2.length
  · have q1 : decide (25 < l2.length) = true := decide_eq_true h25
    have q2 : decide (25 < (l2.length : Int)) = true := decide_eq_true (by omega)
    go_enter Tryz.func7, Tryz.ntmps7
    go_wp2_with fail
    refine (awake_any hd).mono ?_
    rintro e w ⟨rfl, hu⟩
    have HX := Lib.hid (((Sep.start W).keep hu).poolNew.poolOld HR.out.2.2 |>.poolOld HR.out.2.1 |>.poolOld HR.out.1)
    clear hu
    go_wp2_with (first | go_skip | refine uK ?_ | refine uL ?_ | refine uM ?_ | (refine uS ?_; clear HX; intro w HX) | (refine uA ?_; clear HX; (first | (have hq := b8; clear hq; intro w b9 HX) | (have hq := b7; clear hq; intro w b8 HX) | (have hq := b6; clear hq; intro w b7 HX) | (have hq := b5; clear hq; intro w b6 HX) | (have hq := b4; clear hq; intro w b5 HX) | (have hq := b3; clear hq; intro w b4 HX) | (have hq := b2; clear hq; intro w b3 HX) | (have hq := b; clear hq; intro w b2 HX) | intro w b HX)) | (refine tWN ?_; clear HX; intro w mm HX; simp only [Act.put, k_a, k_b, k_c]) | (refine tWP ?_; clear HX; intro w av nv cv HX; simp only [Act.put, k_a, k_b, k_c]))
    have hlong := long_any HX.out l0 _ k_s
    rw [hl0] at hlong
    refine hlong.mono ?_
    clear hlong
    rintro e w ⟨rfl, hx⟩
    clear HX
    have HX := Lib.hid hx
    clear hx
    go_wp2_with (first | go_skip | refine uK ?_ | refine uL ?_ | refine uM ?_ | (refine uS ?_; clear HX; intro w HX) | (refine uA ?_; clear HX; (first | (have hq := b8; clear hq; intro w b9 HX) | (have hq := b7; clear hq; intro w b8 HX) | (have hq := b6; clear hq; intro w b7 HX) | (have hq := b5; clear hq; intro w b6 HX) | (have hq := b4; clear hq; intro w b5 HX) | (have hq := b3; clear hq; intro w b4 HX) | (have hq := b2; clear hq; intro w b3 HX) | (have hq := b; clear hq; intro w b2 HX) | intro w b HX)) | (refine tWN ?_; clear HX; intro w mm HX; simp only [Act.put, k_a, k_b, k_c]) | (refine tWP ?_; clear HX; intro w av nv cv HX; simp only [Act.put, k_a, k_b, k_c]))
    have hlong := long_any HX.out l1 _ (k_n _ k_s)
    rw [hl1] at hlong
    refine hlong.mono ?_
    clear hlong
    rintro e w ⟨rfl, hx⟩
    clear HX
    have HX := Lib.hid hx
    clear hx
    go_wp2_with (first | go_skip | refine uK ?_ | refine uL ?_ | refine uM ?_ | (refine uS ?_; clear HX; intro w HX) | (refine uA ?_; clear HX; (first | (have hq := b8; clear hq; intro w b9 HX) | (have hq := b7; clear hq; intro w b8 HX) | (have hq := b6; clear hq; intro w b7 HX) | (have hq := b5; clear hq; intro w b6 HX) | (have hq := b4; clear hq; intro w b5 HX) | (have hq := b3; clear hq; intro w b4 HX) | (have hq := b2; clear hq; intro w b3 HX) | (have hq := b; clear hq; intro w b2 HX) | intro w b HX)) | (refine tWN ?_; clear HX; intro w mm HX; simp only [Act.put, k_a, k_b, k_c]) | (refine tWP ?_; clear HX; intro w av nv cv HX; simp only [Act.put, k_a, k_b, k_c]))
    go_ret
    exact ⟨rfl, HX.out.below⟩
  have q1 : decide (25 < l2.length) = false := decide_eq_false h25
  have q2 : decide (25 < (l2.length : Int)) = false := decide_eq_false (by omega)
  have HL := Lib.hid (show _ ∧ _ ∧ l2.length ≤ 25 from ⟨long_len hl0, long_len hl1, by omega⟩)
  obtain ⟨i5, hi5, hz5⟩ : ∃ i, Tryz.prog.info? 50 = some i ∧ i.size = 5 := by
    have : (Tryz.prog.info? 50).map (fun i => i.size) = some 5 := by kernel_rfl
    cases hh : Tryz.prog.info? 50 with
    | none => rw [hh] at this; cases this
    | some i => rw [hh] at this; exact ⟨i, rfl, by simpa using this⟩
  have H5 := Lib.hid (show _ ∧ _ from ⟨hi5, hz5⟩)
  clear hi5 hz5
  go_enter Tryz.func7, Tryz.ntmps7
  go_wp2_with fail
  refine (awake_any hd).mono ?_
  rintro e w ⟨rfl, hu⟩
  have HX := Lib.hid (((Sep.start W).keep hu).poolNew.poolOld HR.out.2.2 |>.poolOld HR.out.2.1 |>.poolOld HR.out.1)
  clear hu
  go_wp2_with (first | go_skip | refine uK ?_ | refine uL ?_ | refine uM ?_ | (refine uS ?_; clear HX; intro w HX) | (refine uA ?_; clear HX; (first | (have hq := b8; clear hq; intro w b9 HX) | (have hq := b7; clear hq; intro w b8 HX) | (have hq := b6; clear hq; intro w b7 HX) | (have hq := b5; clear hq; intro w b6 HX) | (have hq := b4; clear hq; intro w b5 HX) | (have hq := b3; clear hq; intro w b4 HX) | (have hq := b2; clear hq; intro w b3 HX) | (have hq := b; clear hq; intro w b2 HX) | intro w b HX)) | (refine tWN ?_; clear HX; intro w mm HX; simp only [Act.put, k_a, k_b, k_c]) | (refine tWP ?_; clear HX; intro w av nv cv HX; simp only [Act.put, k_a, k_b, k_c]))
  have hlong := long_any HX.out l0 _ k_s
  rw [hl0] at hlong
  refine hlong.mono ?_
  clear hlong
  rintro e w ⟨rfl, hx⟩
  clear HX
  have HX := Lib.hid hx
  clear hx
  go_wp2_with (first | go_skip | refine uK ?_ | refine uL ?_ | refine uM ?_ | (refine uS ?_; clear HX; intro w HX) | (refine uA ?_; clear HX; (first | (have hq := b8; clear hq; intro w b9 HX) | (have hq := b7; clear hq; intro w b8 HX) | (have hq := b6; clear hq; intro w b7 HX) | (have hq := b5; clear hq; intro w b6 HX) | (have hq := b4; clear hq; intro w b5 HX) | (have hq := b3; clear hq; intro w b4 HX) | (have hq := b2; clear hq; intro w b3 HX) | (have hq := b; clear hq; intro w b2 HX) | intro w b HX)) | (refine tWN ?_; clear HX; intro w mm HX; simp only [Act.put, k_a, k_b, k_c]) | (refine tWP ?_; clear HX; intro w av nv cv HX; simp only [Act.put, k_a, k_b, k_c]))
  have hlong := long_any HX.out l1 _ (k_n _ k_s)
  rw [hl1] at hlong
  refine hlong.mono ?_
  clear hlong
  rintro e w ⟨rfl, hx⟩
  clear HX
  have HX := Lib.hid hx
  clear hx
  go_wp2_with (first | go_skip | refine uK ?_ | refine uL ?_ | refine uM ?_ | (refine uS ?_; clear HX; intro w HX) | (refine uA ?_; clear HX; (first | (have hq := b8; clear hq; intro w b9 HX) | (have hq := b7; clear hq; intro w b8 HX) | (have hq := b6; clear hq; intro w b7 HX) | (have hq := b5; clear hq; intro w b6 HX) | (have hq := b4; clear hq; intro w b5 HX) | (have hq := b3; clear hq; intro w b4 HX) | (have hq := b2; clear hq; intro w b3 HX) | (have hq := b; clear hq; intro w b2 HX) | intro w b HX)) | (refine tWN ?_; clear HX; intro w mm HX; simp only [Act.put, k_a, k_b, k_c]) | (refine tWP ?_; clear HX; intro w av nv cv HX; simp only [Act.put, k_a, k_b, k_c]))
  clear h25 q1 q2 hl0 hl1
  refine (partnew_any HX.out 30 (by omega) (by omega)).mono ?_
  rintro e w1 ⟨b, rfl, hx⟩
  clear HX
  have HX := Lib.hid hx
  clear hx
  go_wp2_with (first | go_skip | refine uK ?_ | refine uL ?_ | refine uM ?_ | (refine uS ?_; clear HX; intro w HX) | (refine uA ?_; clear HX; (first | (have hq := b8; clear hq; intro w b9 HX) | (have hq := b7; clear hq; intro w b8 HX) | (have hq := b6; clear hq; intro w b7 HX) | (have hq := b5; clear hq; intro w b6 HX) | (have hq := b4; clear hq; intro w b5 HX) | (have hq := b3; clear hq; intro w b4 HX) | (have hq := b2; clear hq; intro w b3 HX) | (have hq := b; clear hq; intro w b2 HX) | intro w b HX)) | (refine tWN ?_; clear HX; intro w mm HX; simp only [Act.put, k_a, k_b, k_c]) | (refine tWP ?_; clear HX; intro w av nv cv HX; simp only [Act.put, k_a, k_b, k_c]))
  obtain ⟨rs, hrs⟩ : ∃ rs : List PRow, [(5, .slice a0 l0.length cap0, l0.flatMap OpS.cells), (5, .slice a1 l1.length cap1, l1.flatMap OpS.cells), (5, .slice a2 l2.length cap2, l2.flatMap PAct.cells)] = rs := ⟨_, rfl⟩
  have HRS := Lib.hid (show (5, Value.slice a0 l0.length cap0, l0.flatMap OpS.cells) ∈ rs ∧ (5, Value.slice a1 l1.length cap1, l1.flatMap OpS.cells) ∈ rs ∧ (5, Value.slice a2 l2.length cap2, l2.flatMap PAct.cells) ∈ rs by rw [← hrs]; simp)
  have HST := Lib.hid (show FaRel W l0.length rs b l0.length (.int .i64 (0 : Int)) _ from ⟨0, newP 30, _, by simp, rfl, fun r hr => by rw [← hrs] at hr; exact hr, newP_c 30 (by omega), (fun e he => by cases he), rfl, rfl, rfl, HX.out⟩)
  clear HX hrs
  go_loopg [11] l0.length (fun k v wr => FaRel W l0.length rs b k v wr)
  case atStart => exact HST.out
  case round =>
    rename World => w
    obtain ⟨i, S, P1, hik, rfl, hP1, hC, hI, hw, hH, hroom, hS⟩ := hrel
    have HX := Lib.hid hS
    have HP := Lib.hid hP1
    have HC := Lib.hid (show _ ∧ _ ∧ _ ∧ _ ∧ _ from ⟨hC, hI, hw, hH, hroom⟩)
    clear hS hP1 HST hC hI hw hH hroom
    by_cases hlt : i < l0.length
    case neg =>
      obtain rfl : i = l0.length := by omega
      clear hlt hik
      go_wp2_with (first | go_skip | refine uK ?_ | refine uL ?_ | refine uM ?_ | (refine uS ?_; clear HX; intro w HX) | (refine uA ?_; clear HX; (first | (have hq := b8; clear hq; intro w b9 HX) | (have hq := b7; clear hq; intro w b8 HX) | (have hq := b6; clear hq; intro w b7 HX) | (have hq := b5; clear hq; intro w b6 HX) | (have hq := b4; clear hq; intro w b5 HX) | (have hq := b3; clear hq; intro w b4 HX) | (have hq := b2; clear hq; intro w b3 HX) | (have hq := b; clear hq; intro w b2 HX) | intro w b HX)) | (refine tWN ?_; clear HX; intro w mm HX; simp only [Act.put, k_a, k_b, k_c]) | (refine tWP ?_; clear HX; intro w av nv cv HX; simp only [Act.put, k_a, k_b, k_c]))
      obtain ⟨⟨⟨pe, pa⟩, S2⟩, hprp⟩ : ∃ m, prepS S 7 1 l1 = m := ⟨_, rfl⟩
      have hm := prep_any HX.out hd HC.out.1.b (by have := HL.out.1.1; omega) 7 1 l1 _ (HP.out _ HRS.out.2.1) (fun o ho => by have := HL.out.2.1.2 o ho; omega)
      rw [hprp] at hm
      refine hm.mono ?_
      clear hm
      rintro e w ⟨P3, rfl, hP3, hx⟩
      clear HX
      have HX := Lib.hid hx
      clear hx
      have HP3 := Lib.hid (show ∀ r ∈ rs, r ∈ P3 from fun r hr => hP3 _ (HP.out _ hr))
      clear hP3
      dsimp only at HX ⊢
      by_cases hpe : pe = 0
      case neg =>
        have q3 : (pe != 0) = true := by rw [bne_iff_ne]; exact hpe
        clear hpe
        go_wp2_with (first | go_skip | refine uK ?_ | refine uL ?_ | refine uM ?_ | (refine uS ?_; clear HX; intro w HX) | (refine uA ?_; clear HX; (first | (have hq := b8; clear hq; intro w b9 HX) | (have hq := b7; clear hq; intro w b8 HX) | (have hq := b6; clear hq; intro w b7 HX) | (have hq := b5; clear hq; intro w b6 HX) | (have hq := b4; clear hq; intro w b5 HX) | (have hq := b3; clear hq; intro w b4 HX) | (have hq := b2; clear hq; intro w b3 HX) | (have hq := b; clear hq; intro w b2 HX) | intro w b HX)) | (refine tWN ?_; clear HX; intro w mm HX; simp only [Act.put, k_a, k_b, k_c]) | (refine tWP ?_; clear HX; intro w av nv cv HX; simp only [Act.put, k_a, k_b, k_c]))
        go_ret
        exact ⟨rfl, HX.out.below⟩
      case pos =>
        subst hpe
        have hfb := fore_begin HC.out.1.b HC.out.2.2.1 HC.out.2.2.2.1 (by rw [hprp])
        rw [hprp] at hfb
        have h2 := prep_c HC.out.1 7 1 l1
        have h3 := prep_i HC.out.2.1 (id := 7) (by omega) 1 l1
        rw [hprp] at h2 h3
        have htr := HC.out.1.b.tree
        have hrm := HC.out.2.2.2.2
        obtain ⟨X, hX⟩ : ∃ X, S.t = X := ⟨_, rfl⟩
        obtain ⟨z, hz⟩ : ∃ z, S.zxid = z := ⟨_, rfl⟩
        rw [hX] at hfb htr hrm
        rw [hz] at hfb
        have HFB := Lib.hid (show _ ∧ _ ∧ _ from ⟨hfb.2, htr, hrm⟩)
        have HST := Lib.hid (show FlRel W l2 l1 X rs b l2.length (.int .i64 (0 : Int)) _ from ⟨0, S2, P3, by simp, rfl, HP3.out, h2.mono (by have := HL.out.1.1; omega), h3, hfb.1, HX.out⟩)
        clear HX hfb h2 h3 htr hrm hX hz hprp HP HP3 HC
        go_wp2_with (first | go_skip | refine uK ?_ | refine uL ?_ | refine uM ?_ | (refine uS ?_; clear HX; intro w HX) | (refine uA ?_; clear HX; (first | (have hq := b8; clear hq; intro w b9 HX) | (have hq := b7; clear hq; intro w b8 HX) | (have hq := b6; clear hq; intro w b7 HX) | (have hq := b5; clear hq; intro w b6 HX) | (have hq := b4; clear hq; intro w b5 HX) | (have hq := b3; clear hq; intro w b4 HX) | (have hq := b2; clear hq; intro w b3 HX) | (have hq := b; clear hq; intro w b2 HX) | intro w b HX)) | (refine tWN ?_; clear HX; intro w mm HX; simp only [Act.put, k_a, k_b, k_c]) | (refine tWP ?_; clear HX; intro w av nv cv HX; simp only [Act.put, k_a, k_b, k_c]))
        go_loopg [14] l2.length (fun k v wr => FlRel W l2 l1 X rs b k v wr)
        case atStart => exact HST.out
        case round =>
          rename World => w
          obtain ⟨i, S, P1, hik, rfl, hP1, hC, hI, hF, hS⟩ := hrel
          have HX := Lib.hid hS
          have HP := Lib.hid hP1
          clear hS hP1 HST
          by_cases hlt : i < l2.length
          case neg =>
            obtain rfl : i = l2.length := by omega
            have HC := Lib.hid (show _ ∧ _ ∧ _ from ⟨hC.mono (K' := 80) (by have := HL.out.2.2; omega), hI, hF⟩)
            clear hlt hik hC hI hF
            go_wp2_with (first | go_skip | refine uK ?_ | refine uL ?_ | refine uM ?_ | (refine uS ?_; clear HX; intro w HX) | (refine uA ?_; clear HX; (first | (have hq := b8; clear hq; intro w b9 HX) | (have hq := b7; clear hq; intro w b8 HX) | (have hq := b6; clear hq; intro w b7 HX) | (have hq := b5; clear hq; intro w b6 HX) | (have hq := b4; clear hq; intro w b5 HX) | (have hq := b3; clear hq; intro w b4 HX) | (have hq := b2; clear hq; intro w b3 HX) | (have hq := b; clear hq; intro w b2 HX) | intro w b HX)) | (refine tWN ?_; clear HX; intro w mm HX; simp only [Act.put, k_a, k_b, k_c]) | (refine tWP ?_; clear HX; intro w av nv cv HX; simp only [Act.put, k_a, k_b, k_c]))
            refine (ptree_any HX.out (HC.out.1.b.tree.ok (by omega))).mono ?_
            rintro e w ⟨c, P4, rfl, hP4, hx⟩
            clear HX
            have HX := Lib.hid hx
            clear hx
            go_wp2_with (first | go_skip | refine uK ?_ | refine uL ?_ | refine uM ?_ | (refine uS ?_; clear HX; intro w HX) | (refine uA ?_; clear HX; (first | (have hq := b8; clear hq; intro w b9 HX) | (have hq := b7; clear hq; intro w b8 HX) | (have hq := b6; clear hq; intro w b7 HX) | (have hq := b5; clear hq; intro w b6 HX) | (have hq := b4; clear hq; intro w b5 HX) | (have hq := b3; clear hq; intro w b4 HX) | (have hq := b2; clear hq; intro w b3 HX) | (have hq := b; clear hq; intro w b2 HX) | intro w b HX)) | (refine tWN ?_; clear HX; intro w mm HX; simp only [Act.put, k_a, k_b, k_c]) | (refine tWP ?_; clear HX; intro w av nv cv HX; simp only [Act.put, k_a, k_b, k_c]))
            refine (ownt_any HX.out 30 (by rw [HC.out.2.2.room]; exact HFB.out.2.2.symm) (HC.out.1.b.tree.ok (by omega)) (by have := HC.out.1.b.tree.many; omega) (fun e he => by have := HC.out.1.b.tree.keys e he; omega)).mono ?_
            rintro e w ⟨bo, P5, rfl, hP5, hx⟩
            have hx := (pt_mono (P' := P5) hx.up3 hP5).up1
            clear HX
            have HX := Lib.hid hx
            clear hx
            clear hP4 hP5 HP
            cases commit with
            | false =>
              obtain ⟨hn1, hn2⟩ := HC.out.2.2.not
              obtain ⟨⟨⟨drs, de⟩, S3⟩, hdec⟩ : ∃ m, decideS S 7 false = m := ⟨_, rfl⟩
              have hc3 := decide_c HC.out.1 7 false
              rw [hdec] at hn1 hn2 hc3
              cases hn1
              have hm := decide_any HX.out hd HC.out.1.b (by have := HC.out.1.len; omega) (by omega) 7 false
              rw [hdec] at hm
              have HC3 := Lib.hid (show _ ∧ S3.t = S.t from ⟨hc3, hn2⟩)
              have HM := Lib.hid hm
              clear hm hc3 hn2 hdec
              go_wp2_with (first | go_skip | refine uK ?_ | refine uL ?_ | refine uM ?_ | (refine uS ?_; clear HX; intro w HX) | (refine uA ?_; clear HX; (first | (have hq := b8; clear hq; intro w b9 HX) | (have hq := b7; clear hq; intro w b8 HX) | (have hq := b6; clear hq; intro w b7 HX) | (have hq := b5; clear hq; intro w b6 HX) | (have hq := b4; clear hq; intro w b5 HX) | (have hq := b3; clear hq; intro w b4 HX) | (have hq := b2; clear hq; intro w b3 HX) | (have hq := b; clear hq; intro w b2 HX) | intro w b HX)) | (refine tWN ?_; clear HX; intro w mm HX; simp only [Act.put, k_a, k_b, k_c]) | (refine tWP ?_; clear HX; intro w av nv cv HX; simp only [Act.put, k_a, k_b, k_c]))
              refine HM.out.mono ?_
              clear HM
              rintro e w ⟨P6, a6, n6, c6, xs6, rfl, hP6, hr6, hm6, hx⟩
              obtain rfl : n6 = 0 := rep_len hx hr6 hm6
              have hx := (rt_mono (P' := P6) hx.up3 hP6).up1.up2.up1
              clear HX
              have HX := Lib.hid hx
              clear hx
              clear hP6 hr6 hm6
              dsimp only at HX ⊢
              go_wp2_with (first | go_skip | refine uK ?_ | refine uL ?_ | refine uM ?_ | (refine uS ?_; clear HX; intro w HX) | (refine uA ?_; clear HX; (first | (have hq := b8; clear hq; intro w b9 HX) | (have hq := b7; clear hq; intro w b8 HX) | (have hq := b6; clear hq; intro w b7 HX) | (have hq := b5; clear hq; intro w b6 HX) | (have hq := b4; clear hq; intro w b5 HX) | (have hq := b3; clear hq; intro w b4 HX) | (have hq := b2; clear hq; intro w b3 HX) | (have hq := b; clear hq; intro w b2 HX) | intro w b HX)) | (refine tWN ?_; clear HX; intro w mm HX; simp only [Act.put, k_a, k_b, k_c]) | (refine tWP ?_; clear HX; intro w av nv cv HX; simp only [Act.put, k_a, k_b, k_c]))
              refine (ptree_any HX.out (HC3.out.1.b.tree.ok (by omega))).mono ?_
              rintro e w ⟨c7, P7, rfl, hP7, hx⟩
              clear HX
              have HX := Lib.hid hx
              clear hx
              have HP7 := Lib.hid hP7
              clear hP7
              go_wp2_with (first | go_skip | refine uK ?_ | refine uL ?_ | refine uM ?_ | (refine uS ?_; clear HX; intro w HX) | (refine uA ?_; clear HX; (first | (have hq := b8; clear hq; intro w b9 HX) | (have hq := b7; clear hq; intro w b8 HX) | (have hq := b6; clear hq; intro w b7 HX) | (have hq := b5; clear hq; intro w b6 HX) | (have hq := b4; clear hq; intro w b5 HX) | (have hq := b3; clear hq; intro w b4 HX) | (have hq := b2; clear hq; intro w b3 HX) | (have hq := b; clear hq; intro w b2 HX) | intro w b HX)) | (refine tWN ?_; clear HX; intro w mm HX; simp only [Act.put, k_a, k_b, k_c]) | (refine tWP ?_; clear HX; intro w av nv cv HX; simp only [Act.put, k_a, k_b, k_c]))
              refine (ownt_any HX.out 30 (by rw [HC3.out.2, HC.out.2.2.room]; exact HFB.out.2.2.symm) (HC3.out.1.b.tree.ok (by omega)) (by have := HC3.out.1.b.tree.many; omega) (fun e he => by have := HC3.out.1.b.tree.keys e he; omega)).mono ?_
              rw [HC3.out.2]
              rintro e w ⟨b8, P8, rfl, hP8, hx⟩
              have hx := (rt_mono (P' := P8) hx.up4 (fun q hq => hP8 q (HP7.out q hq))).up3.up2
              clear HX
              have HX := Lib.hid hx
              clear hx
              clear hP8
              go_wp2_with (first | go_skip | refine uK ?_ | refine uL ?_ | refine uM ?_ | (refine uS ?_; clear HX; intro w HX) | (refine uA ?_; clear HX; (first | (have hq := b8; clear hq; intro w b9 HX) | (have hq := b7; clear hq; intro w b8 HX) | (have hq := b6; clear hq; intro w b7 HX) | (have hq := b5; clear hq; intro w b6 HX) | (have hq := b4; clear hq; intro w b5 HX) | (have hq := b3; clear hq; intro w b4 HX) | (have hq := b2; clear hq; intro w b3 HX) | (have hq := b; clear hq; intro w b2 HX) | intro w b HX)) | (refine tWN ?_; clear HX; intro w mm HX; simp only [Act.put, k_a, k_b, k_c]) | (refine tWP ?_; clear HX; intro w av nv cv HX; simp only [Act.put, k_a, k_b, k_c]))
              refine (samet_any HX.out (by have := HC.out.1.b.tree.many; omega)).mono ?_
              rintro e w ⟨rfl, hx⟩
              clear HX
              have HX := Lib.hid hx
              clear hx
              go_wp2_with (first | go_skip | refine uK ?_ | refine uL ?_ | refine uM ?_ | (refine uS ?_; clear HX; intro w HX) | (refine uA ?_; clear HX; (first | (have hq := b8; clear hq; intro w b9 HX) | (have hq := b7; clear hq; intro w b8 HX) | (have hq := b6; clear hq; intro w b7 HX) | (have hq := b5; clear hq; intro w b6 HX) | (have hq := b4; clear hq; intro w b5 HX) | (have hq := b3; clear hq; intro w b4 HX) | (have hq := b2; clear hq; intro w b3 HX) | (have hq := b; clear hq; intro w b2 HX) | intro w b HX)) | (refine tWN ?_; clear HX; intro w mm HX; simp only [Act.put, k_a, k_b, k_c]) | (refine tWP ?_; clear HX; intro w av nv cv HX; simp only [Act.put, k_a, k_b, k_c]))
              go_ret
              exact ⟨rfl, HX.out.below⟩
            | true =>
              obtain ⟨hn1, hn2, hn3⟩ := HC.out.2.2.done (z := z) HFB.out.2.1 HC.out.1.b HC.out.1.b.zx.1 HFB.out.1.1 HFB.out.1.2.1 HFB.out.1.2.2.1 HFB.out.1.2.2.2
              obtain ⟨⟨⟨drs, de⟩, S3⟩, hdec⟩ : ∃ m, decideS S 7 true = m := ⟨_, rfl⟩
              rw [hdec] at hn1 hn2 hn3
              dsimp only at hn1 hn2 hn3
              subst hn1
              have hm := decide_any HX.out hd HC.out.1.b (by have := HC.out.1.len; omega) (by omega) 7 true
              rw [hdec] at hm
              have HC3 := Lib.hid (show _ ∧ _ from ⟨hn2, hn3⟩)
              have HM := Lib.hid hm
              clear hm hn2 hn3 hdec
              go_wp2_with (first | go_skip | refine uK ?_ | refine uL ?_ | refine uM ?_ | (refine uS ?_; clear HX; intro w HX) | (refine uA ?_; clear HX; (first | (have hq := b8; clear hq; intro w b9 HX) | (have hq := b7; clear hq; intro w b8 HX) | (have hq := b6; clear hq; intro w b7 HX) | (have hq := b5; clear hq; intro w b6 HX) | (have hq := b4; clear hq; intro w b5 HX) | (have hq := b3; clear hq; intro w b4 HX) | (have hq := b2; clear hq; intro w b3 HX) | (have hq := b; clear hq; intro w b2 HX) | intro w b HX)) | (refine tWN ?_; clear HX; intro w mm HX; simp only [Act.put, k_a, k_b, k_c]) | (refine tWP ?_; clear HX; intro w av nv cv HX; simp only [Act.put, k_a, k_b, k_c]))
              refine HM.out.mono ?_
              clear HM
              rintro e w ⟨P6, a6, n6, c6, xs6, rfl, hP6, hr6, hm6, hx⟩
              obtain rfl : n6 = l1.length := (rep_len hx hr6 hm6).trans HC3.out.1
              clear HX
              have HX := Lib.hid hx
              clear hx
              have HM6 := Lib.hid (show _ ∧ _ from ⟨hr6, hm6⟩)
              clear hP6 hr6 hm6
              dsimp only at HX ⊢
              have q3 : ((l1.length : Int) != (l1.length : Int)) = false := by simp
              have q4 : (l1.length != l1.length) = false := by simp
              go_wp2_with (first | go_skip | refine uK ?_ | refine uL ?_ | refine uM ?_ | (refine uS ?_; clear HX; intro w HX) | (refine uA ?_; clear HX; (first | (have hq := b8; clear hq; intro w b9 HX) | (have hq := b7; clear hq; intro w b8 HX) | (have hq := b6; clear hq; intro w b7 HX) | (have hq := b5; clear hq; intro w b6 HX) | (have hq := b4; clear hq; intro w b5 HX) | (have hq := b3; clear hq; intro w b4 HX) | (have hq := b2; clear hq; intro w b3 HX) | (have hq := b; clear hq; intro w b2 HX) | intro w b HX)) | (refine tWN ?_; clear HX; intro w mm HX; simp only [Act.put, k_a, k_b, k_c]) | (refine tWP ?_; clear HX; intro w av nv cv HX; simp only [Act.put, k_a, k_b, k_c]))
              have HST := Lib.hid (show FrRel W l1.length [ThPool W P6, ThPart b S3 P6] l1.length (.int .i64 (0 : Int)) w from ⟨0, by simp, rfl, sep_two HX.out⟩)
              clear HX q3 q4
              go_loopg [19] l1.length (fun k v wr => FrRel W l1.length [ThPool W P6, ThPart b S3 P6] k v wr)
              case atStart => exact HST.out
              case round =>
                rename World => w
                obtain ⟨i, hik, rfl, hS⟩ := hrel
                have HX := Lib.hid hS
                clear hS HST
                by_cases hlt : i < l1.length
                case neg =>
                  obtain rfl : i = l1.length := by omega
                  clear hlt hik
                  go_wp2_with (first | go_skip | refine uK ?_ | refine uL ?_ | refine uM ?_ | (refine uS ?_; clear HX; intro w HX) | (refine uA ?_; clear HX; (first | (have hq := b8; clear hq; intro w b9 HX) | (have hq := b7; clear hq; intro w b8 HX) | (have hq := b6; clear hq; intro w b7 HX) | (have hq := b5; clear hq; intro w b6 HX) | (have hq := b4; clear hq; intro w b5 HX) | (have hq := b3; clear hq; intro w b4 HX) | (have hq := b2; clear hq; intro w b3 HX) | (have hq := b; clear hq; intro w b2 HX) | intro w b HX)) | (refine tWN ?_; clear HX; intro w mm HX; simp only [Act.put, k_a, k_b, k_c]) | (refine tWP ?_; clear HX; intro w av nv cv HX; simp only [Act.put, k_a, k_b, k_c]))
                  go_ret
                  exact ⟨rfl, HX.out.below⟩
                case pos =>
                  have hld : i < drs.length := by rw [HC3.out.1]; exact hlt
                  obtain ⟨nv, -, hcl⟩ := ResL.at HM6.out.1 hld
                  obtain ⟨he0, hp0⟩ := HC3.out.2 _ (List.getElem_mem hld)
                  have hx0 : xs6[i * 11]? = some (.int .i64 0) := by
                    have := hcl 0 (.int .i64 drs[i].err) rfl
                    rw [he0] at this
                    exact this
                  have hx1 : xs6[i * 11 + 1]? = some (.string drs[i].path) := hcl 1 _ rfl
                  obtain ⟨pp, hpp⟩ : ∃ pp, drs[i].path = pp := ⟨_, rfl⟩
                  rw [hpp] at hx1 hp0
                  have q3 : (pp.toList == (⟨#[]⟩ : ByteArray).toList) = false := by
                    rw [strK_eq, beq_eq_false_iff_ne]
                    exact hp0
                  have q4 : (pp.toList == ([] : List UInt8)) = false := by
                    rw [Lib.toList_data, beq_eq_false_iff_ne]
                    exact hp0
                  obtain ⟨E, hE⟩ := HX.out.poolGet HM6.out.2
                  obtain ⟨_, _, _, e, _, _, _, hne⟩ := ReadRow.some hE
                  simp only [Value.slice.injEq] at e
                  obtain ⟨rfl, rfl, rfl⟩ := e
                  obtain ⟨g, off, rfl⟩ := hne (by intro e; have e : xs6 = [] := e; rw [e] at hx0; simp at hx0)
                  have hl := row_fld0 (P := Tryz.prog) (ty := 25) hE (by kernel_rfl) hx0
                  have hl2 := row_fld (P := Tryz.prog) (ty := 9) hE (by kernel_rfl) hx1
                  have q0 : decide (i < l1.length) = true := decide_eq_true hlt
                  have q9 : i ≤ 20 := by have := HL.out.2.1.1; omega
                  clear hE hne hx0 hx1 hp0 hpp he0 hcl hld
                  go_wp2_with (first | go_skip | refine uK ?_ | refine uL ?_ | refine uM ?_ | (refine uS ?_; clear HX; intro w HX) | (refine uA ?_; clear HX; (first | (have hq := b8; clear hq; intro w b9 HX) | (have hq := b7; clear hq; intro w b8 HX) | (have hq := b6; clear hq; intro w b7 HX) | (have hq := b5; clear hq; intro w b6 HX) | (have hq := b4; clear hq; intro w b5 HX) | (have hq := b3; clear hq; intro w b4 HX) | (have hq := b2; clear hq; intro w b3 HX) | (have hq := b; clear hq; intro w b2 HX) | intro w b HX)) | (refine tWN ?_; clear HX; intro w mm HX; simp only [Act.put, k_a, k_b, k_c]) | (refine tWP ?_; clear HX; intro w av nv cv HX; simp only [Act.put, k_a, k_b, k_c]) | ((with_reducible apply sx_loadAt hl); (· rfl); (· rfl); simp only [Act.put, k_a, k_b, k_c]) | ((with_reducible apply sx_loadAt hl2); (· rfl); (· rfl); simp only [Act.put, k_a, k_b, k_c]))
                  go_roundg (l1.length - (i + 1))
                  case rel => exact ⟨i + 1, by omega, by go_num, HX.out⟩
                  case measure => omega
          case pos =>
            have hpr := HO.out l2[i] (List.getElem_mem hlt)
            obtain ⟨E, hE⟩ := HX.out.poolGet (HP.out _ HRS.out.2.2)
            obtain ⟨_, _, _, e, _, _, _, hne⟩ := ReadRow.some hE
            simp only [Value.slice.injEq] at e
            obtain ⟨rfl, rfl, rfl⟩ := e
            obtain ⟨g, off, rfl⟩ := hne (by intro e; have := congrArg List.length e; rw [flatG_len pact_len] at this; simp at this; omega)
            have hl := row_load (P := Tryz.prog) (f := PAct.cells) (i := i) hE pact_len sn_x3 hlt
            obtain ⟨a, ha⟩ : ∃ a, l2[i] = a := ⟨_, rfl⟩
            rw [ha] at hpr hl
            obtain ⟨hid, E2, hE2⟩ := hpr
            have hx := pt_old HX.out hE2
            obtain ⟨op, id, sess, av, yes, ops⟩ := a
            dsimp only at hx hE2 hid
            obtain ⟨oa, on, oc, rfl, -⟩ := _root_.id hE2
            simp only [PAct.cells] at hl
            clear HX
            have HX := Lib.hid hx
            clear hx
            have HC := Lib.hid (show _ ∧ _ ∧ _ ∧ _ from ⟨hC, hI, hF, hid⟩)
            have q0 : decide (i < l2.length) = true := decide_eq_true hlt
            have q9 : i ≤ 25 := by have := HL.out.2.2; omega
            clear hE hC hI hF ha hne hE2 hid
            go_wp2_with (first | go_skip | refine uK ?_ | refine uL ?_ | refine uM ?_ | (refine uS ?_; clear HX; intro w HX) | (refine uA ?_; clear HX; (first | (have hq := b8; clear hq; intro w b9 HX) | (have hq := b7; clear hq; intro w b8 HX) | (have hq := b6; clear hq; intro w b7 HX) | (have hq := b5; clear hq; intro w b6 HX) | (have hq := b4; clear hq; intro w b5 HX) | (have hq := b3; clear hq; intro w b4 HX) | (have hq := b2; clear hq; intro w b3 HX) | (have hq := b; clear hq; intro w b2 HX) | intro w b HX)) | (refine tWN ?_; clear HX; intro w mm HX; simp only [Act.put, k_a, k_b, k_c]) | (refine tWP ?_; clear HX; intro w av nv cv HX; simp only [Act.put, k_a, k_b, k_c]) | ((with_reducible apply sx_loadAt hl); (· rfl); (· rfl); simp only [Act.put, k_a, k_b, k_c]))
            obtain ⟨bl, hbl⟩ : ∃ bl, longS ops = bl := ⟨_, rfl⟩
            have hlong := long_any HX.out.up1 ops _ k_s
            rw [hbl] at hlong
            refine hlong.mono ?_
            clear hlong hl
            rintro e w ⟨rfl, hx⟩
            have hx := hx.up2.up1
            clear HX
            have HX := Lib.hid hx
            clear hx
            cases bl with
            | true =>
              go_wp2_with (first | go_skip | refine uK ?_ | refine uL ?_ | refine uM ?_ | (refine uS ?_; clear HX; intro w HX) | (refine uA ?_; clear HX; (first | (have hq := b8; clear hq; intro w b9 HX) | (have hq := b7; clear hq; intro w b8 HX) | (have hq := b6; clear hq; intro w b7 HX) | (have hq := b5; clear hq; intro w b6 HX) | (have hq := b4; clear hq; intro w b5 HX) | (have hq := b3; clear hq; intro w b4 HX) | (have hq := b2; clear hq; intro w b3 HX) | (have hq := b; clear hq; intro w b2 HX) | intro w b HX)) | (refine tWN ?_; clear HX; intro w mm HX; simp only [Act.put, k_a, k_b, k_c]) | (refine tWP ?_; clear HX; intro w av nv cv HX; simp only [Act.put, k_a, k_b, k_c]))
              go_ret
              exact ⟨rfl, HX.out.below⟩
            | false =>
              have HLO := Lib.hid (long_len hbl)
              clear hbl
              by_cases h7 : id = 7
              · subst h7
                go_wp2_with (first | go_skip | refine uK ?_ | refine uL ?_ | refine uM ?_ | (refine uS ?_; clear HX; intro w HX) | (refine uA ?_; clear HX; (first | (have hq := b8; clear hq; intro w b9 HX) | (have hq := b7; clear hq; intro w b8 HX) | (have hq := b6; clear hq; intro w b7 HX) | (have hq := b5; clear hq; intro w b6 HX) | (have hq := b4; clear hq; intro w b5 HX) | (have hq := b3; clear hq; intro w b4 HX) | (have hq := b2; clear hq; intro w b3 HX) | (have hq := b; clear hq; intro w b2 HX) | intro w b HX)) | (refine tWN ?_; clear HX; intro w mm HX; simp only [Act.put, k_a, k_b, k_c]) | (refine tWP ?_; clear HX; intro w av nv cv HX; simp only [Act.put, k_a, k_b, k_c]))
                go_roundg (l2.length - (i + 1))
                case rel => exact ⟨i + 1, S, _, by omega, by go_num, fun r hr => k_n _ (HP.out r hr), HC.out.1.mono (by omega), HC.out.2.1, HC.out.2.2.1, sep_two HX.out⟩
                case measure => omega
              have q7 : (id == 7) = false := by rw [beq_eq_false_iff_ne]; exact h7
              by_cases ho0 : op = 0
              · subst ho0
                obtain ⟨⟨⟨rn, rz, re, ra, rrs⟩, S2⟩, hloc⟩ : ∃ m, localS S sess id ops = m := ⟨_, rfl⟩
                have h2 := local_c HC.out.1 sess id ops
                have h3 := local_i HC.out.2.1 sess id ops
                have h4 := HC.out.2.2.1.local HC.out.1.b sess id ops
                rw [hloc] at h2 h3 h4
                have HCI := Lib.hid (show _ ∧ _ ∧ _ from ⟨h2, h3, h4⟩)
                clear h2 h3 h4 h7
                go_wp2_with (first | go_skip | refine uK ?_ | refine uL ?_ | refine uM ?_ | (refine uS ?_; clear HX; intro w HX) | (refine uA ?_; clear HX; (first | (have hq := b8; clear hq; intro w b9 HX) | (have hq := b7; clear hq; intro w b8 HX) | (have hq := b6; clear hq; intro w b7 HX) | (have hq := b5; clear hq; intro w b6 HX) | (have hq := b4; clear hq; intro w b5 HX) | (have hq := b3; clear hq; intro w b4 HX) | (have hq := b2; clear hq; intro w b3 HX) | (have hq := b; clear hq; intro w b2 HX) | intro w b HX)) | (refine tWN ?_; clear HX; intro w mm HX; simp only [Act.put, k_a, k_b, k_c]) | (refine tWP ?_; clear HX; intro w av nv cv HX; simp only [Act.put, k_a, k_b, k_c]))
                have hm := local_any HX.out hd HC.out.1.b (by omega) sess id ops _ k_s (fun o ho => by have := HLO.out.2 o ho; omega)
                rw [hloc] at hm
                refine hm.mono ?_
                clear hm
                rintro e w ⟨_, P3, rfl, hP3, ⟨a3, n3, c3, xs3, rfl, -⟩, hx⟩
                clear HX
                have HX := Lib.hid hx
                clear hx
                have HP3 := Lib.hid (show ∀ r ∈ rs, r ∈ P3 from fun r hr => hP3 r (k_n _ (HP.out r hr)))
                clear hP3
                dsimp only at HX ⊢
                go_wp2_with (first | go_skip | refine uK ?_ | refine uL ?_ | refine uM ?_ | (refine uS ?_; clear HX; intro w HX) | (refine uA ?_; clear HX; (first | (have hq := b8; clear hq; intro w b9 HX) | (have hq := b7; clear hq; intro w b8 HX) | (have hq := b6; clear hq; intro w b7 HX) | (have hq := b5; clear hq; intro w b6 HX) | (have hq := b4; clear hq; intro w b5 HX) | (have hq := b3; clear hq; intro w b4 HX) | (have hq := b2; clear hq; intro w b3 HX) | (have hq := b; clear hq; intro w b2 HX) | intro w b HX)) | (refine tWN ?_; clear HX; intro w mm HX; simp only [Act.put, k_a, k_b, k_c]) | (refine tWP ?_; clear HX; intro w av nv cv HX; simp only [Act.put, k_a, k_b, k_c]))
                go_roundg (l2.length - (i + 1))
                case rel => exact ⟨i + 1, S2, P3, by omega, by go_num, HP3.out, HCI.out.1, HCI.out.2.1, HCI.out.2.2, sep_two HX.out⟩
                case measure => omega
              by_cases ho1 : op = 1
              · subst ho1
                obtain ⟨⟨⟨pe, pa⟩, S2⟩, hprp⟩ : ∃ m, prepS S id sess ops = m := ⟨_, rfl⟩
                have h2 := prep_c HC.out.1 id sess ops
                have h3 := prep_i HC.out.2.1 HC.out.2.2.2 sess ops
                have h4 := HC.out.2.2.1.prep HC.out.1.b h7 sess ops
                rw [hprp] at h2 h3 h4
                have HCI := Lib.hid (show _ ∧ _ ∧ _ from ⟨h2, h3, h4⟩)
                clear h2 h3 h4 h7
                go_wp2_with (first | go_skip | refine uK ?_ | refine uL ?_ | refine uM ?_ | (refine uS ?_; clear HX; intro w HX) | (refine uA ?_; clear HX; (first | (have hq := b8; clear hq; intro w b9 HX) | (have hq := b7; clear hq; intro w b8 HX) | (have hq := b6; clear hq; intro w b7 HX) | (have hq := b5; clear hq; intro w b6 HX) | (have hq := b4; clear hq; intro w b5 HX) | (have hq := b3; clear hq; intro w b4 HX) | (have hq := b2; clear hq; intro w b3 HX) | (have hq := b; clear hq; intro w b2 HX) | intro w b HX)) | (refine tWN ?_; clear HX; intro w mm HX; simp only [Act.put, k_a, k_b, k_c]) | (refine tWP ?_; clear HX; intro w av nv cv HX; simp only [Act.put, k_a, k_b, k_c]))
                have hm := prep_any HX.out hd HC.out.1.b (by omega) id sess ops _ k_s (fun o ho => by have := HLO.out.2 o ho; omega)
                rw [hprp] at hm
                refine hm.mono ?_
                clear hm
                rintro e w ⟨P3, rfl, hP3, hx⟩
                clear HX
                have HX := Lib.hid hx
                clear hx
                have HP3 := Lib.hid (show ∀ r ∈ rs, r ∈ P3 from fun r hr => hP3 r (k_n _ (HP.out r hr)))
                clear hP3
                dsimp only at HX ⊢
                go_wp2_with (first | go_skip | refine uK ?_ | refine uL ?_ | refine uM ?_ | (refine uS ?_; clear HX; intro w HX) | (refine uA ?_; clear HX; (first | (have hq := b8; clear hq; intro w b9 HX) | (have hq := b7; clear hq; intro w b8 HX) | (have hq := b6; clear hq; intro w b7 HX) | (have hq := b5; clear hq; intro w b6 HX) | (have hq := b4; clear hq; intro w b5 HX) | (have hq := b3; clear hq; intro w b4 HX) | (have hq := b2; clear hq; intro w b3 HX) | (have hq := b; clear hq; intro w b2 HX) | intro w b HX)) | (refine tWN ?_; clear HX; intro w mm HX; simp only [Act.put, k_a, k_b, k_c]) | (refine tWP ?_; clear HX; intro w av nv cv HX; simp only [Act.put, k_a, k_b, k_c]))
                go_roundg (l2.length - (i + 1))
                case rel => exact ⟨i + 1, S2, P3, by omega, by go_num, HP3.out, HCI.out.1, HCI.out.2.1, HCI.out.2.2, sep_two HX.out⟩
                case measure => omega
              by_cases ho2 : op = 2
              · subst ho2
                obtain ⟨⟨ce, S2⟩, hclo⟩ : ∃ m, closeS S id sess = m := ⟨_, rfl⟩
                have h2 := close_c HC.out.1 id sess
                have h3 := close_i HC.out.2.1 HC.out.2.2.2 sess
                have h4 := HC.out.2.2.1.close HC.out.1.b h7 sess
                rw [hclo] at h2 h3 h4
                have HCI := Lib.hid (show _ ∧ _ ∧ _ from ⟨h2, h3, h4⟩)
                clear h2 h3 h4 h7
                go_wp2_with (first | go_skip | refine uK ?_ | refine uL ?_ | refine uM ?_ | (refine uS ?_; clear HX; intro w HX) | (refine uA ?_; clear HX; (first | (have hq := b8; clear hq; intro w b9 HX) | (have hq := b7; clear hq; intro w b8 HX) | (have hq := b6; clear hq; intro w b7 HX) | (have hq := b5; clear hq; intro w b6 HX) | (have hq := b4; clear hq; intro w b5 HX) | (have hq := b3; clear hq; intro w b4 HX) | (have hq := b2; clear hq; intro w b3 HX) | (have hq := b; clear hq; intro w b2 HX) | intro w b HX)) | (refine tWN ?_; clear HX; intro w mm HX; simp only [Act.put, k_a, k_b, k_c]) | (refine tWP ?_; clear HX; intro w av nv cv HX; simp only [Act.put, k_a, k_b, k_c]))
                have hm := close_any HX.out hd HC.out.1.b (by omega) id sess
                rw [hclo] at hm
                refine hm.mono ?_
                clear hm
                rintro e w ⟨P3, rfl, hP3, hx⟩
                clear HX
                have HX := Lib.hid hx
                clear hx
                have HP3 := Lib.hid (show ∀ r ∈ rs, r ∈ P3 from fun r hr => hP3 r (k_n _ (HP.out r hr)))
                clear hP3
                dsimp only at HX ⊢
                go_wp2_with (first | go_skip | refine uK ?_ | refine uL ?_ | refine uM ?_ | (refine uS ?_; clear HX; intro w HX) | (refine uA ?_; clear HX; (first | (have hq := b8; clear hq; intro w b9 HX) | (have hq := b7; clear hq; intro w b8 HX) | (have hq := b6; clear hq; intro w b7 HX) | (have hq := b5; clear hq; intro w b6 HX) | (have hq := b4; clear hq; intro w b5 HX) | (have hq := b3; clear hq; intro w b4 HX) | (have hq := b2; clear hq; intro w b3 HX) | (have hq := b; clear hq; intro w b2 HX) | intro w b HX)) | (refine tWN ?_; clear HX; intro w mm HX; simp only [Act.put, k_a, k_b, k_c]) | (refine tWP ?_; clear HX; intro w av nv cv HX; simp only [Act.put, k_a, k_b, k_c]))
                go_roundg (l2.length - (i + 1))
                case rel => exact ⟨i + 1, S2, P3, by omega, by go_num, HP3.out, HCI.out.1, HCI.out.2.1, HCI.out.2.2, sep_two HX.out⟩
                case measure => omega
              · have q5 : (op == 0) = false := by rw [beq_eq_false_iff_ne]; exact ho0
                have q6 : (op == 1) = false := by rw [beq_eq_false_iff_ne]; exact ho1
                have q8 : (op == 2) = false := by rw [beq_eq_false_iff_ne]; exact ho2
                obtain ⟨⟨⟨drs, de⟩, S2⟩, hdec⟩ : ∃ m, decideS S id yes = m := ⟨_, rfl⟩
                have h2 := decide_c HC.out.1 id yes
                have h3 := decide_i HC.out.2.1 id yes
                have h4 := HC.out.2.2.1.decide HC.out.1.b h7 yes
                rw [hdec] at h2 h3 h4
                have HCI := Lib.hid (show _ ∧ _ ∧ _ from ⟨h2, h3, h4⟩)
                clear h2 h3 h4 h7
                go_wp2_with (first | go_skip | refine uK ?_ | refine uL ?_ | refine uM ?_ | (refine uS ?_; clear HX; intro w HX) | (refine uA ?_; clear HX; (first | (have hq := b8; clear hq; intro w b9 HX) | (have hq := b7; clear hq; intro w b8 HX) | (have hq := b6; clear hq; intro w b7 HX) | (have hq := b5; clear hq; intro w b6 HX) | (have hq := b4; clear hq; intro w b5 HX) | (have hq := b3; clear hq; intro w b4 HX) | (have hq := b2; clear hq; intro w b3 HX) | (have hq := b; clear hq; intro w b2 HX) | intro w b HX)) | (refine tWN ?_; clear HX; intro w mm HX; simp only [Act.put, k_a, k_b, k_c]) | (refine tWP ?_; clear HX; intro w av nv cv HX; simp only [Act.put, k_a, k_b, k_c]))
                have hm := decide_any HX.out hd HC.out.1.b (by have := HC.out.1.len; omega) (by omega) id yes
                rw [hdec] at hm
                refine hm.mono ?_
                clear hm
                rintro e w ⟨P3, a3, n3, c3, xs3, rfl, hP3, -, -, hx⟩
                clear HX
                have HX := Lib.hid hx
                clear hx
                have HP3 := Lib.hid (show ∀ r ∈ rs, r ∈ P3 from fun r hr => hP3 r (k_n _ (HP.out r hr)))
                clear hP3
                dsimp only at HX ⊢
                go_wp2_with (first | go_skip | refine uK ?_ | refine uL ?_ | refine uM ?_ | (refine uS ?_; clear HX; intro w HX) | (refine uA ?_; clear HX; (first | (have hq := b8; clear hq; intro w b9 HX) | (have hq := b7; clear hq; intro w b8 HX) | (have hq := b6; clear hq; intro w b7 HX) | (have hq := b5; clear hq; intro w b6 HX) | (have hq := b4; clear hq; intro w b5 HX) | (have hq := b3; clear hq; intro w b4 HX) | (have hq := b2; clear hq; intro w b3 HX) | (have hq := b; clear hq; intro w b2 HX) | intro w b HX)) | (refine tWN ?_; clear HX; intro w mm HX; simp only [Act.put, k_a, k_b, k_c]) | (refine tWP ?_; clear HX; intro w av nv cv HX; simp only [Act.put, k_a, k_b, k_c]))
                go_roundg (l2.length - (i + 1))
                case rel => exact ⟨i + 1, S2, P3, by omega, by go_num, HP3.out, HCI.out.1, HCI.out.2.1, HCI.out.2.2, sep_two HX.out⟩
                case measure => omega
    case pos =>
      obtain ⟨E, hE⟩ := HX.out.poolGet (HP.out _ HRS.out.1)
      obtain ⟨_, _, _, e, _, hnc, _, hne⟩ := ReadRow.some hE
      simp only [Value.slice.injEq] at e
      obtain ⟨rfl, rfl, rfl⟩ := e
      obtain ⟨g, off, rfl⟩ := hne (by intro e; have := congrArg List.length e; rw [flatG_len opcells_len] at this; simp at this; omega)
      obtain ⟨hs1, h3⟩ := Sep.poolOne (P := Tryz.prog) Tryz.underlying28 H5.out.1 H5.out.2 HX.out (HP.out _ HRS.out.1) hlt hnc hlt
      have hx := pt_pool h3
      clear HX
      have HX := Lib.hid hx
      clear hx
      have HS1 := Lib.hid hs1
      have HO1 := Lib.hid (HL.out.1.2 _ (List.getElem_mem hlt))
      obtain ⟨o, ho⟩ : ∃ o, l0[i] = o := ⟨_, rfl⟩
      rw [ho] at HX HO1
      have q0 : decide (i < l0.length) = true := decide_eq_true hlt
      have q9 : i ≤ 20 := by have := HL.out.1.1; omega
      have q3 : IntKind.i64.wrap ((i : Int) + 1) = (i : Int) + 1 := IntWalk.i64_in _ (by omega)
      clear hE h3 hne hnc ho
      obtain ⟨⟨⟨rn, rz, re, ra, rrs⟩, S2⟩, hloc⟩ : ∃ m, localS S 1 ((i : Int) + 1) [o] = m := ⟨_, rfl⟩
      have h2 := local_c HC.out.1 1 ((i : Int) + 1) [o]
      have h3 := local_i HC.out.2.1 1 ((i : Int) + 1) [o]
      have h4 := local_w S 1 ((i : Int) + 1) [o]
      have h5 := local_room S 1 ((i : Int) + 1) [o]
      rw [hloc] at h2 h3 h4 h5
      have HCI := Lib.hid (show _ ∧ _ ∧ S2.wait = [] ∧ S2.held = [] ∧ S2.t.room = 30 from ⟨h2, h3, h4.1.trans HC.out.2.2.1, h4.2.trans HC.out.2.2.2.1, h5.trans HC.out.2.2.2.2⟩)
      clear h2 h3 h4 h5
      go_wp2_with (first | go_skip | refine uK ?_ | refine uL ?_ | refine uM ?_ | (refine uS ?_; clear HX; intro w HX) | (refine uA ?_; clear HX; (first | (have hq := b8; clear hq; intro w b9 HX) | (have hq := b7; clear hq; intro w b8 HX) | (have hq := b6; clear hq; intro w b7 HX) | (have hq := b5; clear hq; intro w b6 HX) | (have hq := b4; clear hq; intro w b5 HX) | (have hq := b3; clear hq; intro w b4 HX) | (have hq := b2; clear hq; intro w b3 HX) | (have hq := b; clear hq; intro w b2 HX) | intro w b HX)) | (refine tWN ?_; clear HX; intro w mm HX; simp only [Act.put, k_a, k_b, k_c]) | (refine tWP ?_; clear HX; intro w av nv cv HX; simp only [Act.put, k_a, k_b, k_c]))
      have hm := local_any HX.out hd HC.out.1.b (by omega) 1 ((i : Int) + 1) [o] _ k_s (by intro q hq; rw [List.mem_singleton] at hq; rw [hq]; have := HO1.out; omega)
      rw [hloc] at hm
      refine hm.mono ?_
      clear hm
      rintro e w ⟨_, P3, rfl, hP3, ⟨a3, n3, c3, xs3, rfl, -⟩, hx⟩
      clear HX
      have HX := Lib.hid hx
      clear hx
      have HP3 := Lib.hid (show ∀ r ∈ rs, r ∈ P3 from fun r hr => hP3 r (k_n _ (HP.out r hr)))
      clear hP3
      dsimp only at HX ⊢
      go_wp2_with (first | go_skip | refine uK ?_ | refine uL ?_ | refine uM ?_ | (refine uS ?_; clear HX; intro w HX) | (refine uA ?_; clear HX; (first | (have hq := b8; clear hq; intro w b9 HX) | (have hq := b7; clear hq; intro w b8 HX) | (have hq := b6; clear hq; intro w b7 HX) | (have hq := b5; clear hq; intro w b6 HX) | (have hq := b4; clear hq; intro w b5 HX) | (have hq := b3; clear hq; intro w b4 HX) | (have hq := b2; clear hq; intro w b3 HX) | (have hq := b; clear hq; intro w b2 HX) | intro w b HX)) | (refine tWN ?_; clear HX; intro w mm HX; simp only [Act.put, k_a, k_b, k_c]) | (refine tWP ?_; clear HX; intro w av nv cv HX; simp only [Act.put, k_a, k_b, k_c]))
      go_roundg (l0.length - (i + 1))
      case rel => exact ⟨i + 1, S2, P3, by omega, by go_num, HP3.out, HCI.out.1, HCI.out.2.1, HCI.out.2.2.1, HCI.out.2.2.2.1, HCI.out.2.2.2.2, sep_two HX.out⟩
      case measure => omega
end
end Go.Proofs.YtbakgoncfggidaaGreatDoor

namespace Go.Av
variable {H : Type} {enc : TypeId × Value → H}
theorem handed_both {a : Assume} {C : Checked} {os : Os} {f : FuncId} {fn : Func} {s : ChangeSpec} {conds : List PathCond} {apart fresh handsOn again : Bool} {X : World → Array Value → Prop}
    (hX : ∀ (w w' : World) (args : Array Value), w.heap = w'.heap → X w args → X w' args)
    (own : ownKnob C.prog.godebug = none) (started : os.Started) (noInit : C.prog.inits.idxOf? f = none) (hfn : C.prog.funcs[f]? = some fn)
    (witness : ∃ (w : World) (tape : Tape) (i : Input), w.os = os ∧ (w.forCall tape i).Shaped C.prog ∧ i.vars = [] ∧ Input.okWide C.prog (w.forCall tape i) .any w.heap.size f i ∧
      ((s.pre enc C.prog fn conds apart (w.forCall tape i).memory i.args ∧ X (w.forCall tape i).memory i.args) ∧ sizedMet enc C.prog fn (OpenSpec.ofChange s) apart (w.forCall tape i).memory i.args) ∧ a.holds C.prog (lone (Frame.enter C.prog f i.args .normal) [] (w.forCall tape i)))
    (contract : ∀ (W : World) (base : Nat) (args : Array Value) (ds gs : List (DataW H)) (before : List MemPlace),
      (∀ (j : Nat) t v, fn.params[j]? = some t → args[j]? = some v → Value.okWide C.prog W .any base t v) →
      DataW.Whole enc C.prog fn.params.toList s.vars apart W args.toList ds gs before →
      W.ShapedOpen C.prog → X W args →
      Calls C.prog f args W fun e W' => ∃ v, e = .returned v ∧ s.post enc C.prog fn apart fresh handsOn again W args v W') :
    ReturnsInHanded a C os f .any (fun w args => (s.pre enc C.prog fn conds apart w args ∧ X w args) ∧ sizedMet enc C.prog fn (OpenSpec.ofChange s) apart w args) (s.post enc C.prog fn apart fresh handsOn again) := by
  refine returnsInHanded_of_calls own started noInit witness ?_
  intro w tape i _ hsh _ hok hpre hholds
  obtain ⟨_, _, _, fn', hfn', _, _, _, _, hval⟩ := hok
  have e : fn' = fn := Option.some.inj (hfn'.symm.trans hfn)
  subst e
  obtain ⟨⟨⟨ds, gs, before, hw, hc⟩, hx⟩, hz⟩ := hpre
  have hw' := DataW.Whole.of_heap (w' := w.forCall tape i) (by rfl) hw
  refine (contract (w.forCall tape i) w.heap.size i.args ds gs before hval hw' hsh (hX _ _ _ (by rfl) hx)).mono fun e W' ⟨v, he, hp⟩ => ?_
  subst he
  exact ChangeSpec.post_blind hp
end Go.Av
namespace Go.Proofs.YtbakgoncfggidaaGreatDoor
open Go.Av
theorem door_of {W : World} (h : W.ShapedOpen Tryz.prog) : Door W := Tryz.laysM146.s1_3 W h
end Go.Proofs.YtbakgoncfggidaaGreatDoor

namespace Go.Av
theorem laid_tail {P : Program} {w : World} {x : String × DataW Unit} {rest : List (String × DataW Unit)} (h : ∃ ps, DataW.LaidVars P w (x :: rest) ps) : ∃ ps, DataW.LaidVars P w rest ps := by
  obtain ⟨ps, g, t, cs, fuel, p, q, -, -, -, -, h1, h2⟩ := h
  exact ⟨q, by assumption⟩
theorem tab_head {P : Program} {W : World} {name : String} {k : IntKind} {zs : List Int} {rest : List (String × DataW Unit)} {g : Nat} {t e : TypeId} {n : Nat}
    (hg : P.globalNamed name = some g) (hty : (P.globals[g]?).map (·.type) = some t) (ht : P.underlying t = some (.array n e)) (he : P.underlying e = some (.int k)) (hce : P.cellsOf e = 1) (hct : P.cellsOf t = n)
    (h : ∃ ps, DataW.LaidVars P W ((name, Lib.tabData k zs) :: rest) ps) : Lib.TabIs P W name k zs := by
  obtain ⟨ps, g', t', cs, fuel, p, q, hg', ht', hvar, hd, _, _⟩ := h
  obtain rfl := Option.some.inj (hg.symm.trans hg')
  obtain rfl := Option.some.inj (hty.symm.trans ht')
  unfold Lib.TabIs
  rw [hvar, ← Lib.cells_of_tab ht he hce hct hd]
end Go.Av
namespace Go.Proofs.YtbakgoncfggidaaGreatDoor
open Go.Av
theorem doorN_of {W : World} {a b c : String × DataW Unit} {r : List (String × DataW Unit)} (h : W.ShapedOpen Tryz.prog) (hc : c = ("internal/strconv.uint64pow10", Lib.tabData .u64 Lib.pow10Tab)) (hl : laidMet Tryz.prog (a :: b :: c :: r) W) : DoorN W := by
  subst hc
  obtain ⟨ps, h1, -⟩ := hl
  refine ⟨door_of h, ?_⟩
  exact tab_head (g := 3) (by kernel_rfl) (by kernel_rfl) Tryz.underlying376 Tryz.underlying257 (by kernel_rfl) (by kernel_rfl) (laid_tail (laid_tail ⟨ps, h1⟩))
end Go.Proofs.YtbakgoncfggidaaGreatDoor

namespace Go.Proofs.YtbakgoncfggidaaGreatDoor
open Go.RowKit Go.Av
section
variable {W : World}
def LwRel (W : World) (S : PartS) (r : PRow) (b k : Nat) (v : Value) (w : World) : Prop :=
  ∃ (i : Nat) (P' : List PRow), i + k = (waitsS S.wait).length ∧ v = .int .i64 (i : Int) ∧ r ∈ P' ∧ Sep W w [ThPool W P', ThPart b (decAll S ((waitsS S.wait).take i)) P'] []
def LkRel (W : World) (l : List PAct) (r : PRow) (b k : Nat) (v : Value) (w : World) : Prop :=
  ∃ (i : Nat) (P' : List PRow), i + k = l.length ∧ v = .int .i64 (i : Int) ∧ r ∈ P' ∧ Sep W w [ThPool W P', ThPart b (actsS (l.take i) (newP 60)) P'] []
set_option maxRecDepth 100000 in
set_option maxHeartbeats 16000000 in
theorem partLocks_walk (a0 : Option Addr) (len0 cap0 : Nat) (l0 : List PAct) (W : World) (hd : DoorN W) (h0 : IsPActs W a0 len0 cap0 l0) :
    Calls Tryz.prog 3 #[.slice a0 len0 cap0] W fun e w' => e = .returned (.bool true) ∧ Below W.heap.size W w' := by
  obtain ⟨E0, r0⟩ := h0.row
  obtain rfl : l0.length = len0 := h0.1
  have HR := Lib.hid r0
  have HO := Lib.hid h0.2.2.2.2.2
  clear h0 r0
  by_cases h20 : 30 < l0.length
  · have q1 : decide (30 < l0.length) = true := decide_eq_true h20
    have q2 : decide (30 < (l0.length : Int)) = true := decide_eq_true (by omega)
    go_enter Tryz.func3, Tryz.ntmps3
    go_wp2_with fail
    refine (awake_any hd).mono ?_
    rintro e w ⟨rfl, hu⟩
    have HX := Lib.hid (((Sep.start W).keep hu).poolNew.poolOld HR.out)
    clear hu
    go_wp2_with (first | go_skip | refine uK ?_ | refine uL ?_ | refine uM ?_ | (refine uS ?_; clear HX; intro w HX) | (refine uA ?_; clear HX; (first | (have hq := b; clear hq; intro w b2 HX) | intro w b HX)) | (refine tWN ?_; clear HX; intro w mm HX; simp only [Act.put, k_a, k_b, k_c]) | (refine tWP ?_; clear HX; intro w av nv cv HX; simp only [Act.put, k_a, k_b, k_c]))
    go_ret
    exact ⟨rfl, HX.out.below⟩
  have q1 : decide (30 < l0.length) = false := decide_eq_false h20
  have q2 : decide (30 < (l0.length : Int)) = false := decide_eq_false (by omega)
  have HL := Lib.hid (show l0.length ≤ 30 by omega)
  go_enter Tryz.func3, Tryz.ntmps3
  go_wp2_with fail
  refine (awake_any hd).mono ?_
  rintro e w ⟨rfl, hu⟩
  have HX := Lib.hid (((Sep.start W).keep hu).poolNew.poolOld HR.out)
  clear hu
  go_wp2_with (first | go_skip | refine uK ?_ | refine uL ?_ | refine uM ?_ | (refine uS ?_; clear HX; intro w HX) | (refine uA ?_; clear HX; (first | (have hq := b; clear hq; intro w b2 HX) | intro w b HX)) | (refine tWN ?_; clear HX; intro w mm HX; simp only [Act.put, k_a, k_b, k_c]) | (refine tWP ?_; clear HX; intro w av nv cv HX; simp only [Act.put, k_a, k_b, k_c]))
  clear h20 q1 q2
  refine (partnew_any HX.out 60 (by omega) (by omega)).mono ?_
  rintro e w1 ⟨b, rfl, hx⟩
  clear HX
  have HX := Lib.hid hx
  clear hx
  go_wp2_with (first | go_skip | refine uK ?_ | refine uL ?_ | refine uM ?_ | (refine uS ?_; clear HX; intro w HX) | (refine uA ?_; clear HX; (first | (have hq := b; clear hq; intro w b2 HX) | intro w b HX)) | (refine tWN ?_; clear HX; intro w mm HX; simp only [Act.put, k_a, k_b, k_c]) | (refine tWP ?_; clear HX; intro w av nv cv HX; simp only [Act.put, k_a, k_b, k_c]))
  have HST := Lib.hid (show LkRel W l0 _ b l0.length (.int .i64 (0 : Int)) _ from ⟨0, _, by simp, rfl, k_s, HX.out⟩)
  clear HX
  go_loopg [5] l0.length (fun k v wr => LkRel W l0 (5, .slice a0 l0.length cap0, l0.flatMap PAct.cells) b k v wr)
  case atStart => exact HST.out
  case round =>
    rename World => w
    obtain ⟨i, P1, hik, rfl, hP1, hS⟩ := hrel
    have HX := Lib.hid hS
    have HP := Lib.hid hP1
    clear hS hP1 HST
    by_cases hlt : i < l0.length
    case neg =>
      obtain rfl : i = l0.length := by omega
      have hC : PartC (0 + l0.length) (actsS l0 (newP 60)) := acts_c _ (newP_c 60 (by omega))
      have hI : IdsW (actsS l0 (newP 60)) := acts_i _ (fun e he => by cases he) (fun a ha => (HO.out a ha).1)
      rw [List.take_length] at HX
      obtain ⟨S, hSS⟩ : ∃ S, actsS l0 (newP 60) = S := ⟨_, rfl⟩
      rw [hSS] at HX hC hI
      have HC := Lib.hid (show _ ∧ _ from ⟨hC.mono (K' := 40) (by have := HL.out; omega), hI⟩)
      clear hlt hik hSS hC hI
      go_wp2_with (first | go_skip | refine uK ?_ | refine uL ?_ | refine uM ?_ | (refine uS ?_; clear HX; intro w HX) | (refine uA ?_; clear HX; (first | (have hq := b; clear hq; intro w b2 HX) | intro w b HX)) | (refine tWN ?_; clear HX; intro w mm HX; simp only [Act.put, k_a, k_b, k_c]) | (refine tWP ?_; clear HX; intro w av nv cv HX; simp only [Act.put, k_a, k_b, k_c]))
      refine (waiting_any HX.out HC.out.2 (by have := HC.out.1.b.many; omega)).mono ?_
      rintro e w ⟨vw, P4, rfl, hP4, hvw, hx⟩
      obtain ⟨E, hE⟩ := hx.poolGet hvw
      have hnd : (S.wait.map (·.1)).Nodup := by
        obtain ⟨t, lk, mw, md, mc, gs, hgs, hgv, hS⟩ := pt_open hx.up1
        rw [← hgs]
        exact wait_nodup hS.up3
      obtain ⟨wa, wn, wc, rfl, hwl, -, -, hwne⟩ := ReadRow.some hE
      rw [List.length_map, Nat.mul_one] at hwl
      subst hwl
      clear HX
      have HX := Lib.hid hx
      clear hx
      have HV := Lib.hid (show _ ∧ _ ∧ _ from ⟨hvw, hwne, waits_rise hnd⟩)
      have HWL := Lib.hid (show (waitsS S.wait).length ≤ 40 by rw [waits_len]; exact HC.out.1.b.many)
      clear hP4 hvw hE hwne hnd
      go_wp2_with (first | go_skip | refine uK ?_ | refine uL ?_ | refine uM ?_ | (refine uS ?_; clear HX; intro w HX) | (refine uA ?_; clear HX; (first | (have hq := b; clear hq; intro w b2 HX) | intro w b HX)) | (refine tWN ?_; clear HX; intro w mm HX; simp only [Act.put, k_a, k_b, k_c]) | (refine tWP ?_; clear HX; intro w av nv cv HX; simp only [Act.put, k_a, k_b, k_c]))
      have HST := Lib.hid (show LwRel W S _ b (waitsS S.wait).length (.int .i64 (0 : Int)) _ from ⟨0, _, by simp, rfl, HV.out.1, HX.out⟩)
      clear HX
      go_loopg [8] (waitsS S.wait).length (fun k v wr => LwRel W S (1, .slice wa (waitsS S.wait).length wc, (waitsS S.wait).map ivn) b k v wr)
      case atStart => exact HST.out
      case round =>
        rename World => w
        obtain ⟨j, P5, hjk, rfl, hP5, hS⟩ := hrel
        have HX := Lib.hid hS
        have HP5 := Lib.hid hP5
        clear hS hP5 HST
        have hCj : PartC (40 + ((waitsS S.wait).take j).length) (decAll S ((waitsS S.wait).take j)) := decAll_c _ HC.out.1
        have hIj : IdsW (decAll S ((waitsS S.wait).take j)) := decAll_i _ HC.out.2
        by_cases hlt : j < (waitsS S.wait).length
        case neg =>
          obtain rfl : j = (waitsS S.wait).length := by omega
          rw [List.take_length] at HX hCj hIj
          have hw0 : (decAll S (waitsS S.wait)).wait = [] := by
            rw [decAll_wait]
            refine List.filter_eq_nil_iff.2 fun e he => ?_
            have : e.1 ∈ waitsS S.wait := waits_mem.2 ⟨e, he, rfl⟩
            simp [this]
          obtain ⟨S3, hS3⟩ : ∃ S3, decAll S (waitsS S.wait) = S3 := ⟨_, rfl⟩
          rw [hS3] at HX hCj hIj hw0
          have HH := Lib.hid (held_none hCj.h hw0)
          have HW0 := Lib.hid (show _ ∧ _ ∧ _ from ⟨hw0, hCj, hIj⟩)
          clear hw0 hS3 hlt hjk hCj hIj
          go_wp2_with (first | go_skip | refine uK ?_ | refine uL ?_ | refine uM ?_ | (refine uS ?_; clear HX; intro w HX) | (refine uA ?_; clear HX; (first | (have hq := b; clear hq; intro w b2 HX) | intro w b HX)) | (refine tWN ?_; clear HX; intro w mm HX; simp only [Act.put, k_a, k_b, k_c]) | (refine tWP ?_; clear HX; intro w av nv cv HX; simp only [Act.put, k_a, k_b, k_c]))
          refine (plocks_any HX.out.up1).mono ?_
          rw [HH.out.1]
          rintro e w ⟨rfl, hx⟩
          have hx := hx.up1
          clear HX
          have HX := Lib.hid hx
          clear hx
          go_wp2_with (first | go_skip | refine uK ?_ | refine uL ?_ | refine uM ?_ | (refine uS ?_; clear HX; intro w HX) | (refine uA ?_; clear HX; (first | (have hq := b; clear hq; intro w b2 HX) | intro w b HX)) | (refine tWN ?_; clear HX; intro w mm HX; simp only [Act.put, k_a, k_b, k_c]) | (refine tWP ?_; clear HX; intro w av nv cv HX; simp only [Act.put, k_a, k_b, k_c]))
          refine (wanted_any HX.out (by rw [HH.out.2]; omega) (fun e he => by rw [HW0.out.1] at he; cases he)).mono ?_
          rw [HH.out.2]
          rintro e w ⟨rfl, hx⟩
          clear HX
          have HX := Lib.hid hx
          clear hx
          go_wp2_with (first | go_skip | refine uK ?_ | refine uL ?_ | refine uM ?_ | (refine uS ?_; clear HX; intro w HX) | (refine uA ?_; clear HX; (first | (have hq := b; clear hq; intro w b2 HX) | intro w b HX)) | (refine tWN ?_; clear HX; intro w mm HX; simp only [Act.put, k_a, k_b, k_c]) | (refine tWP ?_; clear HX; intro w av nv cv HX; simp only [Act.put, k_a, k_b, k_c]))
          refine (waiting_any HX.out HW0.out.2.2 (by rw [HW0.out.1]; simp)).mono ?_
          rintro e w ⟨vx, P6, rfl, hP6, hvx, hx⟩
          obtain ⟨E, hE⟩ := hx.poolGet hvx
          obtain ⟨xa, xn, xc, rfl, hxl, -⟩ := ReadRow.some hE
          obtain rfl : xn = 0 := by rw [List.length_map, waits_len, HW0.out.1] at hxl; simpa using hxl.symm
          clear HX
          have HX := Lib.hid hx
          clear hx
          clear hP6 hvx hE hxl
          go_wp2_with (first | go_skip | refine uK ?_ | refine uL ?_ | refine uM ?_ | (refine uS ?_; clear HX; intro w HX) | (refine uA ?_; clear HX; (first | (have hq := b; clear hq; intro w b2 HX) | intro w b HX)) | (refine tWN ?_; clear HX; intro w mm HX; simp only [Act.put, k_a, k_b, k_c]) | (refine tWP ?_; clear HX; intro w av nv cv HX; simp only [Act.put, k_a, k_b, k_c]))
          go_ret
          exact ⟨rfl, HX.out.below⟩
        case pos =>
          obtain ⟨g, off, rfl⟩ := HV.out.2.1 (by intro e; rw [List.map_eq_nil_iff] at e; rw [e] at hlt; simp at hlt)
          have hnx := decAll_take (waitsS S.wait) S hlt
          have hmem : (waitsS S.wait)[j] ∈ waitsS S.wait := List.getElem_mem hlt
          have hderr : (decideS (decAll S ((waitsS S.wait).take j)) (waitsS S.wait)[j] false).1 = ([], 0) := by
            obtain ⟨e, he, hee⟩ := waits_mem.1 hmem
            refine dec_err (e := e) ?_ hee
            rw [decAll_wait]
            refine List.mem_filter.2 ⟨he, ?_⟩
            rw [hee]
            refine decide_eq_true fun hin => ?_
            obtain ⟨q, hq, hqe⟩ := List.getElem_of_mem hin
            rw [List.length_take] at hq
            rw [List.getElem_take] at hqe
            have := List.pairwise_iff_getElem.1 HV.out.2.2 q j (by omega) hlt (by omega)
            omega
          have hxj : ((waitsS S.wait).map ivn)[j]? = some (.int .i64 (waitsS S.wait)[j]) := by simp [hlt]; rfl
          have hprev : ∀ q, j = q + 1 → ∃ y, ((waitsS S.wait).map ivn)[q]? = some (.int .i64 y) ∧ y < (waitsS S.wait)[j] := fun q hq => by
            subst hq
            refine ⟨(waitsS S.wait)[q], by simp [show q < (waitsS S.wait).length by omega]; rfl, ?_⟩
            exact List.pairwise_iff_getElem.1 HV.out.2.2 q (q + 1) (by omega) hlt (by omega)
          obtain ⟨x, hxx⟩ : ∃ x, (waitsS S.wait)[j] = x := ⟨_, rfl⟩
          obtain ⟨S1, hS1⟩ : ∃ S1, decAll S ((waitsS S.wait).take j) = S1 := ⟨_, rfl⟩
          rw [hxx] at hnx hderr hxj hprev
          rw [hS1] at HX hCj hnx hderr
          obtain ⟨⟨⟨drs, de⟩, S2⟩, hdec⟩ : ∃ m, decideS S1 x false = m := ⟨_, rfl⟩
          rw [hdec] at hderr hnx
          cases hderr
          have HC1 := Lib.hid (show _ ∧ _ from ⟨hCj.mono (K' := 80) (by rw [List.length_take]; have := HWL.out; omega), hdec⟩)
          have HNX := Lib.hid (show _ ∧ _ ∧ _ from ⟨hnx, hxj, hprev⟩)
          obtain ⟨E, hE⟩ := HX.out.poolGet HP5.out
          have hl := row_load1 (P := Tryz.prog) (ty := 2) (i := j) (v := .int .i64 x) hE (by kernel_rfl) hxj
          have q0 : decide (j < (waitsS S.wait).length) = true := decide_eq_true hlt
          have q9 : j ≤ 40 := by have := HWL.out; omega
          clear hnx hxj hprev hdec hE hS1 hxx hmem hCj hIj
          go_wp2_with (first | go_skip | refine uK ?_ | refine uL ?_ | refine uM ?_ | (refine uS ?_; clear HX; intro w HX) | (refine uA ?_; clear HX; (first | (have hq := b; clear hq; intro w b2 HX) | intro w b HX)) | (refine tWN ?_; clear HX; intro w mm HX; simp only [Act.put, k_a, k_b, k_c]) | (refine tWP ?_; clear HX; intro w av nv cv HX; simp only [Act.put, k_a, k_b, k_c]) | ((with_reducible apply sx_loadAt hl); (· rfl); (· rfl); simp only [Act.put, k_a, k_b, k_c]))
          have hm := decide_any HX.out hd HC1.out.1.b (by have := HC1.out.1.len; omega) (by omega) x false
          rw [HC1.out.2] at hm
          refine hm.mono ?_
          clear hm hl
          rintro e w ⟨P6, a6, n6, c6, xs6, rfl, hP6, -, -, hx⟩
          clear HX
          have HX := Lib.hid hx
          clear hx
          have HP6 := Lib.hid (hP6 _ HP5.out)
          clear hP6
          dsimp only at HX ⊢
          by_cases hj0 : j = 0
          · subst hj0
            go_wp2_with (first | go_skip | refine uK ?_ | refine uL ?_ | refine uM ?_ | (refine uS ?_; clear HX; intro w HX) | (refine uA ?_; clear HX; (first | (have hq := b; clear hq; intro w b2 HX) | intro w b HX)) | (refine tWN ?_; clear HX; intro w mm HX; simp only [Act.put, k_a, k_b, k_c]) | (refine tWP ?_; clear HX; intro w av nv cv HX; simp only [Act.put, k_a, k_b, k_c]))
            refine wp_region_M (fun W => W = w.drew) 18 (by kernel_rfl) ?_
            replace HX := Lib.hid HX.out.drew
            generalize w.drew = w at HX ⊢
            obtain ⟨E, hE⟩ := HX.out.poolGet HP6.out
            have hl := row_load1 (P := Tryz.prog) (ty := 2) (i := 0) (v := .int .i64 x) hE (by kernel_rfl) HNX.out.2.1
            clear hE
            refine wpAnyM_take (by kernel_rfl) (by intro c a d v w h; cases d <;> exact h) [(0, false), (1, false), (2, false), (3, false), (4, false), (5, false), (6, false), (7, false), (8, false), (9, true), (10, false), (11, false), (12, false), (13, false), (14, true), (15, false), (16, false), (17, false)] (fuel := 0) (by kernel_rfl) ?_
            apply Exists.intro; refine ⟨?_, rfl, ?_⟩
            · iterate 18 (refine xD ?_)
              exact rfl
            refine wpAnyM_done (by kernel_rfl) ?_ _
            clear hl
            go_wp2_with (first | go_skip | refine uK ?_ | refine uL ?_ | refine uM ?_ | (refine uS ?_; clear HX; intro w HX) | (refine uA ?_; clear HX; (first | (have hq := b; clear hq; intro w b2 HX) | intro w b HX)) | (refine tWN ?_; clear HX; intro w mm HX; simp only [Act.put, k_a, k_b, k_c]) | (refine tWP ?_; clear HX; intro w av nv cv HX; simp only [Act.put, k_a, k_b, k_c]))
            go_roundg ((waitsS S.wait).length - (0 + 1))
            case rel => exact ⟨0 + 1, _, by omega, by go_num, HP6.out, by rw [HNX.out.1]; exact sep_two HX.out⟩
            case measure => omega
          · obtain ⟨q, hq⟩ : ∃ q, j = q + 1 := ⟨j - 1, by omega⟩
            obtain ⟨y, hy1, hy2⟩ := HNX.out.2.2 q hq
            have q3 : decide (0 < (j : Int)) = true := decide_eq_true (by omega)
            have q4 : decide (0 < j) = true := decide_eq_true (by omega)
            have q5 : decide (x ≤ y) = false := decide_eq_false (by omega)
            have q6 : IntKind.i64.wrap ((j : Int) - 1) = (q : Int) := by
              rw [show (j : Int) - 1 = (q : Int) by omega]
              exact IntWalk.i64_in _ (by omega)
            have q7 : decide (q < (waitsS S.wait).length) = true := decide_eq_true (by omega)
            have q8 : q ≤ 40 := by omega
            have q10 : (q < (waitsS S.wait).length) = True := eq_true (by omega)
            have q11 : (j < (waitsS S.wait).length) = True := eq_true hlt
            clear hq hj0
            go_wp2_with (first | go_skip | refine uK ?_ | refine uL ?_ | refine uM ?_ | (refine uS ?_; clear HX; intro w HX) | (refine uA ?_; clear HX; (first | (have hq := b; clear hq; intro w b2 HX) | intro w b HX)) | (refine tWN ?_; clear HX; intro w mm HX; simp only [Act.put, k_a, k_b, k_c]) | (refine tWP ?_; clear HX; intro w av nv cv HX; simp only [Act.put, k_a, k_b, k_c]))
            refine wp_region_M (fun W => W = w.drew) 18 (by kernel_rfl) ?_
            replace HX := Lib.hid HX.out.drew
            generalize w.drew = w at HX ⊢
            obtain ⟨E, hE⟩ := HX.out.poolGet HP6.out
            have hl := row_load1 (P := Tryz.prog) (ty := 2) (i := j) (v := .int .i64 x) hE (by kernel_rfl) HNX.out.2.1
            have hl2 := row_load1 (P := Tryz.prog) (ty := 2) (i := q) (v := .int .i64 y) hE (by kernel_rfl) hy1
            clear hE
            refine wpAnyM_take (by kernel_rfl) (by intro c a d v w h; cases d <;> exact h) [(0, false), (1, false), (2, false), (3, false), (4, false), (5, false), (6, false), (7, false), (8, false), (9, true), (10, false), (11, false), (12, false), (13, false), (14, true), (15, false), (16, false), (17, false)] (fuel := 0) (by kernel_rfl) ?_
            apply Exists.intro; refine ⟨?_, rfl, ?_⟩
            · iterate 18 (first | refine xD ?_ | ((first | apply yieldP | apply yieldL); (· (simp only [k_i, k_j, k_k]; try rfl)); (· rfl); (· (intros; go_simp; (try simp only [q3, q4, q5, q6, q10, q11, ↓reduceIte, and_self, Int.toNat_natCast]); try with_reducible rfl)); (· (simp only [Act.put, k_a, k_b, k_c, k_d, k_e, k_f, k_g, k_h, NodeS.cells, OpS.cells, ResS.cells]; try rfl))))
              exact rfl
            refine wpAnyM_done (by kernel_rfl) ?_ _
            clear hl hl2
            go_wp2_with (first | go_skip | refine uK ?_ | refine uL ?_ | refine uM ?_ | (refine uS ?_; clear HX; intro w HX) | (refine uA ?_; clear HX; (first | (have hq := b; clear hq; intro w b2 HX) | intro w b HX)) | (refine tWN ?_; clear HX; intro w mm HX; simp only [Act.put, k_a, k_b, k_c]) | (refine tWP ?_; clear HX; intro w av nv cv HX; simp only [Act.put, k_a, k_b, k_c]))
            go_roundg ((waitsS S.wait).length - (j + 1))
            case rel => exact ⟨j + 1, _, by omega, by go_num, HP6.out, by rw [HNX.out.1]; exact sep_two HX.out⟩
            case measure => omega
    case pos =>
      have hC : PartC (0 + (l0.take i).length) (actsS (l0.take i) (newP 60)) := acts_c _ (newP_c 60 (by omega))
      have hI : IdsW (actsS (l0.take i) (newP 60)) := acts_i _ (fun e he => by cases he) (fun a ha => (HO.out a (List.mem_of_mem_take ha)).1)
      have hnx := acts_take l0 (newP 60) hlt
      have hpr := HO.out l0[i] (List.getElem_mem hlt)
      obtain ⟨E, hE⟩ := HX.out.poolGet HP.out
      obtain ⟨_, _, _, e, _, _, _, hne⟩ := ReadRow.some hE
      simp only [Value.slice.injEq] at e
      obtain ⟨rfl, rfl, rfl⟩ := e
      obtain ⟨g, off, rfl⟩ := hne (by intro e; have := congrArg List.length e; rw [flatG_len pact_len] at this; simp at this; omega)
      have hl := row_load (P := Tryz.prog) (f := PAct.cells) (i := i) hE pact_len sn_x3 hlt
      obtain ⟨a, ha⟩ : ∃ a, l0[i] = a := ⟨_, rfl⟩
      obtain ⟨S, hSS⟩ : ∃ S, actsS (l0.take i) (newP 60) = S := ⟨_, rfl⟩
      rw [ha] at hpr hnx hl
      rw [hSS] at HX hC hnx hI
      obtain ⟨hid, E2, hE2⟩ := hpr
      have hx := pt_old HX.out hE2
      obtain ⟨op, id, sess, av, yes, ops⟩ := a
      dsimp only at hx hE2 hnx hid
      obtain ⟨oa, on, oc, rfl, -⟩ := _root_.id hE2
      simp only [PAct.cells] at hl
      clear HX
      have HX := Lib.hid hx
      clear hx
      have HC := Lib.hid (show _ ∧ _ ∧ _ from ⟨hC.mono (K' := 40) (by rw [List.length_take]; have := HL.out; omega), hI, hid⟩)
      have HNX := Lib.hid hnx
      have q0 : decide (i < l0.length) = true := decide_eq_true hlt
      have q9 : i ≤ 30 := by have := HL.out; omega
      clear hE hC hI hnx hSS ha hne hE2 hid
      go_wp2_with (first | go_skip | refine uK ?_ | refine uL ?_ | refine uM ?_ | (refine uS ?_; clear HX; intro w HX) | (refine uA ?_; clear HX; (first | (have hq := b; clear hq; intro w b2 HX) | intro w b HX)) | (refine tWN ?_; clear HX; intro w mm HX; simp only [Act.put, k_a, k_b, k_c]) | (refine tWP ?_; clear HX; intro w av nv cv HX; simp only [Act.put, k_a, k_b, k_c]) | ((with_reducible apply sx_loadAt hl); (· rfl); (· rfl); simp only [Act.put, k_a, k_b, k_c]))
      obtain ⟨bl, hbl⟩ : ∃ bl, longS ops = bl := ⟨_, rfl⟩
      have hlong := long_any HX.out.up1 ops _ k_s
      rw [hbl] at hlong
      refine hlong.mono ?_
      clear hlong hl
      rintro e w ⟨rfl, hx⟩
      have hx := hx.up2.up1
      clear HX
      have HX := Lib.hid hx
      clear hx
      cases bl with
      | true =>
        go_wp2_with (first | go_skip | refine uK ?_ | refine uL ?_ | refine uM ?_ | (refine uS ?_; clear HX; intro w HX) | (refine uA ?_; clear HX; (first | (have hq := b; clear hq; intro w b2 HX) | intro w b HX)) | (refine tWN ?_; clear HX; intro w mm HX; simp only [Act.put, k_a, k_b, k_c]) | (refine tWP ?_; clear HX; intro w av nv cv HX; simp only [Act.put, k_a, k_b, k_c]))
        go_ret
        exact ⟨rfl, HX.out.below⟩
      | false =>
        have HLO := Lib.hid (long_len hbl)
        clear hbl
        by_cases ho0 : op = 0
        · subst ho0
          obtain ⟨⟨⟨rn, rz, re, ra, rrs⟩, S2⟩, hloc⟩ : ∃ m, localS S sess id ops = m := ⟨_, rfl⟩
          have HN := Lib.hid (show actsS (l0.take (i + 1)) (newP 60) = S2 by rw [HNX.out, act0 rfl]; exact congrArg Prod.snd hloc)
          have h2 := local_c HC.out.1 sess id ops
          have h3 := local_i HC.out.2.1 sess id ops
          rw [hloc] at h2 h3
          have HCI := Lib.hid (show PartC 41 S2 ∧ IdsW S2 from ⟨h2, h3⟩)
          clear h2 h3
          go_wp2_with (first | go_skip | refine uK ?_ | refine uL ?_ | refine uM ?_ | (refine uS ?_; clear HX; intro w HX) | (refine uA ?_; clear HX; (first | (have hq := b; clear hq; intro w b2 HX) | intro w b HX)) | (refine tWN ?_; clear HX; intro w mm HX; simp only [Act.put, k_a, k_b, k_c]) | (refine tWP ?_; clear HX; intro w av nv cv HX; simp only [Act.put, k_a, k_b, k_c]))
          have hm := local_any HX.out hd HC.out.1.b (by omega) sess id ops _ k_s (fun o ho => by have := HLO.out.2 o ho; omega)
          rw [hloc] at hm
          refine hm.mono ?_
          clear hm
          rintro e w ⟨_, P3, rfl, hP3, ⟨a3, n3, c3, xs3, rfl, -⟩, hx⟩
          clear HX
          have HX := Lib.hid hx
          clear hx
          have HP3 := Lib.hid (show _ ∧ _ from ⟨hP3 _ (k_n _ HP.out), hP3 _ k_s⟩)
          clear hP3
          dsimp only at HX ⊢
          go_wp2_with (first | go_skip | refine uK ?_ | refine uL ?_ | refine uM ?_ | (refine uS ?_; clear HX; intro w HX) | (refine uA ?_; clear HX; (first | (have hq := b; clear hq; intro w b2 HX) | intro w b HX)) | (refine tWN ?_; clear HX; intro w mm HX; simp only [Act.put, k_a, k_b, k_c]) | (refine tWP ?_; clear HX; intro w av nv cv HX; simp only [Act.put, k_a, k_b, k_c]))
          refine (waiting_any HX.out HCI.out.2 (by have := HCI.out.1.b.many; omega)).mono ?_
          rintro e w ⟨vw, P4, rfl, hP4, hvw, hx⟩
          obtain ⟨E, hE⟩ := hx.poolGet hvw
          obtain ⟨wa, wn, wc, rfl, hwl, -⟩ := ReadRow.some hE
          rw [List.length_map, waits_len, Nat.mul_one] at hwl
          clear HX
          have HX := Lib.hid hx
          clear hx
          have HP4 := Lib.hid (hP4 _ HP3.out.1)
          clear hP4 hvw hE
          by_cases hw0 : S2.wait = []
          case pos =>
            obtain rfl : wn = 0 := by rw [hw0] at hwl; simpa using hwl.symm
            have HH := Lib.hid (held_none HCI.out.1.h hw0)
            clear hw0 hwl
            go_wp2_with (first | go_skip | refine uK ?_ | refine uL ?_ | refine uM ?_ | (refine uS ?_; clear HX; intro w HX) | (refine uA ?_; clear HX; (first | (have hq := b; clear hq; intro w b2 HX) | intro w b HX)) | (refine tWN ?_; clear HX; intro w mm HX; simp only [Act.put, k_a, k_b, k_c]) | (refine tWP ?_; clear HX; intro w av nv cv HX; simp only [Act.put, k_a, k_b, k_c]))
            refine (plocks_any HX.out.up1).mono ?_
            rw [HH.out.1]
            rintro e w ⟨rfl, hx⟩
            have hx := hx.up1
            clear HX
            have HX := Lib.hid hx
            clear hx
            go_wp2_with (first | go_skip | refine uK ?_ | refine uL ?_ | refine uM ?_ | (refine uS ?_; clear HX; intro w HX) | (refine uA ?_; clear HX; (first | (have hq := b; clear hq; intro w b2 HX) | intro w b HX)) | (refine tWN ?_; clear HX; intro w mm HX; simp only [Act.put, k_a, k_b, k_c]) | (refine tWP ?_; clear HX; intro w av nv cv HX; simp only [Act.put, k_a, k_b, k_c]))
            refine (wanted_any HX.out (by rw [HH.out.2]; omega) (fun e he => by have := (HCI.out.1.b.wait e he).1; omega)).mono ?_
            rw [HH.out.2]
            rintro e w ⟨rfl, hx⟩
            clear HX
            have HX := Lib.hid hx
            clear hx
            go_wp2_with (first | go_skip | refine uK ?_ | refine uL ?_ | refine uM ?_ | (refine uS ?_; clear HX; intro w HX) | (refine uA ?_; clear HX; (first | (have hq := b; clear hq; intro w b2 HX) | intro w b HX)) | (refine tWN ?_; clear HX; intro w mm HX; simp only [Act.put, k_a, k_b, k_c]) | (refine tWP ?_; clear HX; intro w av nv cv HX; simp only [Act.put, k_a, k_b, k_c]))
            go_roundg (l0.length - (i + 1))
            case rel => exact ⟨i + 1, _, by omega, by go_num, HP4.out, by rw [HN.out]; exact sep_two HX.out⟩
            case measure => omega
          case neg =>
            have q3 : ((wn : Int) == 0) = false := by
              rw [beq_eq_false_iff_ne]
              intro e
              exact hw0 (List.eq_nil_of_length_eq_zero (by omega))
            have q4 : (wn == 0) = false := by
              rw [beq_eq_false_iff_ne]
              intro e
              exact hw0 (List.eq_nil_of_length_eq_zero (by omega))
            clear hw0 hwl
            go_wp2_with (first | go_skip | refine uK ?_ | refine uL ?_ | refine uM ?_ | (refine uS ?_; clear HX; intro w HX) | (refine uA ?_; clear HX; (first | (have hq := b; clear hq; intro w b2 HX) | intro w b HX)) | (refine tWN ?_; clear HX; intro w mm HX; simp only [Act.put, k_a, k_b, k_c]) | (refine tWP ?_; clear HX; intro w av nv cv HX; simp only [Act.put, k_a, k_b, k_c]))
            go_roundg (l0.length - (i + 1))
            case rel => exact ⟨i + 1, _, by omega, by go_num, HP4.out, by rw [HN.out]; exact sep_two HX.out⟩
            case measure => omega
        by_cases ho1 : op = 1
        · subst ho1
          obtain ⟨⟨⟨pe, pa⟩, S2⟩, hprp⟩ : ∃ m, prepS S id sess ops = m := ⟨_, rfl⟩
          have HN := Lib.hid (show actsS (l0.take (i + 1)) (newP 60) = S2 by rw [HNX.out, act1 rfl]; exact congrArg Prod.snd hprp)
          have h2 := prep_c HC.out.1 id sess ops
          have h3 := prep_i HC.out.2.1 HC.out.2.2 sess ops
          rw [hprp] at h2 h3
          have HCI := Lib.hid (show PartC 41 S2 ∧ IdsW S2 from ⟨h2, h3⟩)
          clear h2 h3
          go_wp2_with (first | go_skip | refine uK ?_ | refine uL ?_ | refine uM ?_ | (refine uS ?_; clear HX; intro w HX) | (refine uA ?_; clear HX; (first | (have hq := b; clear hq; intro w b2 HX) | intro w b HX)) | (refine tWN ?_; clear HX; intro w mm HX; simp only [Act.put, k_a, k_b, k_c]) | (refine tWP ?_; clear HX; intro w av nv cv HX; simp only [Act.put, k_a, k_b, k_c]))
          have hm := prep_any HX.out hd HC.out.1.b (by omega) id sess ops _ k_s (fun o ho => by have := HLO.out.2 o ho; omega)
          rw [hprp] at hm
          refine hm.mono ?_
          clear hm
          rintro e w ⟨P3, rfl, hP3, hx⟩
          clear HX
          have HX := Lib.hid hx
          clear hx
          have HP3 := Lib.hid (show _ ∧ _ from ⟨hP3 _ (k_n _ HP.out), hP3 _ k_s⟩)
          clear hP3
          dsimp only at HX ⊢
          go_wp2_with (first | go_skip | refine uK ?_ | refine uL ?_ | refine uM ?_ | (refine uS ?_; clear HX; intro w HX) | (refine uA ?_; clear HX; (first | (have hq := b; clear hq; intro w b2 HX) | intro w b HX)) | (refine tWN ?_; clear HX; intro w mm HX; simp only [Act.put, k_a, k_b, k_c]) | (refine tWP ?_; clear HX; intro w av nv cv HX; simp only [Act.put, k_a, k_b, k_c]))
          refine (waiting_any HX.out HCI.out.2 (by have := HCI.out.1.b.many; omega)).mono ?_
          rintro e w ⟨vw, P4, rfl, hP4, hvw, hx⟩
          obtain ⟨E, hE⟩ := hx.poolGet hvw
          obtain ⟨wa, wn, wc, rfl, hwl, -⟩ := ReadRow.some hE
          rw [List.length_map, waits_len, Nat.mul_one] at hwl
          clear HX
          have HX := Lib.hid hx
          clear hx
          have HP4 := Lib.hid (hP4 _ HP3.out.1)
          clear hP4 hvw hE
          by_cases hw0 : S2.wait = []
          case pos =>
            obtain rfl : wn = 0 := by rw [hw0] at hwl; simpa using hwl.symm
            have HH := Lib.hid (held_none HCI.out.1.h hw0)
            clear hw0 hwl
            go_wp2_with (first | go_skip | refine uK ?_ | refine uL ?_ | refine uM ?_ | (refine uS ?_; clear HX; intro w HX) | (refine uA ?_; clear HX; (first | (have hq := b; clear hq; intro w b2 HX) | intro w b HX)) | (refine tWN ?_; clear HX; intro w mm HX; simp only [Act.put, k_a, k_b, k_c]) | (refine tWP ?_; clear HX; intro w av nv cv HX; simp only [Act.put, k_a, k_b, k_c]))
            refine (plocks_any HX.out.up1).mono ?_
            rw [HH.out.1]
            rintro e w ⟨rfl, hx⟩
            have hx := hx.up1
            clear HX
            have HX := Lib.hid hx
            clear hx
            go_wp2_with (first | go_skip | refine uK ?_ | refine uL ?_ | refine uM ?_ | (refine uS ?_; clear HX; intro w HX) | (refine uA ?_; clear HX; (first | (have hq := b; clear hq; intro w b2 HX) | intro w b HX)) | (refine tWN ?_; clear HX; intro w mm HX; simp only [Act.put, k_a, k_b, k_c]) | (refine tWP ?_; clear HX; intro w av nv cv HX; simp only [Act.put, k_a, k_b, k_c]))
            refine (wanted_any HX.out (by rw [HH.out.2]; omega) (fun e he => by have := (HCI.out.1.b.wait e he).1; omega)).mono ?_
            rw [HH.out.2]
            rintro e w ⟨rfl, hx⟩
            clear HX
            have HX := Lib.hid hx
            clear hx
            go_wp2_with (first | go_skip | refine uK ?_ | refine uL ?_ | refine uM ?_ | (refine uS ?_; clear HX; intro w HX) | (refine uA ?_; clear HX; (first | (have hq := b; clear hq; intro w b2 HX) | intro w b HX)) | (refine tWN ?_; clear HX; intro w mm HX; simp only [Act.put, k_a, k_b, k_c]) | (refine tWP ?_; clear HX; intro w av nv cv HX; simp only [Act.put, k_a, k_b, k_c]))
            go_roundg (l0.length - (i + 1))
            case rel => exact ⟨i + 1, _, by omega, by go_num, HP4.out, by rw [HN.out]; exact sep_two HX.out⟩
            case measure => omega
          case neg =>
            have q3 : ((wn : Int) == 0) = false := by
              rw [beq_eq_false_iff_ne]
              intro e
              exact hw0 (List.eq_nil_of_length_eq_zero (by omega))
            have q4 : (wn == 0) = false := by
              rw [beq_eq_false_iff_ne]
              intro e
              exact hw0 (List.eq_nil_of_length_eq_zero (by omega))
            clear hw0 hwl
            go_wp2_with (first | go_skip | refine uK ?_ | refine uL ?_ | refine uM ?_ | (refine uS ?_; clear HX; intro w HX) | (refine uA ?_; clear HX; (first | (have hq := b; clear hq; intro w b2 HX) | intro w b HX)) | (refine tWN ?_; clear HX; intro w mm HX; simp only [Act.put, k_a, k_b, k_c]) | (refine tWP ?_; clear HX; intro w av nv cv HX; simp only [Act.put, k_a, k_b, k_c]))
            go_roundg (l0.length - (i + 1))
            case rel => exact ⟨i + 1, _, by omega, by go_num, HP4.out, by rw [HN.out]; exact sep_two HX.out⟩
            case measure => omega
        by_cases ho2 : op = 2
        · subst ho2
          obtain ⟨⟨ce, S2⟩, hclo⟩ : ∃ m, closeS S id sess = m := ⟨_, rfl⟩
          have HN := Lib.hid (show actsS (l0.take (i + 1)) (newP 60) = S2 by rw [HNX.out, act2 rfl]; exact congrArg Prod.snd hclo)
          have h2 := close_c HC.out.1 id sess
          have h3 := close_i HC.out.2.1 HC.out.2.2 sess
          rw [hclo] at h2 h3
          have HCI := Lib.hid (show PartC 41 S2 ∧ IdsW S2 from ⟨h2, h3⟩)
          clear h2 h3
          go_wp2_with (first | go_skip | refine uK ?_ | refine uL ?_ | refine uM ?_ | (refine uS ?_; clear HX; intro w HX) | (refine uA ?_; clear HX; (first | (have hq := b; clear hq; intro w b2 HX) | intro w b HX)) | (refine tWN ?_; clear HX; intro w mm HX; simp only [Act.put, k_a, k_b, k_c]) | (refine tWP ?_; clear HX; intro w av nv cv HX; simp only [Act.put, k_a, k_b, k_c]))
          have hm := close_any HX.out hd HC.out.1.b (by omega) id sess
          rw [hclo] at hm
          refine hm.mono ?_
          clear hm
          rintro e w ⟨P3, rfl, hP3, hx⟩
          clear HX
          have HX := Lib.hid hx
          clear hx
          have HP3 := Lib.hid (show _ ∧ _ from ⟨hP3 _ (k_n _ HP.out), hP3 _ k_s⟩)
          clear hP3
          dsimp only at HX ⊢
          go_wp2_with (first | go_skip | refine uK ?_ | refine uL ?_ | refine uM ?_ | (refine uS ?_; clear HX; intro w HX) | (refine uA ?_; clear HX; (first | (have hq := b; clear hq; intro w b2 HX) | intro w b HX)) | (refine tWN ?_; clear HX; intro w mm HX; simp only [Act.put, k_a, k_b, k_c]) | (refine tWP ?_; clear HX; intro w av nv cv HX; simp only [Act.put, k_a, k_b, k_c]))
          refine (waiting_any HX.out HCI.out.2 (by have := HCI.out.1.b.many; omega)).mono ?_
          rintro e w ⟨vw, P4, rfl, hP4, hvw, hx⟩
          obtain ⟨E, hE⟩ := hx.poolGet hvw
          obtain ⟨wa, wn, wc, rfl, hwl, -⟩ := ReadRow.some hE
          rw [List.length_map, waits_len, Nat.mul_one] at hwl
          clear HX
          have HX := Lib.hid hx
          clear hx
          have HP4 := Lib.hid (hP4 _ HP3.out.1)
          clear hP4 hvw hE
          by_cases hw0 : S2.wait = []
          case pos =>
            obtain rfl : wn = 0 := by rw [hw0] at hwl; simpa using hwl.symm
            have HH := Lib.hid (held_none HCI.out.1.h hw0)
            clear hw0 hwl
            go_wp2_with (first | go_skip | refine uK ?_ | refine uL ?_ | refine uM ?_ | (refine uS ?_; clear HX; intro w HX) | (refine uA ?_; clear HX; (first | (have hq := b; clear hq; intro w b2 HX) | intro w b HX)) | (refine tWN ?_; clear HX; intro w mm HX; simp only [Act.put, k_a, k_b, k_c]) | (refine tWP ?_; clear HX; intro w av nv cv HX; simp only [Act.put, k_a, k_b, k_c]))
            refine (plocks_any HX.out.up1).mono ?_
            rw [HH.out.1]
            rintro e w ⟨rfl, hx⟩
            have hx := hx.up1
            clear HX
            have HX := Lib.hid hx
            clear hx
            go_wp2_with (first | go_skip | refine uK ?_ | refine uL ?_ | refine uM ?_ | (refine uS ?_; clear HX; intro w HX) | (refine uA ?_; clear HX; (first | (have hq := b; clear hq; intro w b2 HX) | intro w b HX)) | (refine tWN ?_; clear HX; intro w mm HX; simp only [Act.put, k_a, k_b, k_c]) | (refine tWP ?_; clear HX; intro w av nv cv HX; simp only [Act.put, k_a, k_b, k_c]))
            refine (wanted_any HX.out (by rw [HH.out.2]; omega) (fun e he => by have := (HCI.out.1.b.wait e he).1; omega)).mono ?_
            rw [HH.out.2]
            rintro e w ⟨rfl, hx⟩
            clear HX
            have HX := Lib.hid hx
            clear hx
            go_wp2_with (first | go_skip | refine uK ?_ | refine uL ?_ | refine uM ?_ | (refine uS ?_; clear HX; intro w HX) | (refine uA ?_; clear HX; (first | (have hq := b; clear hq; intro w b2 HX) | intro w b HX)) | (refine tWN ?_; clear HX; intro w mm HX; simp only [Act.put, k_a, k_b, k_c]) | (refine tWP ?_; clear HX; intro w av nv cv HX; simp only [Act.put, k_a, k_b, k_c]))
            go_roundg (l0.length - (i + 1))
            case rel => exact ⟨i + 1, _, by omega, by go_num, HP4.out, by rw [HN.out]; exact sep_two HX.out⟩
            case measure => omega
          case neg =>
            have q3 : ((wn : Int) == 0) = false := by
              rw [beq_eq_false_iff_ne]
              intro e
              exact hw0 (List.eq_nil_of_length_eq_zero (by omega))
            have q4 : (wn == 0) = false := by
              rw [beq_eq_false_iff_ne]
              intro e
              exact hw0 (List.eq_nil_of_length_eq_zero (by omega))
            clear hw0 hwl
            go_wp2_with (first | go_skip | refine uK ?_ | refine uL ?_ | refine uM ?_ | (refine uS ?_; clear HX; intro w HX) | (refine uA ?_; clear HX; (first | (have hq := b; clear hq; intro w b2 HX) | intro w b HX)) | (refine tWN ?_; clear HX; intro w mm HX; simp only [Act.put, k_a, k_b, k_c]) | (refine tWP ?_; clear HX; intro w av nv cv HX; simp only [Act.put, k_a, k_b, k_c]))
            go_roundg (l0.length - (i + 1))
            case rel => exact ⟨i + 1, _, by omega, by go_num, HP4.out, by rw [HN.out]; exact sep_two HX.out⟩
            case measure => omega
        · have q5 : (op == 0) = false := by rw [beq_eq_false_iff_ne]; exact ho0
          have q6 : (op == 1) = false := by rw [beq_eq_false_iff_ne]; exact ho1
          have q7 : (op == 2) = false := by rw [beq_eq_false_iff_ne]; exact ho2
          obtain ⟨⟨⟨drs, de⟩, S2⟩, hdec⟩ : ∃ m, decideS S id yes = m := ⟨_, rfl⟩
          have HN := Lib.hid (show actsS (l0.take (i + 1)) (newP 60) = S2 by rw [HNX.out, act3 ho0 ho1 ho2]; exact congrArg Prod.snd hdec)
          have h2 := decide_c HC.out.1 id yes
          have h3 := decide_i HC.out.2.1 id yes
          rw [hdec] at h2 h3
          have HCI := Lib.hid (show PartC 41 S2 ∧ IdsW S2 from ⟨h2, h3⟩)
          clear h2 h3
          go_wp2_with (first | go_skip | refine uK ?_ | refine uL ?_ | refine uM ?_ | (refine uS ?_; clear HX; intro w HX) | (refine uA ?_; clear HX; (first | (have hq := b; clear hq; intro w b2 HX) | intro w b HX)) | (refine tWN ?_; clear HX; intro w mm HX; simp only [Act.put, k_a, k_b, k_c]) | (refine tWP ?_; clear HX; intro w av nv cv HX; simp only [Act.put, k_a, k_b, k_c]))
          have hm := decide_any HX.out hd HC.out.1.b (by have := HC.out.1.len; omega) (by omega) id yes
          rw [hdec] at hm
          refine hm.mono ?_
          clear hm
          rintro e w ⟨P3, a3, n3, c3, xs3, rfl, hP3, -, -, hx⟩
          clear HX
          have HX := Lib.hid hx
          clear hx
          have HP3 := Lib.hid (show _ ∧ _ from ⟨hP3 _ (k_n _ HP.out), hP3 _ k_s⟩)
          clear hP3
          dsimp only at HX ⊢
          go_wp2_with (first | go_skip | refine uK ?_ | refine uL ?_ | refine uM ?_ | (refine uS ?_; clear HX; intro w HX) | (refine uA ?_; clear HX; (first | (have hq := b; clear hq; intro w b2 HX) | intro w b HX)) | (refine tWN ?_; clear HX; intro w mm HX; simp only [Act.put, k_a, k_b, k_c]) | (refine tWP ?_; clear HX; intro w av nv cv HX; simp only [Act.put, k_a, k_b, k_c]))
          refine (waiting_any HX.out HCI.out.2 (by have := HCI.out.1.b.many; omega)).mono ?_
          rintro e w ⟨vw, P4, rfl, hP4, hvw, hx⟩
          obtain ⟨E, hE⟩ := hx.poolGet hvw
          obtain ⟨wa, wn, wc, rfl, hwl, -⟩ := ReadRow.some hE
          rw [List.length_map, waits_len, Nat.mul_one] at hwl
          clear HX
          have HX := Lib.hid hx
          clear hx
          have HP4 := Lib.hid (hP4 _ HP3.out.1)
          clear hP4 hvw hE
          by_cases hw0 : S2.wait = []
          case pos =>
            obtain rfl : wn = 0 := by rw [hw0] at hwl; simpa using hwl.symm
            have HH := Lib.hid (held_none HCI.out.1.h hw0)
            clear hw0 hwl
            go_wp2_with (first | go_skip | refine uK ?_ | refine uL ?_ | refine uM ?_ | (refine uS ?_; clear HX; intro w HX) | (refine uA ?_; clear HX; (first | (have hq := b; clear hq; intro w b2 HX) | intro w b HX)) | (refine tWN ?_; clear HX; intro w mm HX; simp only [Act.put, k_a, k_b, k_c]) | (refine tWP ?_; clear HX; intro w av nv cv HX; simp only [Act.put, k_a, k_b, k_c]))
            refine (plocks_any HX.out.up1).mono ?_
            rw [HH.out.1]
            rintro e w ⟨rfl, hx⟩
            have hx := hx.up1
            clear HX
            have HX := Lib.hid hx
            clear hx
            go_wp2_with (first | go_skip | refine uK ?_ | refine uL ?_ | refine uM ?_ | (refine uS ?_; clear HX; intro w HX) | (refine uA ?_; clear HX; (first | (have hq := b; clear hq; intro w b2 HX) | intro w b HX)) | (refine tWN ?_; clear HX; intro w mm HX; simp only [Act.put, k_a, k_b, k_c]) | (refine tWP ?_; clear HX; intro w av nv cv HX; simp only [Act.put, k_a, k_b, k_c]))
            refine (wanted_any HX.out (by rw [HH.out.2]; omega) (fun e he => by have := (HCI.out.1.b.wait e he).1; omega)).mono ?_
            rw [HH.out.2]
            rintro e w ⟨rfl, hx⟩
            clear HX
            have HX := Lib.hid hx
            clear hx
            go_wp2_with (first | go_skip | refine uK ?_ | refine uL ?_ | refine uM ?_ | (refine uS ?_; clear HX; intro w HX) | (refine uA ?_; clear HX; (first | (have hq := b; clear hq; intro w b2 HX) | intro w b HX)) | (refine tWN ?_; clear HX; intro w mm HX; simp only [Act.put, k_a, k_b, k_c]) | (refine tWP ?_; clear HX; intro w av nv cv HX; simp only [Act.put, k_a, k_b, k_c]))
            go_roundg (l0.length - (i + 1))
            case rel => exact ⟨i + 1, _, by omega, by go_num, HP4.out, by rw [HN.out]; exact sep_two HX.out⟩
            case measure => omega
          case neg =>
            have q3 : ((wn : Int) == 0) = false := by
              rw [beq_eq_false_iff_ne]
              intro e
              exact hw0 (List.eq_nil_of_length_eq_zero (by omega))
            have q4 : (wn == 0) = false := by
              rw [beq_eq_false_iff_ne]
              intro e
              exact hw0 (List.eq_nil_of_length_eq_zero (by omega))
            clear hw0 hwl
            go_wp2_with (first | go_skip | refine uK ?_ | refine uL ?_ | refine uM ?_ | (refine uS ?_; clear HX; intro w HX) | (refine uA ?_; clear HX; (first | (have hq := b; clear hq; intro w b2 HX) | intro w b HX)) | (refine tWN ?_; clear HX; intro w mm HX; simp only [Act.put, k_a, k_b, k_c]) | (refine tWP ?_; clear HX; intro w av nv cv HX; simp only [Act.put, k_a, k_b, k_c]))
            go_roundg (l0.length - (i + 1))
            case rel => exact ⟨i + 1, _, by omega, by go_num, HP4.out, by rw [HN.out]; exact sep_two HX.out⟩
            case measure => omega
end
end Go.Proofs.YtbakgoncfggidaaGreatDoor

namespace Go.Proofs.YtbakgoncfggidaaGreatDoor
open Go.RowKit Go.Av
section
variable {W : World}
def ZxRel (W : World) (l : List PAct) (r : PRow) (b k : Nat) (v : Value) (w : World) : Prop :=
  ∃ (i : Nat) (P' : List PRow), i + k = l.length ∧ v = .int .i64 (i : Int) ∧ r ∈ P' ∧ Sep W w [ThPool W P', ThPart b (actsS (l.take i) (newP 60)) P'] []
set_option maxRecDepth 100000 in
set_option maxHeartbeats 16000000 in
theorem partZxids_walk (a0 : Option Addr) (len0 cap0 : Nat) (l0 : List PAct) (W : World) (hd : DoorN W) (h0 : IsPActs W a0 len0 cap0 l0) :
    Calls Tryz.prog 4 #[.slice a0 len0 cap0] W fun e w' => e = .returned (.bool true) ∧ Below W.heap.size W w' := by
  obtain ⟨E0, r0⟩ := h0.row
  obtain rfl : l0.length = len0 := h0.1
  have HR := Lib.hid r0
  have HO := Lib.hid h0.2.2.2.2.2
  clear h0 r0
  by_cases h20 : 30 < l0.length
  · have q1 : decide (30 < l0.length) = true := decide_eq_true h20
    have q2 : decide (30 < (l0.length : Int)) = true := decide_eq_true (by omega)
    go_enter Tryz.func4, Tryz.ntmps4
    go_wp2_with fail
    refine (awake_any hd).mono ?_
    rintro e w ⟨rfl, hu⟩
    have HX := Lib.hid (((Sep.start W).keep hu).poolNew.poolOld HR.out)
    clear hu
    go_wp2_with (first | go_skip | refine uK ?_ | refine uL ?_ | refine uM ?_ | (refine uS ?_; clear HX; intro w HX) | (refine uA ?_; clear HX; (first | (have hq := b; clear hq; intro w b2 HX) | intro w b HX)) | (refine tWN ?_; clear HX; intro w mm HX; simp only [Act.put, k_a, k_b, k_c]) | (refine tWP ?_; clear HX; intro w av nv cv HX; simp only [Act.put, k_a, k_b, k_c]))
    go_ret
    exact ⟨rfl, HX.out.below⟩
  have q1 : decide (30 < l0.length) = false := decide_eq_false h20
  have q2 : decide (30 < (l0.length : Int)) = false := decide_eq_false (by omega)
  have HL := Lib.hid (show l0.length ≤ 30 by omega)
  go_enter Tryz.func4, Tryz.ntmps4
  go_wp2_with fail
  refine (awake_any hd).mono ?_
  rintro e w ⟨rfl, hu⟩
  have HX := Lib.hid (((Sep.start W).keep hu).poolNew.poolOld HR.out)
  clear hu
  go_wp2_with (first | go_skip | refine uK ?_ | refine uL ?_ | refine uM ?_ | (refine uS ?_; clear HX; intro w HX) | (refine uA ?_; clear HX; (first | (have hq := b; clear hq; intro w b2 HX) | intro w b HX)) | (refine tWN ?_; clear HX; intro w mm HX; simp only [Act.put, k_a, k_b, k_c]) | (refine tWP ?_; clear HX; intro w av nv cv HX; simp only [Act.put, k_a, k_b, k_c]))
  clear h20 q1 q2
  refine (partnew_any HX.out 60 (by omega) (by omega)).mono ?_
  rintro e w1 ⟨b, rfl, hx⟩
  clear HX
  have HX := Lib.hid hx
  clear hx
  go_wp2_with (first | go_skip | refine uK ?_ | refine uL ?_ | refine uM ?_ | (refine uS ?_; clear HX; intro w HX) | (refine uA ?_; clear HX; (first | (have hq := b; clear hq; intro w b2 HX) | intro w b HX)) | (refine tWN ?_; clear HX; intro w mm HX; simp only [Act.put, k_a, k_b, k_c]) | (refine tWP ?_; clear HX; intro w av nv cv HX; simp only [Act.put, k_a, k_b, k_c]))
  have HST := Lib.hid (show ZxRel W l0 _ b l0.length (.int .i64 (0 : Int)) _ from ⟨0, _, by simp, rfl, k_s, HX.out⟩)
  clear HX
  go_loopg [5] l0.length (fun k v wr => ZxRel W l0 (5, .slice a0 l0.length cap0, l0.flatMap PAct.cells) b k v wr)
  case atStart => exact HST.out
  case round =>
    rename World => w
    obtain ⟨i, P1, hik, rfl, hP1, hS⟩ := hrel
    have HX := Lib.hid hS
    have HP := Lib.hid hP1
    clear hS hP1 HST
    by_cases hlt : i < l0.length
    case neg =>
      obtain rfl : i = l0.length := by omega
      clear hlt hik
      go_wp2_with (first | go_skip | refine uK ?_ | refine uL ?_ | refine uM ?_ | (refine uS ?_; clear HX; intro w HX) | (refine uA ?_; clear HX; (first | (have hq := b; clear hq; intro w b2 HX) | intro w b HX)) | (refine tWN ?_; clear HX; intro w mm HX; simp only [Act.put, k_a, k_b, k_c]) | (refine tWP ?_; clear HX; intro w av nv cv HX; simp only [Act.put, k_a, k_b, k_c]))
      go_ret
      exact ⟨rfl, HX.out.below⟩
    case pos =>
      have hC : PartC (0 + (l0.take i).length) (actsS (l0.take i) (newP 60)) := acts_c _ (newP_c 60 (by omega))
      have hI : IdsW (actsS (l0.take i) (newP 60)) := acts_i _ (fun e he => by cases he) (fun a ha => (HO.out a (List.mem_of_mem_take ha)).1)
      have hnx := acts_take l0 (newP 60) hlt
      have hpr := HO.out l0[i] (List.getElem_mem hlt)
      obtain ⟨E, hE⟩ := HX.out.poolGet HP.out
      obtain ⟨_, _, _, e, _, _, _, hne⟩ := ReadRow.some hE
      simp only [Value.slice.injEq] at e
      obtain ⟨rfl, rfl, rfl⟩ := e
      obtain ⟨g, off, rfl⟩ := hne (by intro e; have := congrArg List.length e; rw [flatG_len pact_len] at this; simp at this; omega)
      have hl := row_load (P := Tryz.prog) (f := PAct.cells) (i := i) hE pact_len sn_x3 hlt
      obtain ⟨a, ha⟩ : ∃ a, l0[i] = a := ⟨_, rfl⟩
      obtain ⟨S, hSS⟩ : ∃ S, actsS (l0.take i) (newP 60) = S := ⟨_, rfl⟩
      rw [ha] at hpr hnx hl
      rw [hSS] at HX hC hnx hI
      obtain ⟨hid, E2, hE2⟩ := hpr
      have hx := pt_old HX.out hE2
      obtain ⟨op, id, sess, av, yes, ops⟩ := a
      dsimp only at hx hE2 hnx hid
      obtain ⟨oa, on, oc, rfl, -⟩ := _root_.id hE2
      simp only [PAct.cells] at hl
      clear HX
      have HX := Lib.hid hx
      clear hx
      have HC := Lib.hid (show _ ∧ _ ∧ _ from ⟨hC.mono (K' := 40) (by rw [List.length_take]; have := HL.out; omega), hI, hid⟩)
      have HNX := Lib.hid hnx
      have q0 : decide (i < l0.length) = true := decide_eq_true hlt
      have q9 : i ≤ 30 := by have := HL.out; omega
      clear hE hC hI hnx hSS ha hne hE2 hid
      go_wp2_with (first | go_skip | refine uK ?_ | refine uL ?_ | refine uM ?_ | (refine uS ?_; clear HX; intro w HX) | (refine uA ?_; clear HX; (first | (have hq := b; clear hq; intro w b2 HX) | intro w b HX)) | (refine tWN ?_; clear HX; intro w mm HX; simp only [Act.put, k_a, k_b, k_c]) | (refine tWP ?_; clear HX; intro w av nv cv HX; simp only [Act.put, k_a, k_b, k_c]) | ((with_reducible apply sx_loadAt hl); (· rfl); (· rfl); simp only [Act.put, k_a, k_b, k_c]))
      obtain ⟨bl, hbl⟩ : ∃ bl, longS ops = bl := ⟨_, rfl⟩
      have hlong := long_any HX.out.up1 ops _ k_s
      rw [hbl] at hlong
      refine hlong.mono ?_
      clear hlong hl
      rintro e w ⟨rfl, hx⟩
      have hx := hx.up2.up1
      clear HX
      have HX := Lib.hid hx
      clear hx
      cases bl with
      | true =>
        go_wp2_with (first | go_skip | refine uK ?_ | refine uL ?_ | refine uM ?_ | (refine uS ?_; clear HX; intro w HX) | (refine uA ?_; clear HX; (first | (have hq := b; clear hq; intro w b2 HX) | intro w b HX)) | (refine tWN ?_; clear HX; intro w mm HX; simp only [Act.put, k_a, k_b, k_c]) | (refine tWP ?_; clear HX; intro w av nv cv HX; simp only [Act.put, k_a, k_b, k_c]))
        go_ret
        exact ⟨rfl, HX.out.below⟩
      | false =>
        have HLO := Lib.hid (long_len hbl)
        have hzb := HC.out.1.b.zx
        clear hbl
        go_wp2_with (first | go_skip | refine uK ?_ | refine uL ?_ | refine uM ?_ | (refine uS ?_; clear HX; intro w HX) | (refine uA ?_; clear HX; (first | (have hq := b; clear hq; intro w b2 HX) | intro w b HX)) | (refine tWN ?_; clear HX; intro w mm HX; simp only [Act.put, k_a, k_b, k_c]) | (refine tWP ?_; clear HX; intro w av nv cv HX; simp only [Act.put, k_a, k_b, k_c]))
        refine (zxid_any HX.out.up1).mono ?_
        rintro e w ⟨rfl, hx⟩
        have hx := hx.up1
        clear HX
        have HX := Lib.hid hx
        clear hx
        by_cases ho0 : op = 0
        · subst ho0
          obtain ⟨⟨⟨rn, rz, re, ra, rrs⟩, S2⟩, hloc⟩ : ∃ m, localS S sess id ops = m := ⟨_, rfl⟩
          have HN := Lib.hid (show actsS (l0.take (i + 1)) (newP 60) = S2 by rw [HNX.out, act0 rfl]; exact congrArg Prod.snd hloc)
          have h2 := local_c HC.out.1 sess id ops
          have h3 := local_i HC.out.2.1 sess id ops
          rw [hloc] at h2 h3
          have HCI := Lib.hid (show PartC 41 S2 ∧ IdsW S2 from ⟨h2, h3⟩)
          clear h2 h3
          have hz := local_z S sess id ops
          obtain ⟨me, hme⟩ : ∃ me, mayS sess id ops = me := ⟨_, rfl⟩
          rw [hme, hloc] at hz
          dsimp only at hz
          have HME := Lib.hid hme
          clear hme
          go_wp2_with (first | go_skip | refine uK ?_ | refine uL ?_ | refine uM ?_ | (refine uS ?_; clear HX; intro w HX) | (refine uA ?_; clear HX; (first | (have hq := b; clear hq; intro w b2 HX) | intro w b HX)) | (refine tWN ?_; clear HX; intro w mm HX; simp only [Act.put, k_a, k_b, k_c]) | (refine tWP ?_; clear HX; intro w av nv cv HX; simp only [Act.put, k_a, k_b, k_c]))
          have h9 := HX.out.up2.up2
          clear HX
          have HX := Lib.hid h9
          clear h9
          have hm := local_any HX.out hd HC.out.1.b (by omega) sess id ops _ k_s (fun o ho => by have := HLO.out.2 o ho; omega)
          rw [hloc] at hm
          refine hm.mono ?_
          clear hm
          rintro e w ⟨_, P3, rfl, hP3, ⟨a3, n3, c3, xs3, rfl, -⟩, hx⟩
          clear HX
          have HX := Lib.hid hx
          clear hx
          have HP3 := Lib.hid (show _ ∧ _ from ⟨hP3 _ (k_n _ HP.out), hP3 _ k_s⟩)
          clear hP3
          dsimp only at HX ⊢
          go_wp2_with (first | go_skip | refine uK ?_ | refine uL ?_ | refine uM ?_ | (refine uS ?_; clear HX; intro w HX) | (refine uA ?_; clear HX; (first | (have hq := b; clear hq; intro w b2 HX) | intro w b HX)) | (refine tWN ?_; clear HX; intro w mm HX; simp only [Act.put, k_a, k_b, k_c]) | (refine tWP ?_; clear HX; intro w av nv cv HX; simp only [Act.put, k_a, k_b, k_c]))
          refine (may_any HX.out.up1 hd sess id ops _ HP3.out.2 (fun o ho => by have := HLO.out.2 o ho; omega)).mono ?_
          rw [HME.out]
          rintro e w ⟨rfl, hx⟩
          clear HX
          have HX := Lib.hid hx
          clear hx
          by_cases h0 : me = 0
          case neg =>
            have q1 : (me != 0) = true := by rw [bne_iff_ne]; exact h0
            have q2 : (me == 0) = false := by rw [beq_eq_false_iff_ne]; exact h0
            obtain ⟨hz1, rfl⟩ := hz.1 h0
            have HZ1 := Lib.hid hz1
            clear h0 hz hz1
            go_wp2_with (first | go_skip | refine uK ?_ | refine uL ?_ | refine uM ?_ | (refine uS ?_; clear HX; intro w HX) | (refine uA ?_; clear HX; (first | (have hq := b; clear hq; intro w b2 HX) | intro w b HX)) | (refine tWN ?_; clear HX; intro w mm HX; simp only [Act.put, k_a, k_b, k_c]) | (refine tWP ?_; clear HX; intro w av nv cv HX; simp only [Act.put, k_a, k_b, k_c]))
            refine (may_any HX.out hd sess id ops _ HP3.out.2 (fun o ho => by have := HLO.out.2 o ho; omega)).mono ?_
            rw [HME.out]
            rintro e w ⟨rfl, hx⟩
            clear HX
            have HX := Lib.hid hx
            clear hx
            go_wp2_with (first | go_skip | refine uK ?_ | refine uL ?_ | refine uM ?_ | (refine uS ?_; clear HX; intro w HX) | (refine uA ?_; clear HX; (first | (have hq := b; clear hq; intro w b2 HX) | intro w b HX)) | (refine tWN ?_; clear HX; intro w mm HX; simp only [Act.put, k_a, k_b, k_c]) | (refine tWP ?_; clear HX; intro w av nv cv HX; simp only [Act.put, k_a, k_b, k_c]))
            refine (zxid_any HX.out.up2).mono ?_
            rw [HZ1.out]
            rintro e w ⟨rfl, hx⟩
            have hx := hx.up1
            clear HX
            have HX := Lib.hid hx
            clear hx
            have q3 : (S.zxid != S.zxid) = false := by simp
            go_wp2_with (first | go_skip | refine uK ?_ | refine uL ?_ | refine uM ?_ | (refine uS ?_; clear HX; intro w HX) | (refine uA ?_; clear HX; (first | (have hq := b; clear hq; intro w b2 HX) | intro w b HX)) | (refine tWN ?_; clear HX; intro w mm HX; simp only [Act.put, k_a, k_b, k_c]) | (refine tWP ?_; clear HX; intro w av nv cv HX; simp only [Act.put, k_a, k_b, k_c]))
            go_roundg (l0.length - (i + 1))
            case rel => exact ⟨i + 1, _, by omega, by go_num, HP3.out.1, by rw [HN.out]; exact sep_two HX.out⟩
            case measure => omega
          case pos =>
            subst h0
            obtain ⟨hz1, hz2⟩ := hz.2 rfl
            have HZ1 := Lib.hid hz1
            have q3 : IntKind.i64.wrap (S.zxid + 1) = S.zxid + 1 := IntWalk.i64_in _ (by omega)
            have q4 : ((S.zxid + 1) != (S.zxid + 1)) = false := by simp
            clear hz hz1
            go_wp2_with (first | go_skip | refine uK ?_ | refine uL ?_ | refine uM ?_ | (refine uS ?_; clear HX; intro w HX) | (refine uA ?_; clear HX; (first | (have hq := b; clear hq; intro w b2 HX) | intro w b HX)) | (refine tWN ?_; clear HX; intro w mm HX; simp only [Act.put, k_a, k_b, k_c]) | (refine tWP ?_; clear HX; intro w av nv cv HX; simp only [Act.put, k_a, k_b, k_c]))
            refine (zxid_any HX.out.up2).mono ?_
            rw [HZ1.out]
            rintro e w ⟨rfl, hx⟩
            have hx := hx.up1
            clear HX
            have HX := Lib.hid hx
            clear hx
            subst hz2
            go_wp2_with (first | go_skip | refine uK ?_ | refine uL ?_ | refine uM ?_ | (refine uS ?_; clear HX; intro w HX) | (refine uA ?_; clear HX; (first | (have hq := b; clear hq; intro w b2 HX) | intro w b HX)) | (refine tWN ?_; clear HX; intro w mm HX; simp only [Act.put, k_a, k_b, k_c]) | (refine tWP ?_; clear HX; intro w av nv cv HX; simp only [Act.put, k_a, k_b, k_c]))
            refine (may_any HX.out hd sess id ops _ HP3.out.2 (fun o ho => by have := HLO.out.2 o ho; omega)).mono ?_
            rw [HME.out]
            rintro e w ⟨rfl, hx⟩
            clear HX
            have HX := Lib.hid hx
            clear hx
            go_wp2_with (first | go_skip | refine uK ?_ | refine uL ?_ | refine uM ?_ | (refine uS ?_; clear HX; intro w HX) | (refine uA ?_; clear HX; (first | (have hq := b; clear hq; intro w b2 HX) | intro w b HX)) | (refine tWN ?_; clear HX; intro w mm HX; simp only [Act.put, k_a, k_b, k_c]) | (refine tWP ?_; clear HX; intro w av nv cv HX; simp only [Act.put, k_a, k_b, k_c]))
            go_roundg (l0.length - (i + 1))
            case rel => exact ⟨i + 1, _, by omega, by go_num, HP3.out.1, by rw [HN.out]; exact sep_two HX.out⟩
            case measure => omega
        by_cases ho1 : op = 1
        · subst ho1
          obtain ⟨⟨⟨pe, pa⟩, S2⟩, hprp⟩ : ∃ m, prepS S id sess ops = m := ⟨_, rfl⟩
          have HN := Lib.hid (show actsS (l0.take (i + 1)) (newP 60) = S2 by rw [HNX.out, act1 rfl]; exact congrArg Prod.snd hprp)
          have h2 := prep_c HC.out.1 id sess ops
          have h3 := prep_i HC.out.2.1 HC.out.2.2 sess ops
          rw [hprp] at h2 h3
          have HCI := Lib.hid (show PartC 41 S2 ∧ IdsW S2 from ⟨h2, h3⟩)
          clear h2 h3
          have hz := prep_z S id sess ops
          rw [hprp] at hz
          have HZ1 := Lib.hid hz
          clear hz
          go_wp2_with (first | go_skip | refine uK ?_ | refine uL ?_ | refine uM ?_ | (refine uS ?_; clear HX; intro w HX) | (refine uA ?_; clear HX; (first | (have hq := b; clear hq; intro w b2 HX) | intro w b HX)) | (refine tWN ?_; clear HX; intro w mm HX; simp only [Act.put, k_a, k_b, k_c]) | (refine tWP ?_; clear HX; intro w av nv cv HX; simp only [Act.put, k_a, k_b, k_c]))
          have hm := prep_any HX.out hd HC.out.1.b (by omega) id sess ops _ k_s (fun o ho => by have := HLO.out.2 o ho; omega)
          rw [hprp] at hm
          refine hm.mono ?_
          clear hm
          rintro e w ⟨P3, rfl, hP3, hx⟩
          clear HX
          have HX := Lib.hid hx
          clear hx
          have HP3 := Lib.hid (show _ ∧ _ from ⟨hP3 _ (k_n _ HP.out), hP3 _ k_s⟩)
          clear hP3
          dsimp only at HX ⊢
          go_wp2_with (first | go_skip | refine uK ?_ | refine uL ?_ | refine uM ?_ | (refine uS ?_; clear HX; intro w HX) | (refine uA ?_; clear HX; (first | (have hq := b; clear hq; intro w b2 HX) | intro w b HX)) | (refine tWN ?_; clear HX; intro w mm HX; simp only [Act.put, k_a, k_b, k_c]) | (refine tWP ?_; clear HX; intro w av nv cv HX; simp only [Act.put, k_a, k_b, k_c]))
          refine (zxid_any HX.out.up1).mono ?_
          rw [HZ1.out]
          rintro e w ⟨rfl, hx⟩
          have hx := hx.up1
          clear HX
          have HX := Lib.hid hx
          clear hx
          have q3 : (S.zxid != S.zxid) = false := by simp
          go_wp2_with (first | go_skip | refine uK ?_ | refine uL ?_ | refine uM ?_ | (refine uS ?_; clear HX; intro w HX) | (refine uA ?_; clear HX; (first | (have hq := b; clear hq; intro w b2 HX) | intro w b HX)) | (refine tWN ?_; clear HX; intro w mm HX; simp only [Act.put, k_a, k_b, k_c]) | (refine tWP ?_; clear HX; intro w av nv cv HX; simp only [Act.put, k_a, k_b, k_c]))
          go_roundg (l0.length - (i + 1))
          case rel => exact ⟨i + 1, _, by omega, by go_num, HP3.out.1, by rw [HN.out]; exact sep_two HX.out⟩
          case measure => omega
        by_cases ho2 : op = 2
        · subst ho2
          obtain ⟨⟨ce, S2⟩, hclo⟩ : ∃ m, closeS S id sess = m := ⟨_, rfl⟩
          have HN := Lib.hid (show actsS (l0.take (i + 1)) (newP 60) = S2 by rw [HNX.out, act2 rfl]; exact congrArg Prod.snd hclo)
          have h2 := close_c HC.out.1 id sess
          have h3 := close_i HC.out.2.1 HC.out.2.2 sess
          rw [hclo] at h2 h3
          have HCI := Lib.hid (show PartC 41 S2 ∧ IdsW S2 from ⟨h2, h3⟩)
          clear h2 h3
          have hz := close_z S id sess
          rw [hclo] at hz
          have HZ1 := Lib.hid hz
          clear hz
          go_wp2_with (first | go_skip | refine uK ?_ | refine uL ?_ | refine uM ?_ | (refine uS ?_; clear HX; intro w HX) | (refine uA ?_; clear HX; (first | (have hq := b; clear hq; intro w b2 HX) | intro w b HX)) | (refine tWN ?_; clear HX; intro w mm HX; simp only [Act.put, k_a, k_b, k_c]) | (refine tWP ?_; clear HX; intro w av nv cv HX; simp only [Act.put, k_a, k_b, k_c]))
          have hm := close_any HX.out hd HC.out.1.b (by omega) id sess
          rw [hclo] at hm
          refine hm.mono ?_
          clear hm
          rintro e w ⟨P3, rfl, hP3, hx⟩
          clear HX
          have HX := Lib.hid hx
          clear hx
          have HP3 := Lib.hid (show _ ∧ _ from ⟨hP3 _ (k_n _ HP.out), hP3 _ k_s⟩)
          clear hP3
          dsimp only at HX ⊢
          go_wp2_with (first | go_skip | refine uK ?_ | refine uL ?_ | refine uM ?_ | (refine uS ?_; clear HX; intro w HX) | (refine uA ?_; clear HX; (first | (have hq := b; clear hq; intro w b2 HX) | intro w b HX)) | (refine tWN ?_; clear HX; intro w mm HX; simp only [Act.put, k_a, k_b, k_c]) | (refine tWP ?_; clear HX; intro w av nv cv HX; simp only [Act.put, k_a, k_b, k_c]))
          refine (zxid_any HX.out.up1).mono ?_
          rw [HZ1.out]
          rintro e w ⟨rfl, hx⟩
          have hx := hx.up1
          clear HX
          have HX := Lib.hid hx
          clear hx
          have q3 : (S.zxid != S.zxid) = false := by simp
          go_wp2_with (first | go_skip | refine uK ?_ | refine uL ?_ | refine uM ?_ | (refine uS ?_; clear HX; intro w HX) | (refine uA ?_; clear HX; (first | (have hq := b; clear hq; intro w b2 HX) | intro w b HX)) | (refine tWN ?_; clear HX; intro w mm HX; simp only [Act.put, k_a, k_b, k_c]) | (refine tWP ?_; clear HX; intro w av nv cv HX; simp only [Act.put, k_a, k_b, k_c]))
          go_roundg (l0.length - (i + 1))
          case rel => exact ⟨i + 1, _, by omega, by go_num, HP3.out.1, by rw [HN.out]; exact sep_two HX.out⟩
          case measure => omega
        · have q5 : (op == 0) = false := by rw [beq_eq_false_iff_ne]; exact ho0
          have q6 : (op == 1) = false := by rw [beq_eq_false_iff_ne]; exact ho1
          have q7 : (op == 2) = false := by rw [beq_eq_false_iff_ne]; exact ho2
          obtain ⟨⟨⟨drs, de⟩, S2⟩, hdec⟩ : ∃ m, decideS S id yes = m := ⟨_, rfl⟩
          have HN := Lib.hid (show actsS (l0.take (i + 1)) (newP 60) = S2 by rw [HNX.out, act3 ho0 ho1 ho2]; exact congrArg Prod.snd hdec)
          have h2 := decide_c HC.out.1 id yes
          have h3 := decide_i HC.out.2.1 id yes
          rw [hdec] at h2 h3
          have HCI := Lib.hid (show PartC 41 S2 ∧ IdsW S2 from ⟨h2, h3⟩)
          clear h2 h3
          have hz := decide_z S id yes
          rw [hdec] at hz
          dsimp only at hz
          go_wp2_with (first | go_skip | refine uK ?_ | refine uL ?_ | refine uM ?_ | (refine uS ?_; clear HX; intro w HX) | (refine uA ?_; clear HX; (first | (have hq := b; clear hq; intro w b2 HX) | intro w b HX)) | (refine tWN ?_; clear HX; intro w mm HX; simp only [Act.put, k_a, k_b, k_c]) | (refine tWP ?_; clear HX; intro w av nv cv HX; simp only [Act.put, k_a, k_b, k_c]))
          have hm := decide_any HX.out hd HC.out.1.b (by have := HC.out.1.len; omega) (by omega) id yes
          rw [hdec] at hm
          refine hm.mono ?_
          clear hm
          rintro e w ⟨P3, a3, n3, c3, xs3, rfl, hP3, -, -, hx⟩
          clear HX
          have HX := Lib.hid hx
          clear hx
          have HP3 := Lib.hid (show _ ∧ _ from ⟨hP3 _ (k_n _ HP.out), hP3 _ k_s⟩)
          clear hP3
          dsimp only at HX ⊢
          go_wp2_with (first | go_skip | refine uK ?_ | refine uL ?_ | refine uM ?_ | (refine uS ?_; clear HX; intro w HX) | (refine uA ?_; clear HX; (first | (have hq := b; clear hq; intro w b2 HX) | intro w b HX)) | (refine tWN ?_; clear HX; intro w mm HX; simp only [Act.put, k_a, k_b, k_c]) | (refine tWP ?_; clear HX; intro w av nv cv HX; simp only [Act.put, k_a, k_b, k_c]))
          refine (zxid_any HX.out.up1).mono ?_
          have q3 : IntKind.i64.wrap (S.zxid + 1) = S.zxid + 1 := IntWalk.i64_in _ (by omega)
          rcases hz with ⟨rfl, hz1⟩ | ⟨rfl, hz1⟩
          · have q4 : ((S.zxid + 1) == (S.zxid + 1)) = true := by simp
            rw [hz1]
            rintro e w ⟨rfl, hx⟩
            have hx := hx.up1
            clear HX
            have HX := Lib.hid hx
            clear hx
            clear hz1
            go_wp2_with (first | go_skip | refine uK ?_ | refine uL ?_ | refine uM ?_ | (refine uS ?_; clear HX; intro w HX) | (refine uA ?_; clear HX; (first | (have hq := b; clear hq; intro w b2 HX) | intro w b HX)) | (refine tWN ?_; clear HX; intro w mm HX; simp only [Act.put, k_a, k_b, k_c]) | (refine tWP ?_; clear HX; intro w av nv cv HX; simp only [Act.put, k_a, k_b, k_c]))
            go_roundg (l0.length - (i + 1))
            case rel => exact ⟨i + 1, _, by omega, by go_num, HP3.out.1, by rw [HN.out]; exact sep_two HX.out⟩
            case measure => omega
          · have q4 : (S.zxid == (S.zxid + 1)) = false := by rw [beq_eq_false_iff_ne]; omega
            rw [hz1]
            rintro e w ⟨rfl, hx⟩
            have hx := hx.up1
            clear HX
            have HX := Lib.hid hx
            clear hx
            clear hz1
            go_wp2_with (first | go_skip | refine uK ?_ | refine uL ?_ | refine uM ?_ | (refine uS ?_; clear HX; intro w HX) | (refine uA ?_; clear HX; (first | (have hq := b; clear hq; intro w b2 HX) | intro w b HX)) | (refine tWN ?_; clear HX; intro w mm HX; simp only [Act.put, k_a, k_b, k_c]) | (refine tWP ?_; clear HX; intro w av nv cv HX; simp only [Act.put, k_a, k_b, k_c]))
            go_roundg (l0.length - (i + 1))
            case rel => exact ⟨i + 1, _, by omega, by go_num, HP3.out.1, by rw [HN.out]; exact sep_two HX.out⟩
            case measure => omega
end
end Go.Proofs.YtbakgoncfggidaaGreatDoor
