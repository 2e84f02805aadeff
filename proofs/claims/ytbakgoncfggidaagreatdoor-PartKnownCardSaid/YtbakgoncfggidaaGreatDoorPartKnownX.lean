/-
  Proved: the given statement PartKnownSaid: at every input the law PartKnown returns true and changes nothing that was there before the call.
  Conditions: none besides those that the given statement itself states.
-/
import Derived.Test.YtbakgoncfggidaaGreatDoorTie
import Derived.Test.YtbakgoncfggidaaGreatDoorCards
import Derived.WalkKit
import Derived.ProofKit
import Derived.OpenShut
import Derived.ShutString
import Derived.ChangeOld
import Derived.Below
import Derived.LaidMore
import Derived.Lay
import Derived.SevenTiedAt
import Derived.Stop.Joined
import Derived.Test.YtbakgoncfggidaaGreatDoorMg8
set_option linter.unusedSimpArgs false
namespace Go.Proofs.YtbakgoncfggidaaGreatDoor
open Go.RowKit Go.Av
section
variable {w0 w : World} {b : Nat} {S : PartS} {P P' : List PRow} {R : List Thing} {rows : List (Value × Bs)}
set_option maxRecDepth 100000 in
theorem closed_any (h : Sep w0 w (ThPart b S P :: R) rows) (sess : Int) : Calls Tryz.prog 27 #[.pointer (some ⟨b, 0, none⟩), .int .i64 sess] w fun e w' => e = .returned (.bool (decide (sess ∈ S.closed))) ∧ Sep w0 w' (ThPart b S P :: R) rows := by
  obtain ⟨t, lk, mw, md, mc, gs, hgs, hgv, hS⟩ := pt_open h
  have hk := num_look hS.up5 sess
  have HX := Lib.hid hS
  clear h hS
  go_enter Tryz.func27, Tryz.ntmps27
  go_wp2_with (first | go_skip | ((with_reducible apply wpList_skip); (· rfl); simp only [Act.put, List.setIfInBounds_toArray, List.set_cons_zero, List.set_cons_succ]) | (refine tWL ?_; simp only [Act.put, List.setIfInBounds_toArray, List.set_cons_zero, List.set_cons_succ, List.drop_zero, List.drop_succ_cons, List.take_succ_cons, List.take_zero, List.toList_toArray, NodeS.cells, OpS.cells, ResS.cells]) | (refine tWM ?_; simp only [Act.put, List.setIfInBounds_toArray, List.set_cons_zero, List.set_cons_succ]) | (refine tWS ?_; clear HX; intro w HX; simp only [Act.put, List.setIfInBounds_toArray, List.set_cons_zero, List.set_cons_succ, setMany, Nat.reduceAdd, NodeS.cells, OpS.cells, ResS.cells] at HX ⊢) | (refine tWT ?_; clear HX; intro w HX; simp only [Act.put, List.setIfInBounds_toArray, List.set_cons_zero, List.set_cons_succ, NodeS.cells, OpS.cells, ResS.cells] at HX ⊢) | (refine tWA ?_; clear HX; (first | (have hq := b9; clear hq; intro w b10 HX) | (have hq := b8; clear hq; intro w b9 HX) | (have hq := b7; clear hq; intro w b8 HX) | (have hq := b6; clear hq; intro w b7 HX) | (have hq := b5; clear hq; intro w b6 HX) | (have hq := b4; clear hq; intro w b5 HX) | (have hq := b3; clear hq; intro w b4 HX) | (have hq := b2; clear hq; intro w b3 HX) | (have hq := b; clear hq; intro w b2 HX) | intro w b HX); simp only [Act.put, List.setIfInBounds_toArray, List.set_cons_zero, List.set_cons_succ]) | (refine tWN ?_; clear HX; intro w mm HX; simp only [Act.put, List.setIfInBounds_toArray, List.set_cons_zero, List.set_cons_succ]) | (refine tWP ?_; clear HX; intro w av nv cv HX; simp only [Act.put, List.setIfInBounds_toArray, List.set_cons_zero, List.set_cons_succ]))
  go_ret
  exact ⟨rfl, pt_shut HX.out hgs hgv⟩
set_option maxRecDepth 100000 in
theorem treenew_bad (h : Sep w0 w R rows) (room : Int) (h1 : room < 1 ∨ 500 < room) :
    Calls Tryz.prog 66 #[.int .i64 room] w fun e w' => e = .returned (.tuple #[.pointer none, .int .i64 1]) ∧ Sep w0 w' R rows := by
  have HX := Lib.hid h
  clear h
  by_cases h2 : room < 1
  · have q1 : decide (room < 1) = true := decide_eq_true h2
    clear h1 h2
    go_enter Tryz.func66, Tryz.ntmps66
    go_wp2_with fail
    go_ret2
    exact ⟨rfl, HX.out⟩
  · have q1 : decide (room < 1) = false := decide_eq_false h2
    have q2 : decide (500 < room) = true := decide_eq_true (by omega)
    clear h1 h2
    go_enter Tryz.func66, Tryz.ntmps66
    go_wp2_with fail
    go_ret2
    exact ⟨rfl, HX.out⟩
set_option maxRecDepth 100000 in
theorem partnew_bad (h : Sep w0 w R rows) (room : Int) (h1 : room < 1 ∨ 500 < room) :
    Calls Tryz.prog 15 #[.int .i64 room] w fun e w' => e = .returned (.tuple #[.pointer none, .int .i64 1]) ∧ Sep w0 w' R rows := by
  have HX := Lib.hid h
  clear h
  go_enter Tryz.func15, Tryz.ntmps15
  go_wp2_with (first | go_skip | ((with_reducible apply wpList_skip); (· rfl); simp only [Act.put, List.setIfInBounds_toArray, List.set_cons_zero, List.set_cons_succ]) | (refine tWL ?_; simp only [Act.put, List.setIfInBounds_toArray, List.set_cons_zero, List.set_cons_succ, List.drop_zero, List.drop_succ_cons, List.take_succ_cons, List.take_zero, List.toList_toArray, NodeS.cells, OpS.cells, ResS.cells]) | (refine tWM ?_; simp only [Act.put, List.setIfInBounds_toArray, List.set_cons_zero, List.set_cons_succ]) | (refine tWS ?_; clear HX; intro w HX; simp only [Act.put, List.setIfInBounds_toArray, List.set_cons_zero, List.set_cons_succ, setMany, Nat.reduceAdd, NodeS.cells, OpS.cells, ResS.cells] at HX ⊢) | (refine tWT ?_; clear HX; intro w HX; simp only [Act.put, List.setIfInBounds_toArray, List.set_cons_zero, List.set_cons_succ, NodeS.cells, OpS.cells, ResS.cells] at HX ⊢) | (refine tWA ?_; clear HX; (first | (have hq := b9; clear hq; intro w b10 HX) | (have hq := b8; clear hq; intro w b9 HX) | (have hq := b7; clear hq; intro w b8 HX) | (have hq := b6; clear hq; intro w b7 HX) | (have hq := b5; clear hq; intro w b6 HX) | (have hq := b4; clear hq; intro w b5 HX) | (have hq := b3; clear hq; intro w b4 HX) | (have hq := b2; clear hq; intro w b3 HX) | (have hq := b; clear hq; intro w b2 HX) | intro w b HX); simp only [Act.put, List.setIfInBounds_toArray, List.set_cons_zero, List.set_cons_succ]) | (refine tWN ?_; clear HX; intro w mm HX; simp only [Act.put, List.setIfInBounds_toArray, List.set_cons_zero, List.set_cons_succ]) | (refine tWP ?_; clear HX; intro w av nv cv HX; simp only [Act.put, List.setIfInBounds_toArray, List.set_cons_zero, List.set_cons_succ]) | (refine tWD ?_; clear HX; (first | (have hq := b9; clear hq; intro w b10 HX) | (have hq := b8; clear hq; intro w b9 HX) | (have hq := b7; clear hq; intro w b8 HX) | (have hq := b6; clear hq; intro w b7 HX) | (have hq := b5; clear hq; intro w b6 HX) | (have hq := b4; clear hq; intro w b5 HX) | (have hq := b3; clear hq; intro w b4 HX) | (have hq := b2; clear hq; intro w b3 HX) | (have hq := b; clear hq; intro w b2 HX) | intro w b HX); simp only [Act.put, List.setIfInBounds_toArray, List.set_cons_zero, List.set_cons_succ, List.cons_append, List.nil_append] at HX ⊢))
  refine (treenew_bad HX.out room h1).mono ?_
  rintro e w ⟨rfl, hx⟩
  clear HX
  have HX := Lib.hid hx
  clear hx
  go_wp2_with (first | go_skip | ((with_reducible apply wpList_skip); (· rfl); simp only [Act.put, List.setIfInBounds_toArray, List.set_cons_zero, List.set_cons_succ]) | (refine tWL ?_; simp only [Act.put, List.setIfInBounds_toArray, List.set_cons_zero, List.set_cons_succ, List.drop_zero, List.drop_succ_cons, List.take_succ_cons, List.take_zero, List.toList_toArray, NodeS.cells, OpS.cells, ResS.cells]) | (refine tWM ?_; simp only [Act.put, List.setIfInBounds_toArray, List.set_cons_zero, List.set_cons_succ]) | (refine tWS ?_; clear HX; intro w HX; simp only [Act.put, List.setIfInBounds_toArray, List.set_cons_zero, List.set_cons_succ, setMany, Nat.reduceAdd, NodeS.cells, OpS.cells, ResS.cells] at HX ⊢) | (refine tWT ?_; clear HX; intro w HX; simp only [Act.put, List.setIfInBounds_toArray, List.set_cons_zero, List.set_cons_succ, NodeS.cells, OpS.cells, ResS.cells] at HX ⊢) | (refine tWA ?_; clear HX; (first | (have hq := b9; clear hq; intro w b10 HX) | (have hq := b8; clear hq; intro w b9 HX) | (have hq := b7; clear hq; intro w b8 HX) | (have hq := b6; clear hq; intro w b7 HX) | (have hq := b5; clear hq; intro w b6 HX) | (have hq := b4; clear hq; intro w b5 HX) | (have hq := b3; clear hq; intro w b4 HX) | (have hq := b2; clear hq; intro w b3 HX) | (have hq := b; clear hq; intro w b2 HX) | intro w b HX); simp only [Act.put, List.setIfInBounds_toArray, List.set_cons_zero, List.set_cons_succ]) | (refine tWN ?_; clear HX; intro w mm HX; simp only [Act.put, List.setIfInBounds_toArray, List.set_cons_zero, List.set_cons_succ]) | (refine tWP ?_; clear HX; intro w av nv cv HX; simp only [Act.put, List.setIfInBounds_toArray, List.set_cons_zero, List.set_cons_succ]) | (refine tWD ?_; clear HX; (first | (have hq := b9; clear hq; intro w b10 HX) | (have hq := b8; clear hq; intro w b9 HX) | (have hq := b7; clear hq; intro w b8 HX) | (have hq := b6; clear hq; intro w b7 HX) | (have hq := b5; clear hq; intro w b6 HX) | (have hq := b4; clear hq; intro w b5 HX) | (have hq := b3; clear hq; intro w b4 HX) | (have hq := b2; clear hq; intro w b3 HX) | (have hq := b; clear hq; intro w b2 HX) | intro w b HX); simp only [Act.put, List.setIfInBounds_toArray, List.set_cons_zero, List.set_cons_succ, List.cons_append, List.nil_append] at HX ⊢))
  go_ret2
  exact ⟨rfl, HX.out⟩
def mk1 (p : ByteArray) : OpS := madeO p 0
def pXY : ByteArray := ⟨#[47, 120, 47, 121]⟩
def pB : ByteArray := ⟨#[47, 98]⟩
def pC : ByteArray := ⟨#[47, 99]⟩
def pD : ByteArray := ⟨#[47, 100]⟩
def pE : ByteArray := ⟨#[47, 101]⟩
def pF : ByteArray := ⟨#[47, 102]⟩
def kS0 : PartS := newP 2
def kS1 : PartS := (prepS kS0 1 1 [madeO kA 0, madeO pXY 0]).2
def kS2 : PartS := (decideS kS1 1 true).2
def kS3 : PartS := (prepS kS2 2 5 [madeO pC 1]).2
def kS4 : PartS := (localS kS3 1 1 [madeO pD 0, madeO pE 0]).2
def kS5 : PartS := (decideS kS4 2 true).2
def kS6 : PartS := (closeS kS5 4 5).2
def kS7 : PartS := (localS kS6 5 1 [madeO pF 0]).2
def kS8 : PartS := (decideS kS7 4 true).2
def kS9 : PartS := (localS kS8 5 1 [madeO pF 0]).2
theorem kn1 : prepS kS0 0 1 [madeO kA 0] = ((1, -1), kS0) := by kernel_rfl
theorem kn2 : prepS kS0 3 1 [] = ((1, -1), kS0) := by kernel_rfl
theorem kn3 : prepS kS0 1 1 [madeO kA 0, madeO pXY 0] = ((4, 1), kS1) := by kernel_rfl
theorem kn3b : wantedW kS1.wait = 0 ∧ kS1.held.length = 2 := ⟨by kernel_rfl, by kernel_rfl⟩
theorem kn4 : prepS kS1 1 1 [madeO pB 0] = ((1, -1), kS1) := by kernel_rfl
theorem kn5 : decideS kS1 1 true = (([], 0), kS2) := by kernel_rfl
theorem kn6 : prepS kS2 1 1 [madeO pB 0] = ((1, -1), kS2) := by kernel_rfl
theorem kn7 : decideS kS2 1 true = (([], 4), kS2) := by kernel_rfl
theorem kn8 : prepS kS2 2 5 [madeO pC 1] = ((0, -1), kS3) := by kernel_rfl
theorem kn9 : ∃ z rs, localS kS3 1 1 [madeO pD 0, madeO pE 0] = (⟨1, z, 12, 0, rs⟩, kS4) := ⟨(localS kS3 1 1 [madeO pD 0, madeO pE 0]).1.zxid, (localS kS3 1 1 [madeO pD 0, madeO pE 0]).1.rs, by kernel_rfl⟩
theorem kn10 : closeS kS4 4 5 = (12, kS4) := by kernel_rfl
theorem kn11 : ∃ rs, decideS kS4 2 true = ((rs, 0), kS5) := ⟨(decideS kS4 2 true).1.1, by kernel_rfl⟩
theorem kn12 : closeS kS5 4 5 = (0, kS6) := by kernel_rfl
theorem kn13 : ∃ z rs, localS kS6 5 1 [madeO pF 0] = (⟨1, z, 12, -1, rs⟩, kS7) := ⟨(localS kS6 5 1 [madeO pF 0]).1.zxid, (localS kS6 5 1 [madeO pF 0]).1.rs, by kernel_rfl⟩
theorem kn14 : decideS kS7 4 true = (([], 0), kS8) := by kernel_rfl
theorem kn15 : ∃ z r, localS kS8 5 1 [madeO pF 0] = (⟨1, z, 11, -1, [r]⟩, kS9) := ⟨(localS kS8 5 1 [madeO pF 0]).1.zxid, failS 14, by kernel_rfl⟩
theorem kn16 : closeS kS9 6 5 = (11, kS9) := by kernel_rfl
theorem kn17 : (5 : Int) ∈ kS9.closed ∧ kS9.t.l.length = 0 := ⟨of_decide_eq_true (by kernel_rfl), by kernel_rfl⟩
theorem kC0 : PartC 0 kS0 := newP_c 2 (by omega)
theorem kC1 : PartC 1 kS1 := prep_c kC0 1 1 _
theorem kC2 : PartC 2 kS2 := decide_c kC1 1 true
theorem kC3 : PartC 3 kS3 := prep_c kC2 2 5 _
theorem kC4 : PartC 4 kS4 := local_c kC3 1 1 _
theorem kC5 : PartC 5 kS5 := decide_c kC4 2 true
theorem kC6 : PartC 6 kS6 := close_c kC5 4 5
theorem kC7 : PartC 7 kS7 := local_c kC6 5 1 _
theorem kC8 : PartC 8 kS8 := decide_c kC7 4 true
theorem kC9 : PartC 9 kS9 := local_c kC8 5 1 _
set_option maxRecDepth 100000 in
set_option maxHeartbeats 16000000 in
theorem partKnown_walk (W : World) (hd : DoorN W) : Calls Tryz.prog 5 #[] W fun e w' => e = .returned (.bool true) ∧ Below W.heap.size W w' := by
  go_enter Tryz.func5, Tryz.ntmps5
  go_wp2_with fail
  refine (awake_any hd).mono ?_
  rintro e w ⟨rfl, hu⟩
  have HX := Lib.hid ((Sep.start W).keep hu).poolNew
  clear hu
  go_wp2_with (first | go_skip | ((with_reducible apply wpList_skip); (· rfl); simp only [Act.put, List.setIfInBounds_toArray, List.set_cons_zero, List.set_cons_succ]) | (refine tWL ?_; simp only [Act.put, List.setIfInBounds_toArray, List.set_cons_zero, List.set_cons_succ, List.drop_zero, List.drop_succ_cons, List.take_succ_cons, List.take_zero, List.toList_toArray, NodeS.cells, OpS.cells, ResS.cells]) | (refine tWM ?_; simp only [Act.put, List.setIfInBounds_toArray, List.set_cons_zero, List.set_cons_succ]) | (refine tWS ?_; clear HX; intro w HX; simp only [Act.put, List.setIfInBounds_toArray, List.set_cons_zero, List.set_cons_succ, setMany, Nat.reduceAdd, NodeS.cells, OpS.cells, ResS.cells] at HX ⊢) | (refine tWT ?_; clear HX; intro w HX; simp only [Act.put, List.setIfInBounds_toArray, List.set_cons_zero, List.set_cons_succ, NodeS.cells, OpS.cells, ResS.cells] at HX ⊢) | (refine tWA ?_; clear HX; (first | (have hq := b9; clear hq; intro w b10 HX) | (have hq := b8; clear hq; intro w b9 HX) | (have hq := b7; clear hq; intro w b8 HX) | (have hq := b6; clear hq; intro w b7 HX) | (have hq := b5; clear hq; intro w b6 HX) | (have hq := b4; clear hq; intro w b5 HX) | (have hq := b3; clear hq; intro w b4 HX) | (have hq := b2; clear hq; intro w b3 HX) | (have hq := b; clear hq; intro w b2 HX) | intro w b HX); simp only [Act.put, List.setIfInBounds_toArray, List.set_cons_zero, List.set_cons_succ]) | (refine tWN ?_; clear HX; intro w mm HX; simp only [Act.put, List.setIfInBounds_toArray, List.set_cons_zero, List.set_cons_succ]) | (refine tWP ?_; clear HX; intro w av nv cv HX; simp only [Act.put, List.setIfInBounds_toArray, List.set_cons_zero, List.set_cons_succ]) | (refine tWD ?_; clear HX; (first | (have hq := b9; clear hq; intro w b10 HX) | (have hq := b8; clear hq; intro w b9 HX) | (have hq := b7; clear hq; intro w b8 HX) | (have hq := b6; clear hq; intro w b7 HX) | (have hq := b5; clear hq; intro w b6 HX) | (have hq := b4; clear hq; intro w b5 HX) | (have hq := b3; clear hq; intro w b4 HX) | (have hq := b2; clear hq; intro w b3 HX) | (have hq := b; clear hq; intro w b2 HX) | intro w b HX); simp only [Act.put, List.setIfInBounds_toArray, List.set_cons_zero, List.set_cons_succ, List.cons_append, List.nil_append] at HX ⊢))
  refine (partnew_bad HX.out 0 (by omega)).mono ?_
  rintro e w ⟨rfl, hx⟩
  clear HX
  have HX := Lib.hid hx
  clear hx
  go_wp2_with (first | go_skip | ((with_reducible apply wpList_skip); (· rfl); simp only [Act.put, List.setIfInBounds_toArray, List.set_cons_zero, List.set_cons_succ]) | (refine tWL ?_; simp only [Act.put, List.setIfInBounds_toArray, List.set_cons_zero, List.set_cons_succ, List.drop_zero, List.drop_succ_cons, List.take_succ_cons, List.take_zero, List.toList_toArray, NodeS.cells, OpS.cells, ResS.cells]) | (refine tWM ?_; simp only [Act.put, List.setIfInBounds_toArray, List.set_cons_zero, List.set_cons_succ]) | (refine tWS ?_; clear HX; intro w HX; simp only [Act.put, List.setIfInBounds_toArray, List.set_cons_zero, List.set_cons_succ, setMany, Nat.reduceAdd, NodeS.cells, OpS.cells, ResS.cells] at HX ⊢) | (refine tWT ?_; clear HX; intro w HX; simp only [Act.put, List.setIfInBounds_toArray, List.set_cons_zero, List.set_cons_succ, NodeS.cells, OpS.cells, ResS.cells] at HX ⊢) | (refine tWA ?_; clear HX; (first | (have hq := b9; clear hq; intro w b10 HX) | (have hq := b8; clear hq; intro w b9 HX) | (have hq := b7; clear hq; intro w b8 HX) | (have hq := b6; clear hq; intro w b7 HX) | (have hq := b5; clear hq; intro w b6 HX) | (have hq := b4; clear hq; intro w b5 HX) | (have hq := b3; clear hq; intro w b4 HX) | (have hq := b2; clear hq; intro w b3 HX) | (have hq := b; clear hq; intro w b2 HX) | intro w b HX); simp only [Act.put, List.setIfInBounds_toArray, List.set_cons_zero, List.set_cons_succ]) | (refine tWN ?_; clear HX; intro w mm HX; simp only [Act.put, List.setIfInBounds_toArray, List.set_cons_zero, List.set_cons_succ]) | (refine tWP ?_; clear HX; intro w av nv cv HX; simp only [Act.put, List.setIfInBounds_toArray, List.set_cons_zero, List.set_cons_succ]) | (refine tWD ?_; clear HX; (first | (have hq := b9; clear hq; intro w b10 HX) | (have hq := b8; clear hq; intro w b9 HX) | (have hq := b7; clear hq; intro w b8 HX) | (have hq := b6; clear hq; intro w b7 HX) | (have hq := b5; clear hq; intro w b6 HX) | (have hq := b4; clear hq; intro w b5 HX) | (have hq := b3; clear hq; intro w b4 HX) | (have hq := b2; clear hq; intro w b3 HX) | (have hq := b; clear hq; intro w b2 HX) | intro w b HX); simp only [Act.put, List.setIfInBounds_toArray, List.set_cons_zero, List.set_cons_succ, List.cons_append, List.nil_append] at HX ⊢))
  refine (partnew_any HX.out 2 (by omega) (by omega)).mono ?_
  rintro e w ⟨b, rfl, hx⟩
  have hx : Sep W w (ThPool W [] :: ThPart b kS0 [] :: _) [] := hx
  clear HX
  have HX := Lib.hid hx
  clear hx
  go_wp2_with (first | go_skip | ((with_reducible apply wpList_skip); (· rfl); simp only [Act.put, List.setIfInBounds_toArray, List.set_cons_zero, List.set_cons_succ]) | (refine tWL ?_; simp only [Act.put, List.setIfInBounds_toArray, List.set_cons_zero, List.set_cons_succ, List.drop_zero, List.drop_succ_cons, List.take_succ_cons, List.take_zero, List.toList_toArray, NodeS.cells, OpS.cells, ResS.cells]) | (refine tWM ?_; simp only [Act.put, List.setIfInBounds_toArray, List.set_cons_zero, List.set_cons_succ]) | (refine tWS ?_; clear HX; intro w HX; simp only [Act.put, List.setIfInBounds_toArray, List.set_cons_zero, List.set_cons_succ, setMany, Nat.reduceAdd, NodeS.cells, OpS.cells, ResS.cells] at HX ⊢) | (refine tWT ?_; clear HX; intro w HX; simp only [Act.put, List.setIfInBounds_toArray, List.set_cons_zero, List.set_cons_succ, NodeS.cells, OpS.cells, ResS.cells] at HX ⊢) | (refine tWA ?_; clear HX; (first | (have hq := b9; clear hq; intro w b10 HX) | (have hq := b8; clear hq; intro w b9 HX) | (have hq := b7; clear hq; intro w b8 HX) | (have hq := b6; clear hq; intro w b7 HX) | (have hq := b5; clear hq; intro w b6 HX) | (have hq := b4; clear hq; intro w b5 HX) | (have hq := b3; clear hq; intro w b4 HX) | (have hq := b2; clear hq; intro w b3 HX) | (have hq := b; clear hq; intro w b2 HX) | intro w b HX); simp only [Act.put, List.setIfInBounds_toArray, List.set_cons_zero, List.set_cons_succ]) | (refine tWN ?_; clear HX; intro w mm HX; simp only [Act.put, List.setIfInBounds_toArray, List.set_cons_zero, List.set_cons_succ]) | (refine tWP ?_; clear HX; intro w av nv cv HX; simp only [Act.put, List.setIfInBounds_toArray, List.set_cons_zero, List.set_cons_succ]) | (refine tWD ?_; clear HX; (first | (have hq := b9; clear hq; intro w b10 HX) | (have hq := b8; clear hq; intro w b9 HX) | (have hq := b7; clear hq; intro w b8 HX) | (have hq := b6; clear hq; intro w b7 HX) | (have hq := b5; clear hq; intro w b6 HX) | (have hq := b4; clear hq; intro w b5 HX) | (have hq := b3; clear hq; intro w b4 HX) | (have hq := b2; clear hq; intro w b3 HX) | (have hq := b; clear hq; intro w b2 HX) | intro w b HX); simp only [Act.put, List.setIfInBounds_toArray, List.set_cons_zero, List.set_cons_succ, List.cons_append, List.nil_append] at HX ⊢) | (go_at_call 26; refine (made_any HX.out _ _).mono ?_; rintro e w ⟨rfl, hx⟩; clear HX; have HX := Lib.hid hx; clear hx; simp only [OpS.val, madeO]))
  have hm := prep_any (pt_cell (cs := [madeO kA 0].flatMap OpS.cells) (n := 1) HX.out rfl (by omega)) hd kC0.b (by omega) 0 1 [madeO kA 0] _ (List.mem_cons_self ..) (by intro o ho; simp only [List.mem_cons, List.not_mem_nil, or_false] at ho; first | (rcases ho with rfl | rfl <;> decide) | (subst ho; decide))
  rw [kn1] at hm
  refine hm.mono ?_
  clear hm
  rintro e w ⟨P1, rfl, -, hx⟩
  clear HX
  have HX := Lib.hid hx
  clear hx
  dsimp only at HX ⊢
  go_wp2_with (first | go_skip | ((with_reducible apply wpList_skip); (· rfl); simp only [Act.put, List.setIfInBounds_toArray, List.set_cons_zero, List.set_cons_succ]) | (refine tWL ?_; simp only [Act.put, List.setIfInBounds_toArray, List.set_cons_zero, List.set_cons_succ, List.drop_zero, List.drop_succ_cons, List.take_succ_cons, List.take_zero, List.toList_toArray, NodeS.cells, OpS.cells, ResS.cells]) | (refine tWM ?_; simp only [Act.put, List.setIfInBounds_toArray, List.set_cons_zero, List.set_cons_succ]) | (refine tWS ?_; clear HX; intro w HX; simp only [Act.put, List.setIfInBounds_toArray, List.set_cons_zero, List.set_cons_succ, setMany, Nat.reduceAdd, NodeS.cells, OpS.cells, ResS.cells] at HX ⊢) | (refine tWT ?_; clear HX; intro w HX; simp only [Act.put, List.setIfInBounds_toArray, List.set_cons_zero, List.set_cons_succ, NodeS.cells, OpS.cells, ResS.cells] at HX ⊢) | (refine tWA ?_; clear HX; (first | (have hq := b9; clear hq; intro w b10 HX) | (have hq := b8; clear hq; intro w b9 HX) | (have hq := b7; clear hq; intro w b8 HX) | (have hq := b6; clear hq; intro w b7 HX) | (have hq := b5; clear hq; intro w b6 HX) | (have hq := b4; clear hq; intro w b5 HX) | (have hq := b3; clear hq; intro w b4 HX) | (have hq := b2; clear hq; intro w b3 HX) | (have hq := b; clear hq; intro w b2 HX) | intro w b HX); simp only [Act.put, List.setIfInBounds_toArray, List.set_cons_zero, List.set_cons_succ]) | (refine tWN ?_; clear HX; intro w mm HX; simp only [Act.put, List.setIfInBounds_toArray, List.set_cons_zero, List.set_cons_succ]) | (refine tWP ?_; clear HX; intro w av nv cv HX; simp only [Act.put, List.setIfInBounds_toArray, List.set_cons_zero, List.set_cons_succ]) | (refine tWD ?_; clear HX; (first | (have hq := b9; clear hq; intro w b10 HX) | (have hq := b8; clear hq; intro w b9 HX) | (have hq := b7; clear hq; intro w b8 HX) | (have hq := b6; clear hq; intro w b7 HX) | (have hq := b5; clear hq; intro w b6 HX) | (have hq := b4; clear hq; intro w b5 HX) | (have hq := b3; clear hq; intro w b4 HX) | (have hq := b2; clear hq; intro w b3 HX) | (have hq := b; clear hq; intro w b2 HX) | intro w b HX); simp only [Act.put, List.setIfInBounds_toArray, List.set_cons_zero, List.set_cons_succ, List.cons_append, List.nil_append] at HX ⊢))
  have hx := (pt_mono (P' := (5, .slice none 0 0, []) :: P1) (HX.out.poolNil 5).up1 (fun q hq => List.mem_cons_of_mem _ hq)).up1
  clear HX
  have HX := Lib.hid hx
  clear hx
  have hm := prep_any HX.out hd kC0.b (by omega) 3 1 [] _ (List.mem_cons_self ..) (by simp)
  rw [kn2] at hm
  refine hm.mono ?_
  clear hm
  rintro e w ⟨P2, rfl, -, hx⟩
  clear HX
  have HX := Lib.hid hx
  clear hx
  dsimp only at HX ⊢
  go_wp2_with (first | go_skip | ((with_reducible apply wpList_skip); (· rfl); simp only [Act.put, List.setIfInBounds_toArray, List.set_cons_zero, List.set_cons_succ]) | (refine tWL ?_; simp only [Act.put, List.setIfInBounds_toArray, List.set_cons_zero, List.set_cons_succ, List.drop_zero, List.drop_succ_cons, List.take_succ_cons, List.take_zero, List.toList_toArray, NodeS.cells, OpS.cells, ResS.cells]) | (refine tWM ?_; simp only [Act.put, List.setIfInBounds_toArray, List.set_cons_zero, List.set_cons_succ]) | (refine tWS ?_; clear HX; intro w HX; simp only [Act.put, List.setIfInBounds_toArray, List.set_cons_zero, List.set_cons_succ, setMany, Nat.reduceAdd, NodeS.cells, OpS.cells, ResS.cells] at HX ⊢) | (refine tWT ?_; clear HX; intro w HX; simp only [Act.put, List.setIfInBounds_toArray, List.set_cons_zero, List.set_cons_succ, NodeS.cells, OpS.cells, ResS.cells] at HX ⊢) | (refine tWA ?_; clear HX; (first | (have hq := b9; clear hq; intro w b10 HX) | (have hq := b8; clear hq; intro w b9 HX) | (have hq := b7; clear hq; intro w b8 HX) | (have hq := b6; clear hq; intro w b7 HX) | (have hq := b5; clear hq; intro w b6 HX) | (have hq := b4; clear hq; intro w b5 HX) | (have hq := b3; clear hq; intro w b4 HX) | (have hq := b2; clear hq; intro w b3 HX) | (have hq := b; clear hq; intro w b2 HX) | intro w b HX); simp only [Act.put, List.setIfInBounds_toArray, List.set_cons_zero, List.set_cons_succ]) | (refine tWN ?_; clear HX; intro w mm HX; simp only [Act.put, List.setIfInBounds_toArray, List.set_cons_zero, List.set_cons_succ]) | (refine tWP ?_; clear HX; intro w av nv cv HX; simp only [Act.put, List.setIfInBounds_toArray, List.set_cons_zero, List.set_cons_succ]) | (refine tWD ?_; clear HX; (first | (have hq := b9; clear hq; intro w b10 HX) | (have hq := b8; clear hq; intro w b9 HX) | (have hq := b7; clear hq; intro w b8 HX) | (have hq := b6; clear hq; intro w b7 HX) | (have hq := b5; clear hq; intro w b6 HX) | (have hq := b4; clear hq; intro w b5 HX) | (have hq := b3; clear hq; intro w b4 HX) | (have hq := b2; clear hq; intro w b3 HX) | (have hq := b; clear hq; intro w b2 HX) | intro w b HX); simp only [Act.put, List.setIfInBounds_toArray, List.set_cons_zero, List.set_cons_succ, List.cons_append, List.nil_append] at HX ⊢) | (go_at_call 26; refine (made_any HX.out _ _).mono ?_; rintro e w ⟨rfl, hx⟩; clear HX; have HX := Lib.hid hx; clear hx; simp only [OpS.val, madeO]))
  have hm := prep_any (pt_cell (cs := [madeO kA 0, madeO pXY 0].flatMap OpS.cells) (n := 2) HX.out rfl (by omega)) hd kC0.b (by omega) 1 1 [madeO kA 0, madeO pXY 0] _ (List.mem_cons_self ..) (by intro o ho; simp only [List.mem_cons, List.not_mem_nil, or_false] at ho; first | (rcases ho with rfl | rfl <;> decide) | (subst ho; decide))
  rw [kn3] at hm
  refine hm.mono ?_
  clear hm
  rintro e w ⟨P1, rfl, -, hx⟩
  clear HX
  have HX := Lib.hid hx
  clear hx
  dsimp only at HX ⊢
  go_wp2_with (first | go_skip | ((with_reducible apply wpList_skip); (· rfl); simp only [Act.put, List.setIfInBounds_toArray, List.set_cons_zero, List.set_cons_succ]) | (refine tWL ?_; simp only [Act.put, List.setIfInBounds_toArray, List.set_cons_zero, List.set_cons_succ, List.drop_zero, List.drop_succ_cons, List.take_succ_cons, List.take_zero, List.toList_toArray, NodeS.cells, OpS.cells, ResS.cells]) | (refine tWM ?_; simp only [Act.put, List.setIfInBounds_toArray, List.set_cons_zero, List.set_cons_succ]) | (refine tWS ?_; clear HX; intro w HX; simp only [Act.put, List.setIfInBounds_toArray, List.set_cons_zero, List.set_cons_succ, setMany, Nat.reduceAdd, NodeS.cells, OpS.cells, ResS.cells] at HX ⊢) | (refine tWT ?_; clear HX; intro w HX; simp only [Act.put, List.setIfInBounds_toArray, List.set_cons_zero, List.set_cons_succ, NodeS.cells, OpS.cells, ResS.cells] at HX ⊢) | (refine tWA ?_; clear HX; (first | (have hq := b9; clear hq; intro w b10 HX) | (have hq := b8; clear hq; intro w b9 HX) | (have hq := b7; clear hq; intro w b8 HX) | (have hq := b6; clear hq; intro w b7 HX) | (have hq := b5; clear hq; intro w b6 HX) | (have hq := b4; clear hq; intro w b5 HX) | (have hq := b3; clear hq; intro w b4 HX) | (have hq := b2; clear hq; intro w b3 HX) | (have hq := b; clear hq; intro w b2 HX) | intro w b HX); simp only [Act.put, List.setIfInBounds_toArray, List.set_cons_zero, List.set_cons_succ]) | (refine tWN ?_; clear HX; intro w mm HX; simp only [Act.put, List.setIfInBounds_toArray, List.set_cons_zero, List.set_cons_succ]) | (refine tWP ?_; clear HX; intro w av nv cv HX; simp only [Act.put, List.setIfInBounds_toArray, List.set_cons_zero, List.set_cons_succ]) | (refine tWD ?_; clear HX; (first | (have hq := b9; clear hq; intro w b10 HX) | (have hq := b8; clear hq; intro w b9 HX) | (have hq := b7; clear hq; intro w b8 HX) | (have hq := b6; clear hq; intro w b7 HX) | (have hq := b5; clear hq; intro w b6 HX) | (have hq := b4; clear hq; intro w b5 HX) | (have hq := b3; clear hq; intro w b4 HX) | (have hq := b2; clear hq; intro w b3 HX) | (have hq := b; clear hq; intro w b2 HX) | intro w b HX); simp only [Act.put, List.setIfInBounds_toArray, List.set_cons_zero, List.set_cons_succ, List.cons_append, List.nil_append] at HX ⊢))
  refine (wanted_any HX.out (by rw [kn3b.1]; omega) (fun e he => by have := (kC1.b.wait e he).1; omega)).mono ?_
  rw [kn3b.1]
  rintro e w ⟨rfl, hx⟩
  clear HX
  have HX := Lib.hid hx
  clear hx
  go_wp2_with (first | go_skip | ((with_reducible apply wpList_skip); (· rfl); simp only [Act.put, List.setIfInBounds_toArray, List.set_cons_zero, List.set_cons_succ]) | (refine tWL ?_; simp only [Act.put, List.setIfInBounds_toArray, List.set_cons_zero, List.set_cons_succ, List.drop_zero, List.drop_succ_cons, List.take_succ_cons, List.take_zero, List.toList_toArray, NodeS.cells, OpS.cells, ResS.cells]) | (refine tWM ?_; simp only [Act.put, List.setIfInBounds_toArray, List.set_cons_zero, List.set_cons_succ]) | (refine tWS ?_; clear HX; intro w HX; simp only [Act.put, List.setIfInBounds_toArray, List.set_cons_zero, List.set_cons_succ, setMany, Nat.reduceAdd, NodeS.cells, OpS.cells, ResS.cells] at HX ⊢) | (refine tWT ?_; clear HX; intro w HX; simp only [Act.put, List.setIfInBounds_toArray, List.set_cons_zero, List.set_cons_succ, NodeS.cells, OpS.cells, ResS.cells] at HX ⊢) | (refine tWA ?_; clear HX; (first | (have hq := b9; clear hq; intro w b10 HX) | (have hq := b8; clear hq; intro w b9 HX) | (have hq := b7; clear hq; intro w b8 HX) | (have hq := b6; clear hq; intro w b7 HX) | (have hq := b5; clear hq; intro w b6 HX) | (have hq := b4; clear hq; intro w b5 HX) | (have hq := b3; clear hq; intro w b4 HX) | (have hq := b2; clear hq; intro w b3 HX) | (have hq := b; clear hq; intro w b2 HX) | intro w b HX); simp only [Act.put, List.setIfInBounds_toArray, List.set_cons_zero, List.set_cons_succ]) | (refine tWN ?_; clear HX; intro w mm HX; simp only [Act.put, List.setIfInBounds_toArray, List.set_cons_zero, List.set_cons_succ]) | (refine tWP ?_; clear HX; intro w av nv cv HX; simp only [Act.put, List.setIfInBounds_toArray, List.set_cons_zero, List.set_cons_succ]) | (refine tWD ?_; clear HX; (first | (have hq := b9; clear hq; intro w b10 HX) | (have hq := b8; clear hq; intro w b9 HX) | (have hq := b7; clear hq; intro w b8 HX) | (have hq := b6; clear hq; intro w b7 HX) | (have hq := b5; clear hq; intro w b6 HX) | (have hq := b4; clear hq; intro w b5 HX) | (have hq := b3; clear hq; intro w b4 HX) | (have hq := b2; clear hq; intro w b3 HX) | (have hq := b; clear hq; intro w b2 HX) | intro w b HX); simp only [Act.put, List.setIfInBounds_toArray, List.set_cons_zero, List.set_cons_succ, List.cons_append, List.nil_append] at HX ⊢))
  refine (plocks_any HX.out.up1).mono ?_
  rw [kn3b.2]
  rintro e w ⟨rfl, hx⟩
  have hx := hx.up1
  clear HX
  have HX := Lib.hid hx
  clear hx
  go_wp2_with (first | go_skip | ((with_reducible apply wpList_skip); (· rfl); simp only [Act.put, List.setIfInBounds_toArray, List.set_cons_zero, List.set_cons_succ]) | (refine tWL ?_; simp only [Act.put, List.setIfInBounds_toArray, List.set_cons_zero, List.set_cons_succ, List.drop_zero, List.drop_succ_cons, List.take_succ_cons, List.take_zero, List.toList_toArray, NodeS.cells, OpS.cells, ResS.cells]) | (refine tWM ?_; simp only [Act.put, List.setIfInBounds_toArray, List.set_cons_zero, List.set_cons_succ]) | (refine tWS ?_; clear HX; intro w HX; simp only [Act.put, List.setIfInBounds_toArray, List.set_cons_zero, List.set_cons_succ, setMany, Nat.reduceAdd, NodeS.cells, OpS.cells, ResS.cells] at HX ⊢) | (refine tWT ?_; clear HX; intro w HX; simp only [Act.put, List.setIfInBounds_toArray, List.set_cons_zero, List.set_cons_succ, NodeS.cells, OpS.cells, ResS.cells] at HX ⊢) | (refine tWA ?_; clear HX; (first | (have hq := b9; clear hq; intro w b10 HX) | (have hq := b8; clear hq; intro w b9 HX) | (have hq := b7; clear hq; intro w b8 HX) | (have hq := b6; clear hq; intro w b7 HX) | (have hq := b5; clear hq; intro w b6 HX) | (have hq := b4; clear hq; intro w b5 HX) | (have hq := b3; clear hq; intro w b4 HX) | (have hq := b2; clear hq; intro w b3 HX) | (have hq := b; clear hq; intro w b2 HX) | intro w b HX); simp only [Act.put, List.setIfInBounds_toArray, List.set_cons_zero, List.set_cons_succ]) | (refine tWN ?_; clear HX; intro w mm HX; simp only [Act.put, List.setIfInBounds_toArray, List.set_cons_zero, List.set_cons_succ]) | (refine tWP ?_; clear HX; intro w av nv cv HX; simp only [Act.put, List.setIfInBounds_toArray, List.set_cons_zero, List.set_cons_succ]) | (refine tWD ?_; clear HX; (first | (have hq := b9; clear hq; intro w b10 HX) | (have hq := b8; clear hq; intro w b9 HX) | (have hq := b7; clear hq; intro w b8 HX) | (have hq := b6; clear hq; intro w b7 HX) | (have hq := b5; clear hq; intro w b6 HX) | (have hq := b4; clear hq; intro w b5 HX) | (have hq := b3; clear hq; intro w b4 HX) | (have hq := b2; clear hq; intro w b3 HX) | (have hq := b; clear hq; intro w b2 HX) | intro w b HX); simp only [Act.put, List.setIfInBounds_toArray, List.set_cons_zero, List.set_cons_succ, List.cons_append, List.nil_append] at HX ⊢) | (go_at_call 26; refine (made_any HX.out _ _).mono ?_; rintro e w ⟨rfl, hx⟩; clear HX; have HX := Lib.hid hx; clear hx; simp only [OpS.val, madeO]))
  have hm := prep_any (pt_cell (cs := [madeO pB 0].flatMap OpS.cells) (n := 1) HX.out rfl (by omega)) hd kC1.b (by omega) 1 1 [madeO pB 0] _ (List.mem_cons_self ..) (by intro o ho; simp only [List.mem_cons, List.not_mem_nil, or_false] at ho; first | (rcases ho with rfl | rfl <;> decide) | (subst ho; decide))
  rw [kn4] at hm
  refine hm.mono ?_
  clear hm
  rintro e w ⟨P1, rfl, -, hx⟩
  clear HX
  have HX := Lib.hid hx
  clear hx
  dsimp only at HX ⊢
  go_wp2_with (first | go_skip | ((with_reducible apply wpList_skip); (· rfl); simp only [Act.put, List.setIfInBounds_toArray, List.set_cons_zero, List.set_cons_succ]) | (refine tWL ?_; simp only [Act.put, List.setIfInBounds_toArray, List.set_cons_zero, List.set_cons_succ, List.drop_zero, List.drop_succ_cons, List.take_succ_cons, List.take_zero, List.toList_toArray, NodeS.cells, OpS.cells, ResS.cells]) | (refine tWM ?_; simp only [Act.put, List.setIfInBounds_toArray, List.set_cons_zero, List.set_cons_succ]) | (refine tWS ?_; clear HX; intro w HX; simp only [Act.put, List.setIfInBounds_toArray, List.set_cons_zero, List.set_cons_succ, setMany, Nat.reduceAdd, NodeS.cells, OpS.cells, ResS.cells] at HX ⊢) | (refine tWT ?_; clear HX; intro w HX; simp only [Act.put, List.setIfInBounds_toArray, List.set_cons_zero, List.set_cons_succ, NodeS.cells, OpS.cells, ResS.cells] at HX ⊢) | (refine tWA ?_; clear HX; (first | (have hq := b9; clear hq; intro w b10 HX) | (have hq := b8; clear hq; intro w b9 HX) | (have hq := b7; clear hq; intro w b8 HX) | (have hq := b6; clear hq; intro w b7 HX) | (have hq := b5; clear hq; intro w b6 HX) | (have hq := b4; clear hq; intro w b5 HX) | (have hq := b3; clear hq; intro w b4 HX) | (have hq := b2; clear hq; intro w b3 HX) | (have hq := b; clear hq; intro w b2 HX) | intro w b HX); simp only [Act.put, List.setIfInBounds_toArray, List.set_cons_zero, List.set_cons_succ]) | (refine tWN ?_; clear HX; intro w mm HX; simp only [Act.put, List.setIfInBounds_toArray, List.set_cons_zero, List.set_cons_succ]) | (refine tWP ?_; clear HX; intro w av nv cv HX; simp only [Act.put, List.setIfInBounds_toArray, List.set_cons_zero, List.set_cons_succ]) | (refine tWD ?_; clear HX; (first | (have hq := b9; clear hq; intro w b10 HX) | (have hq := b8; clear hq; intro w b9 HX) | (have hq := b7; clear hq; intro w b8 HX) | (have hq := b6; clear hq; intro w b7 HX) | (have hq := b5; clear hq; intro w b6 HX) | (have hq := b4; clear hq; intro w b5 HX) | (have hq := b3; clear hq; intro w b4 HX) | (have hq := b2; clear hq; intro w b3 HX) | (have hq := b; clear hq; intro w b2 HX) | intro w b HX); simp only [Act.put, List.setIfInBounds_toArray, List.set_cons_zero, List.set_cons_succ, List.cons_append, List.nil_append] at HX ⊢))
  have hm := decide_any HX.out hd kC1.b (by have := kC1.len; omega) (by omega) 1 true
  rw [kn5] at hm
  refine hm.mono ?_
  clear hm
  rintro e w ⟨P4, a4, n4, c4, xs4, rfl, -, hr4, hm4, hx⟩
  clear HX
  have HX := Lib.hid hx
  clear hx
  dsimp only at HX hr4 hm4 ⊢
  obtain rfl : n4 = 0 := rep_len HX.out hr4 hm4
  clear hr4 hm4
  go_wp2_with (first | go_skip | ((with_reducible apply wpList_skip); (· rfl); simp only [Act.put, List.setIfInBounds_toArray, List.set_cons_zero, List.set_cons_succ]) | (refine tWL ?_; simp only [Act.put, List.setIfInBounds_toArray, List.set_cons_zero, List.set_cons_succ, List.drop_zero, List.drop_succ_cons, List.take_succ_cons, List.take_zero, List.toList_toArray, NodeS.cells, OpS.cells, ResS.cells]) | (refine tWM ?_; simp only [Act.put, List.setIfInBounds_toArray, List.set_cons_zero, List.set_cons_succ]) | (refine tWS ?_; clear HX; intro w HX; simp only [Act.put, List.setIfInBounds_toArray, List.set_cons_zero, List.set_cons_succ, setMany, Nat.reduceAdd, NodeS.cells, OpS.cells, ResS.cells] at HX ⊢) | (refine tWT ?_; clear HX; intro w HX; simp only [Act.put, List.setIfInBounds_toArray, List.set_cons_zero, List.set_cons_succ, NodeS.cells, OpS.cells, ResS.cells] at HX ⊢) | (refine tWA ?_; clear HX; (first | (have hq := b9; clear hq; intro w b10 HX) | (have hq := b8; clear hq; intro w b9 HX) | (have hq := b7; clear hq; intro w b8 HX) | (have hq := b6; clear hq; intro w b7 HX) | (have hq := b5; clear hq; intro w b6 HX) | (have hq := b4; clear hq; intro w b5 HX) | (have hq := b3; clear hq; intro w b4 HX) | (have hq := b2; clear hq; intro w b3 HX) | (have hq := b; clear hq; intro w b2 HX) | intro w b HX); simp only [Act.put, List.setIfInBounds_toArray, List.set_cons_zero, List.set_cons_succ]) | (refine tWN ?_; clear HX; intro w mm HX; simp only [Act.put, List.setIfInBounds_toArray, List.set_cons_zero, List.set_cons_succ]) | (refine tWP ?_; clear HX; intro w av nv cv HX; simp only [Act.put, List.setIfInBounds_toArray, List.set_cons_zero, List.set_cons_succ]) | (refine tWD ?_; clear HX; (first | (have hq := b9; clear hq; intro w b10 HX) | (have hq := b8; clear hq; intro w b9 HX) | (have hq := b7; clear hq; intro w b8 HX) | (have hq := b6; clear hq; intro w b7 HX) | (have hq := b5; clear hq; intro w b6 HX) | (have hq := b4; clear hq; intro w b5 HX) | (have hq := b3; clear hq; intro w b4 HX) | (have hq := b2; clear hq; intro w b3 HX) | (have hq := b; clear hq; intro w b2 HX) | intro w b HX); simp only [Act.put, List.setIfInBounds_toArray, List.set_cons_zero, List.set_cons_succ, List.cons_append, List.nil_append] at HX ⊢) | (go_at_call 26; refine (made_any HX.out _ _).mono ?_; rintro e w ⟨rfl, hx⟩; clear HX; have HX := Lib.hid hx; clear hx; simp only [OpS.val, madeO]))
  have hm := prep_any (pt_cell (cs := [madeO pB 0].flatMap OpS.cells) (n := 1) HX.out rfl (by omega)) hd kC2.b (by omega) 1 1 [madeO pB 0] _ (List.mem_cons_self ..) (by intro o ho; simp only [List.mem_cons, List.not_mem_nil, or_false] at ho; first | (rcases ho with rfl | rfl <;> decide) | (subst ho; decide))
  rw [kn6] at hm
  refine hm.mono ?_
  clear hm
  rintro e w ⟨P1, rfl, -, hx⟩
  clear HX
  have HX := Lib.hid hx
  clear hx
  dsimp only at HX ⊢
  go_wp2_with (first | go_skip | ((with_reducible apply wpList_skip); (· rfl); simp only [Act.put, List.setIfInBounds_toArray, List.set_cons_zero, List.set_cons_succ]) | (refine tWL ?_; simp only [Act.put, List.setIfInBounds_toArray, List.set_cons_zero, List.set_cons_succ, List.drop_zero, List.drop_succ_cons, List.take_succ_cons, List.take_zero, List.toList_toArray, NodeS.cells, OpS.cells, ResS.cells]) | (refine tWM ?_; simp only [Act.put, List.setIfInBounds_toArray, List.set_cons_zero, List.set_cons_succ]) | (refine tWS ?_; clear HX; intro w HX; simp only [Act.put, List.setIfInBounds_toArray, List.set_cons_zero, List.set_cons_succ, setMany, Nat.reduceAdd, NodeS.cells, OpS.cells, ResS.cells] at HX ⊢) | (refine tWT ?_; clear HX; intro w HX; simp only [Act.put, List.setIfInBounds_toArray, List.set_cons_zero, List.set_cons_succ, NodeS.cells, OpS.cells, ResS.cells] at HX ⊢) | (refine tWA ?_; clear HX; (first | (have hq := b9; clear hq; intro w b10 HX) | (have hq := b8; clear hq; intro w b9 HX) | (have hq := b7; clear hq; intro w b8 HX) | (have hq := b6; clear hq; intro w b7 HX) | (have hq := b5; clear hq; intro w b6 HX) | (have hq := b4; clear hq; intro w b5 HX) | (have hq := b3; clear hq; intro w b4 HX) | (have hq := b2; clear hq; intro w b3 HX) | (have hq := b; clear hq; intro w b2 HX) | intro w b HX); simp only [Act.put, List.setIfInBounds_toArray, List.set_cons_zero, List.set_cons_succ]) | (refine tWN ?_; clear HX; intro w mm HX; simp only [Act.put, List.setIfInBounds_toArray, List.set_cons_zero, List.set_cons_succ]) | (refine tWP ?_; clear HX; intro w av nv cv HX; simp only [Act.put, List.setIfInBounds_toArray, List.set_cons_zero, List.set_cons_succ]) | (refine tWD ?_; clear HX; (first | (have hq := b9; clear hq; intro w b10 HX) | (have hq := b8; clear hq; intro w b9 HX) | (have hq := b7; clear hq; intro w b8 HX) | (have hq := b6; clear hq; intro w b7 HX) | (have hq := b5; clear hq; intro w b6 HX) | (have hq := b4; clear hq; intro w b5 HX) | (have hq := b3; clear hq; intro w b4 HX) | (have hq := b2; clear hq; intro w b3 HX) | (have hq := b; clear hq; intro w b2 HX) | intro w b HX); simp only [Act.put, List.setIfInBounds_toArray, List.set_cons_zero, List.set_cons_succ, List.cons_append, List.nil_append] at HX ⊢))
  have hm := decide_any HX.out hd kC2.b (by have := kC2.len; omega) (by omega) 1 true
  rw [kn7] at hm
  refine hm.mono ?_
  clear hm
  rintro e w ⟨P4, a4, n4, c4, xs4, rfl, -, hr4, hm4, hx⟩
  clear HX
  have HX := Lib.hid hx
  clear hx
  dsimp only at HX hr4 hm4 ⊢
  clear hr4 hm4
  go_wp2_with (first | go_skip | ((with_reducible apply wpList_skip); (· rfl); simp only [Act.put, List.setIfInBounds_toArray, List.set_cons_zero, List.set_cons_succ]) | (refine tWL ?_; simp only [Act.put, List.setIfInBounds_toArray, List.set_cons_zero, List.set_cons_succ, List.drop_zero, List.drop_succ_cons, List.take_succ_cons, List.take_zero, List.toList_toArray, NodeS.cells, OpS.cells, ResS.cells]) | (refine tWM ?_; simp only [Act.put, List.setIfInBounds_toArray, List.set_cons_zero, List.set_cons_succ]) | (refine tWS ?_; clear HX; intro w HX; simp only [Act.put, List.setIfInBounds_toArray, List.set_cons_zero, List.set_cons_succ, setMany, Nat.reduceAdd, NodeS.cells, OpS.cells, ResS.cells] at HX ⊢) | (refine tWT ?_; clear HX; intro w HX; simp only [Act.put, List.setIfInBounds_toArray, List.set_cons_zero, List.set_cons_succ, NodeS.cells, OpS.cells, ResS.cells] at HX ⊢) | (refine tWA ?_; clear HX; (first | (have hq := b9; clear hq; intro w b10 HX) | (have hq := b8; clear hq; intro w b9 HX) | (have hq := b7; clear hq; intro w b8 HX) | (have hq := b6; clear hq; intro w b7 HX) | (have hq := b5; clear hq; intro w b6 HX) | (have hq := b4; clear hq; intro w b5 HX) | (have hq := b3; clear hq; intro w b4 HX) | (have hq := b2; clear hq; intro w b3 HX) | (have hq := b; clear hq; intro w b2 HX) | intro w b HX); simp only [Act.put, List.setIfInBounds_toArray, List.set_cons_zero, List.set_cons_succ]) | (refine tWN ?_; clear HX; intro w mm HX; simp only [Act.put, List.setIfInBounds_toArray, List.set_cons_zero, List.set_cons_succ]) | (refine tWP ?_; clear HX; intro w av nv cv HX; simp only [Act.put, List.setIfInBounds_toArray, List.set_cons_zero, List.set_cons_succ]) | (refine tWD ?_; clear HX; (first | (have hq := b9; clear hq; intro w b10 HX) | (have hq := b8; clear hq; intro w b9 HX) | (have hq := b7; clear hq; intro w b8 HX) | (have hq := b6; clear hq; intro w b7 HX) | (have hq := b5; clear hq; intro w b6 HX) | (have hq := b4; clear hq; intro w b5 HX) | (have hq := b3; clear hq; intro w b4 HX) | (have hq := b2; clear hq; intro w b3 HX) | (have hq := b; clear hq; intro w b2 HX) | intro w b HX); simp only [Act.put, List.setIfInBounds_toArray, List.set_cons_zero, List.set_cons_succ, List.cons_append, List.nil_append] at HX ⊢) | (go_at_call 26; refine (made_any HX.out _ _).mono ?_; rintro e w ⟨rfl, hx⟩; clear HX; have HX := Lib.hid hx; clear hx; simp only [OpS.val, madeO]))
  have hm := prep_any (pt_cell (cs := [madeO pC 1].flatMap OpS.cells) (n := 1) HX.out rfl (by omega)) hd kC2.b (by omega) 2 5 [madeO pC 1] _ (List.mem_cons_self ..) (by intro o ho; simp only [List.mem_cons, List.not_mem_nil, or_false] at ho; first | (rcases ho with rfl | rfl <;> decide) | (subst ho; decide))
  rw [kn8] at hm
  refine hm.mono ?_
  clear hm
  rintro e w ⟨P1, rfl, -, hx⟩
  clear HX
  have HX := Lib.hid hx
  clear hx
  dsimp only at HX ⊢
  go_wp2_with (first | go_skip | ((with_reducible apply wpList_skip); (· rfl); simp only [Act.put, List.setIfInBounds_toArray, List.set_cons_zero, List.set_cons_succ]) | (refine tWL ?_; simp only [Act.put, List.setIfInBounds_toArray, List.set_cons_zero, List.set_cons_succ, List.drop_zero, List.drop_succ_cons, List.take_succ_cons, List.take_zero, List.toList_toArray, NodeS.cells, OpS.cells, ResS.cells]) | (refine tWM ?_; simp only [Act.put, List.setIfInBounds_toArray, List.set_cons_zero, List.set_cons_succ]) | (refine tWS ?_; clear HX; intro w HX; simp only [Act.put, List.setIfInBounds_toArray, List.set_cons_zero, List.set_cons_succ, setMany, Nat.reduceAdd, NodeS.cells, OpS.cells, ResS.cells] at HX ⊢) | (refine tWT ?_; clear HX; intro w HX; simp only [Act.put, List.setIfInBounds_toArray, List.set_cons_zero, List.set_cons_succ, NodeS.cells, OpS.cells, ResS.cells] at HX ⊢) | (refine tWA ?_; clear HX; (first | (have hq := b9; clear hq; intro w b10 HX) | (have hq := b8; clear hq; intro w b9 HX) | (have hq := b7; clear hq; intro w b8 HX) | (have hq := b6; clear hq; intro w b7 HX) | (have hq := b5; clear hq; intro w b6 HX) | (have hq := b4; clear hq; intro w b5 HX) | (have hq := b3; clear hq; intro w b4 HX) | (have hq := b2; clear hq; intro w b3 HX) | (have hq := b; clear hq; intro w b2 HX) | intro w b HX); simp only [Act.put, List.setIfInBounds_toArray, List.set_cons_zero, List.set_cons_succ]) | (refine tWN ?_; clear HX; intro w mm HX; simp only [Act.put, List.setIfInBounds_toArray, List.set_cons_zero, List.set_cons_succ]) | (refine tWP ?_; clear HX; intro w av nv cv HX; simp only [Act.put, List.setIfInBounds_toArray, List.set_cons_zero, List.set_cons_succ]) | (refine tWD ?_; clear HX; (first | (have hq := b9; clear hq; intro w b10 HX) | (have hq := b8; clear hq; intro w b9 HX) | (have hq := b7; clear hq; intro w b8 HX) | (have hq := b6; clear hq; intro w b7 HX) | (have hq := b5; clear hq; intro w b6 HX) | (have hq := b4; clear hq; intro w b5 HX) | (have hq := b3; clear hq; intro w b4 HX) | (have hq := b2; clear hq; intro w b3 HX) | (have hq := b; clear hq; intro w b2 HX) | intro w b HX); simp only [Act.put, List.setIfInBounds_toArray, List.set_cons_zero, List.set_cons_succ, List.cons_append, List.nil_append] at HX ⊢) | (go_at_call 26; refine (made_any HX.out _ _).mono ?_; rintro e w ⟨rfl, hx⟩; clear HX; have HX := Lib.hid hx; clear hx; simp only [OpS.val, madeO]))
  obtain ⟨z9, rs9, hr9⟩ := kn9
  have hm := local_any (pt_cell (cs := [madeO pD 0, madeO pE 0].flatMap OpS.cells) (n := 2) HX.out rfl (by omega)) hd kC3.b (by omega) 1 1 [madeO pD 0, madeO pE 0] _ (List.mem_cons_self ..) (by intro o ho; simp only [List.mem_cons, List.not_mem_nil, or_false] at ho; rcases ho with rfl | rfl <;> decide)
  rw [hr9] at hm
  refine hm.mono ?_
  clear hm hr9
  rintro e w ⟨_, P9, rfl, -, ⟨a9, n9, c9, xs9, rfl, -⟩, hx⟩
  clear HX
  have HX := Lib.hid hx
  clear hx
  dsimp only at HX ⊢
  go_wp2_with (first | go_skip | ((with_reducible apply wpList_skip); (· rfl); simp only [Act.put, List.setIfInBounds_toArray, List.set_cons_zero, List.set_cons_succ]) | (refine tWL ?_; simp only [Act.put, List.setIfInBounds_toArray, List.set_cons_zero, List.set_cons_succ, List.drop_zero, List.drop_succ_cons, List.take_succ_cons, List.take_zero, List.toList_toArray, NodeS.cells, OpS.cells, ResS.cells]) | (refine tWM ?_; simp only [Act.put, List.setIfInBounds_toArray, List.set_cons_zero, List.set_cons_succ]) | (refine tWS ?_; clear HX; intro w HX; simp only [Act.put, List.setIfInBounds_toArray, List.set_cons_zero, List.set_cons_succ, setMany, Nat.reduceAdd, NodeS.cells, OpS.cells, ResS.cells] at HX ⊢) | (refine tWT ?_; clear HX; intro w HX; simp only [Act.put, List.setIfInBounds_toArray, List.set_cons_zero, List.set_cons_succ, NodeS.cells, OpS.cells, ResS.cells] at HX ⊢) | (refine tWA ?_; clear HX; (first | (have hq := b9; clear hq; intro w b10 HX) | (have hq := b8; clear hq; intro w b9 HX) | (have hq := b7; clear hq; intro w b8 HX) | (have hq := b6; clear hq; intro w b7 HX) | (have hq := b5; clear hq; intro w b6 HX) | (have hq := b4; clear hq; intro w b5 HX) | (have hq := b3; clear hq; intro w b4 HX) | (have hq := b2; clear hq; intro w b3 HX) | (have hq := b; clear hq; intro w b2 HX) | intro w b HX); simp only [Act.put, List.setIfInBounds_toArray, List.set_cons_zero, List.set_cons_succ]) | (refine tWN ?_; clear HX; intro w mm HX; simp only [Act.put, List.setIfInBounds_toArray, List.set_cons_zero, List.set_cons_succ]) | (refine tWP ?_; clear HX; intro w av nv cv HX; simp only [Act.put, List.setIfInBounds_toArray, List.set_cons_zero, List.set_cons_succ]) | (refine tWD ?_; clear HX; (first | (have hq := b9; clear hq; intro w b10 HX) | (have hq := b8; clear hq; intro w b9 HX) | (have hq := b7; clear hq; intro w b8 HX) | (have hq := b6; clear hq; intro w b7 HX) | (have hq := b5; clear hq; intro w b6 HX) | (have hq := b4; clear hq; intro w b5 HX) | (have hq := b3; clear hq; intro w b4 HX) | (have hq := b2; clear hq; intro w b3 HX) | (have hq := b; clear hq; intro w b2 HX) | intro w b HX); simp only [Act.put, List.setIfInBounds_toArray, List.set_cons_zero, List.set_cons_succ, List.cons_append, List.nil_append] at HX ⊢))
  have hm := close_any HX.out.up2.up2 hd kC4.b (by omega) 4 5
  rw [kn10] at hm
  refine hm.mono ?_
  clear hm
  rintro e w ⟨P10, rfl, -, hx⟩
  clear HX
  have HX := Lib.hid hx
  clear hx
  dsimp only at HX ⊢
  go_wp2_with (first | go_skip | ((with_reducible apply wpList_skip); (· rfl); simp only [Act.put, List.setIfInBounds_toArray, List.set_cons_zero, List.set_cons_succ]) | (refine tWL ?_; simp only [Act.put, List.setIfInBounds_toArray, List.set_cons_zero, List.set_cons_succ, List.drop_zero, List.drop_succ_cons, List.take_succ_cons, List.take_zero, List.toList_toArray, NodeS.cells, OpS.cells, ResS.cells]) | (refine tWM ?_; simp only [Act.put, List.setIfInBounds_toArray, List.set_cons_zero, List.set_cons_succ]) | (refine tWS ?_; clear HX; intro w HX; simp only [Act.put, List.setIfInBounds_toArray, List.set_cons_zero, List.set_cons_succ, setMany, Nat.reduceAdd, NodeS.cells, OpS.cells, ResS.cells] at HX ⊢) | (refine tWT ?_; clear HX; intro w HX; simp only [Act.put, List.setIfInBounds_toArray, List.set_cons_zero, List.set_cons_succ, NodeS.cells, OpS.cells, ResS.cells] at HX ⊢) | (refine tWA ?_; clear HX; (first | (have hq := b9; clear hq; intro w b10 HX) | (have hq := b8; clear hq; intro w b9 HX) | (have hq := b7; clear hq; intro w b8 HX) | (have hq := b6; clear hq; intro w b7 HX) | (have hq := b5; clear hq; intro w b6 HX) | (have hq := b4; clear hq; intro w b5 HX) | (have hq := b3; clear hq; intro w b4 HX) | (have hq := b2; clear hq; intro w b3 HX) | (have hq := b; clear hq; intro w b2 HX) | intro w b HX); simp only [Act.put, List.setIfInBounds_toArray, List.set_cons_zero, List.set_cons_succ]) | (refine tWN ?_; clear HX; intro w mm HX; simp only [Act.put, List.setIfInBounds_toArray, List.set_cons_zero, List.set_cons_succ]) | (refine tWP ?_; clear HX; intro w av nv cv HX; simp only [Act.put, List.setIfInBounds_toArray, List.set_cons_zero, List.set_cons_succ]) | (refine tWD ?_; clear HX; (first | (have hq := b9; clear hq; intro w b10 HX) | (have hq := b8; clear hq; intro w b9 HX) | (have hq := b7; clear hq; intro w b8 HX) | (have hq := b6; clear hq; intro w b7 HX) | (have hq := b5; clear hq; intro w b6 HX) | (have hq := b4; clear hq; intro w b5 HX) | (have hq := b3; clear hq; intro w b4 HX) | (have hq := b2; clear hq; intro w b3 HX) | (have hq := b; clear hq; intro w b2 HX) | intro w b HX); simp only [Act.put, List.setIfInBounds_toArray, List.set_cons_zero, List.set_cons_succ, List.cons_append, List.nil_append] at HX ⊢))
  obtain ⟨rs11, hr11⟩ := kn11
  have hm := decide_any HX.out hd kC4.b (by have := kC4.len; omega) (by omega) 2 true
  rw [hr11] at hm
  refine hm.mono ?_
  clear hm
  rintro e w ⟨P4, a4, n4, c4, xs4, rfl, -, hr4, hm4, hx⟩
  clear HX
  have HX := Lib.hid hx
  clear hx
  dsimp only at HX hr4 hm4 ⊢
  clear hr4 hm4 hr11
  go_wp2_with (first | go_skip | ((with_reducible apply wpList_skip); (· rfl); simp only [Act.put, List.setIfInBounds_toArray, List.set_cons_zero, List.set_cons_succ]) | (refine tWL ?_; simp only [Act.put, List.setIfInBounds_toArray, List.set_cons_zero, List.set_cons_succ, List.drop_zero, List.drop_succ_cons, List.take_succ_cons, List.take_zero, List.toList_toArray, NodeS.cells, OpS.cells, ResS.cells]) | (refine tWM ?_; simp only [Act.put, List.setIfInBounds_toArray, List.set_cons_zero, List.set_cons_succ]) | (refine tWS ?_; clear HX; intro w HX; simp only [Act.put, List.setIfInBounds_toArray, List.set_cons_zero, List.set_cons_succ, setMany, Nat.reduceAdd, NodeS.cells, OpS.cells, ResS.cells] at HX ⊢) | (refine tWT ?_; clear HX; intro w HX; simp only [Act.put, List.setIfInBounds_toArray, List.set_cons_zero, List.set_cons_succ, NodeS.cells, OpS.cells, ResS.cells] at HX ⊢) | (refine tWA ?_; clear HX; (first | (have hq := b9; clear hq; intro w b10 HX) | (have hq := b8; clear hq; intro w b9 HX) | (have hq := b7; clear hq; intro w b8 HX) | (have hq := b6; clear hq; intro w b7 HX) | (have hq := b5; clear hq; intro w b6 HX) | (have hq := b4; clear hq; intro w b5 HX) | (have hq := b3; clear hq; intro w b4 HX) | (have hq := b2; clear hq; intro w b3 HX) | (have hq := b; clear hq; intro w b2 HX) | intro w b HX); simp only [Act.put, List.setIfInBounds_toArray, List.set_cons_zero, List.set_cons_succ]) | (refine tWN ?_; clear HX; intro w mm HX; simp only [Act.put, List.setIfInBounds_toArray, List.set_cons_zero, List.set_cons_succ]) | (refine tWP ?_; clear HX; intro w av nv cv HX; simp only [Act.put, List.setIfInBounds_toArray, List.set_cons_zero, List.set_cons_succ]) | (refine tWD ?_; clear HX; (first | (have hq := b9; clear hq; intro w b10 HX) | (have hq := b8; clear hq; intro w b9 HX) | (have hq := b7; clear hq; intro w b8 HX) | (have hq := b6; clear hq; intro w b7 HX) | (have hq := b5; clear hq; intro w b6 HX) | (have hq := b4; clear hq; intro w b5 HX) | (have hq := b3; clear hq; intro w b4 HX) | (have hq := b2; clear hq; intro w b3 HX) | (have hq := b; clear hq; intro w b2 HX) | intro w b HX); simp only [Act.put, List.setIfInBounds_toArray, List.set_cons_zero, List.set_cons_succ, List.cons_append, List.nil_append] at HX ⊢))
  have hm := close_any HX.out hd kC5.b (by omega) 4 5
  rw [kn12] at hm
  refine hm.mono ?_
  clear hm
  rintro e w ⟨P12, rfl, -, hx⟩
  clear HX
  have HX := Lib.hid hx
  clear hx
  dsimp only at HX ⊢
  go_wp2_with (first | go_skip | ((with_reducible apply wpList_skip); (· rfl); simp only [Act.put, List.setIfInBounds_toArray, List.set_cons_zero, List.set_cons_succ]) | (refine tWL ?_; simp only [Act.put, List.setIfInBounds_toArray, List.set_cons_zero, List.set_cons_succ, List.drop_zero, List.drop_succ_cons, List.take_succ_cons, List.take_zero, List.toList_toArray, NodeS.cells, OpS.cells, ResS.cells]) | (refine tWM ?_; simp only [Act.put, List.setIfInBounds_toArray, List.set_cons_zero, List.set_cons_succ]) | (refine tWS ?_; clear HX; intro w HX; simp only [Act.put, List.setIfInBounds_toArray, List.set_cons_zero, List.set_cons_succ, setMany, Nat.reduceAdd, NodeS.cells, OpS.cells, ResS.cells] at HX ⊢) | (refine tWT ?_; clear HX; intro w HX; simp only [Act.put, List.setIfInBounds_toArray, List.set_cons_zero, List.set_cons_succ, NodeS.cells, OpS.cells, ResS.cells] at HX ⊢) | (refine tWA ?_; clear HX; (first | (have hq := b9; clear hq; intro w b10 HX) | (have hq := b8; clear hq; intro w b9 HX) | (have hq := b7; clear hq; intro w b8 HX) | (have hq := b6; clear hq; intro w b7 HX) | (have hq := b5; clear hq; intro w b6 HX) | (have hq := b4; clear hq; intro w b5 HX) | (have hq := b3; clear hq; intro w b4 HX) | (have hq := b2; clear hq; intro w b3 HX) | (have hq := b; clear hq; intro w b2 HX) | intro w b HX); simp only [Act.put, List.setIfInBounds_toArray, List.set_cons_zero, List.set_cons_succ]) | (refine tWN ?_; clear HX; intro w mm HX; simp only [Act.put, List.setIfInBounds_toArray, List.set_cons_zero, List.set_cons_succ]) | (refine tWP ?_; clear HX; intro w av nv cv HX; simp only [Act.put, List.setIfInBounds_toArray, List.set_cons_zero, List.set_cons_succ]) | (refine tWD ?_; clear HX; (first | (have hq := b9; clear hq; intro w b10 HX) | (have hq := b8; clear hq; intro w b9 HX) | (have hq := b7; clear hq; intro w b8 HX) | (have hq := b6; clear hq; intro w b7 HX) | (have hq := b5; clear hq; intro w b6 HX) | (have hq := b4; clear hq; intro w b5 HX) | (have hq := b3; clear hq; intro w b4 HX) | (have hq := b2; clear hq; intro w b3 HX) | (have hq := b; clear hq; intro w b2 HX) | intro w b HX); simp only [Act.put, List.setIfInBounds_toArray, List.set_cons_zero, List.set_cons_succ, List.cons_append, List.nil_append] at HX ⊢) | (go_at_call 26; refine (made_any HX.out _ _).mono ?_; rintro e w ⟨rfl, hx⟩; clear HX; have HX := Lib.hid hx; clear hx; simp only [OpS.val, madeO]))
  obtain ⟨z13, rs13, hr13⟩ := kn13
  have hm := local_any (pt_cell (cs := [madeO pF 0].flatMap OpS.cells) (n := 1) HX.out rfl (by omega)) hd kC6.b (by omega) 5 1 [madeO pF 0] _ (List.mem_cons_self ..) (by intro o ho; simp only [List.mem_cons, List.not_mem_nil, or_false] at ho; subst ho; decide)
  rw [hr13] at hm
  refine hm.mono ?_
  clear hm hr13
  rintro e w ⟨_, P13, rfl, -, ⟨a13, n13, c13, xs13, rfl, -⟩, hx⟩
  clear HX
  have HX := Lib.hid hx
  clear hx
  dsimp only at HX ⊢
  go_wp2_with (first | go_skip | ((with_reducible apply wpList_skip); (· rfl); simp only [Act.put, List.setIfInBounds_toArray, List.set_cons_zero, List.set_cons_succ]) | (refine tWL ?_; simp only [Act.put, List.setIfInBounds_toArray, List.set_cons_zero, List.set_cons_succ, List.drop_zero, List.drop_succ_cons, List.take_succ_cons, List.take_zero, List.toList_toArray, NodeS.cells, OpS.cells, ResS.cells]) | (refine tWM ?_; simp only [Act.put, List.setIfInBounds_toArray, List.set_cons_zero, List.set_cons_succ]) | (refine tWS ?_; clear HX; intro w HX; simp only [Act.put, List.setIfInBounds_toArray, List.set_cons_zero, List.set_cons_succ, setMany, Nat.reduceAdd, NodeS.cells, OpS.cells, ResS.cells] at HX ⊢) | (refine tWT ?_; clear HX; intro w HX; simp only [Act.put, List.setIfInBounds_toArray, List.set_cons_zero, List.set_cons_succ, NodeS.cells, OpS.cells, ResS.cells] at HX ⊢) | (refine tWA ?_; clear HX; (first | (have hq := b9; clear hq; intro w b10 HX) | (have hq := b8; clear hq; intro w b9 HX) | (have hq := b7; clear hq; intro w b8 HX) | (have hq := b6; clear hq; intro w b7 HX) | (have hq := b5; clear hq; intro w b6 HX) | (have hq := b4; clear hq; intro w b5 HX) | (have hq := b3; clear hq; intro w b4 HX) | (have hq := b2; clear hq; intro w b3 HX) | (have hq := b; clear hq; intro w b2 HX) | intro w b HX); simp only [Act.put, List.setIfInBounds_toArray, List.set_cons_zero, List.set_cons_succ]) | (refine tWN ?_; clear HX; intro w mm HX; simp only [Act.put, List.setIfInBounds_toArray, List.set_cons_zero, List.set_cons_succ]) | (refine tWP ?_; clear HX; intro w av nv cv HX; simp only [Act.put, List.setIfInBounds_toArray, List.set_cons_zero, List.set_cons_succ]) | (refine tWD ?_; clear HX; (first | (have hq := b9; clear hq; intro w b10 HX) | (have hq := b8; clear hq; intro w b9 HX) | (have hq := b7; clear hq; intro w b8 HX) | (have hq := b6; clear hq; intro w b7 HX) | (have hq := b5; clear hq; intro w b6 HX) | (have hq := b4; clear hq; intro w b5 HX) | (have hq := b3; clear hq; intro w b4 HX) | (have hq := b2; clear hq; intro w b3 HX) | (have hq := b; clear hq; intro w b2 HX) | intro w b HX); simp only [Act.put, List.setIfInBounds_toArray, List.set_cons_zero, List.set_cons_succ, List.cons_append, List.nil_append] at HX ⊢))
  have hx := HX.out.up2.up2
  clear HX
  have HX := Lib.hid hx
  clear hx
  have hm := decide_any HX.out hd kC7.b (by have := kC7.len; omega) (by omega) 4 true
  rw [kn14] at hm
  refine hm.mono ?_
  clear hm
  rintro e w ⟨P4, a4, n4, c4, xs4, rfl, -, hr4, hm4, hx⟩
  clear HX
  have HX := Lib.hid hx
  clear hx
  dsimp only at HX hr4 hm4 ⊢
  clear hr4 hm4
  go_wp2_with (first | go_skip | ((with_reducible apply wpList_skip); (· rfl); simp only [Act.put, List.setIfInBounds_toArray, List.set_cons_zero, List.set_cons_succ]) | (refine tWL ?_; simp only [Act.put, List.setIfInBounds_toArray, List.set_cons_zero, List.set_cons_succ, List.drop_zero, List.drop_succ_cons, List.take_succ_cons, List.take_zero, List.toList_toArray, NodeS.cells, OpS.cells, ResS.cells]) | (refine tWM ?_; simp only [Act.put, List.setIfInBounds_toArray, List.set_cons_zero, List.set_cons_succ]) | (refine tWS ?_; clear HX; intro w HX; simp only [Act.put, List.setIfInBounds_toArray, List.set_cons_zero, List.set_cons_succ, setMany, Nat.reduceAdd, NodeS.cells, OpS.cells, ResS.cells] at HX ⊢) | (refine tWT ?_; clear HX; intro w HX; simp only [Act.put, List.setIfInBounds_toArray, List.set_cons_zero, List.set_cons_succ, NodeS.cells, OpS.cells, ResS.cells] at HX ⊢) | (refine tWA ?_; clear HX; (first | (have hq := b9; clear hq; intro w b10 HX) | (have hq := b8; clear hq; intro w b9 HX) | (have hq := b7; clear hq; intro w b8 HX) | (have hq := b6; clear hq; intro w b7 HX) | (have hq := b5; clear hq; intro w b6 HX) | (have hq := b4; clear hq; intro w b5 HX) | (have hq := b3; clear hq; intro w b4 HX) | (have hq := b2; clear hq; intro w b3 HX) | (have hq := b; clear hq; intro w b2 HX) | intro w b HX); simp only [Act.put, List.setIfInBounds_toArray, List.set_cons_zero, List.set_cons_succ]) | (refine tWN ?_; clear HX; intro w mm HX; simp only [Act.put, List.setIfInBounds_toArray, List.set_cons_zero, List.set_cons_succ]) | (refine tWP ?_; clear HX; intro w av nv cv HX; simp only [Act.put, List.setIfInBounds_toArray, List.set_cons_zero, List.set_cons_succ]) | (refine tWD ?_; clear HX; (first | (have hq := b9; clear hq; intro w b10 HX) | (have hq := b8; clear hq; intro w b9 HX) | (have hq := b7; clear hq; intro w b8 HX) | (have hq := b6; clear hq; intro w b7 HX) | (have hq := b5; clear hq; intro w b6 HX) | (have hq := b4; clear hq; intro w b5 HX) | (have hq := b3; clear hq; intro w b4 HX) | (have hq := b2; clear hq; intro w b3 HX) | (have hq := b; clear hq; intro w b2 HX) | intro w b HX); simp only [Act.put, List.setIfInBounds_toArray, List.set_cons_zero, List.set_cons_succ, List.cons_append, List.nil_append] at HX ⊢) | (go_at_call 26; refine (made_any HX.out _ _).mono ?_; rintro e w ⟨rfl, hx⟩; clear HX; have HX := Lib.hid hx; clear hx; simp only [OpS.val, madeO]))
  obtain ⟨z15, r15, hr15⟩ := kn15
  have hm := local_any (pt_cell (cs := [madeO pF 0].flatMap OpS.cells) (n := 1) HX.out rfl (by omega)) hd kC8.b (by omega) 5 1 [madeO pF 0] _ (List.mem_cons_self ..) (by intro o ho; simp only [List.mem_cons, List.not_mem_nil, or_false] at ho; subst ho; decide)
  rw [hr15] at hm
  refine hm.mono ?_
  clear hm hr15
  rintro e w ⟨_, P15, rfl, -, ⟨a15, n15, c15, xs15, rfl, hr15, hm15⟩, hx⟩
  obtain rfl : n15 = 1 := rep_len hx hr15 hm15
  clear HX
  have HX := Lib.hid hx
  clear hx
  clear hr15 hm15
  dsimp only at HX ⊢
  go_wp2_with (first | go_skip | ((with_reducible apply wpList_skip); (· rfl); simp only [Act.put, List.setIfInBounds_toArray, List.set_cons_zero, List.set_cons_succ]) | (refine tWL ?_; simp only [Act.put, List.setIfInBounds_toArray, List.set_cons_zero, List.set_cons_succ, List.drop_zero, List.drop_succ_cons, List.take_succ_cons, List.take_zero, List.toList_toArray, NodeS.cells, OpS.cells, ResS.cells]) | (refine tWM ?_; simp only [Act.put, List.setIfInBounds_toArray, List.set_cons_zero, List.set_cons_succ]) | (refine tWS ?_; clear HX; intro w HX; simp only [Act.put, List.setIfInBounds_toArray, List.set_cons_zero, List.set_cons_succ, setMany, Nat.reduceAdd, NodeS.cells, OpS.cells, ResS.cells] at HX ⊢) | (refine tWT ?_; clear HX; intro w HX; simp only [Act.put, List.setIfInBounds_toArray, List.set_cons_zero, List.set_cons_succ, NodeS.cells, OpS.cells, ResS.cells] at HX ⊢) | (refine tWA ?_; clear HX; (first | (have hq := b9; clear hq; intro w b10 HX) | (have hq := b8; clear hq; intro w b9 HX) | (have hq := b7; clear hq; intro w b8 HX) | (have hq := b6; clear hq; intro w b7 HX) | (have hq := b5; clear hq; intro w b6 HX) | (have hq := b4; clear hq; intro w b5 HX) | (have hq := b3; clear hq; intro w b4 HX) | (have hq := b2; clear hq; intro w b3 HX) | (have hq := b; clear hq; intro w b2 HX) | intro w b HX); simp only [Act.put, List.setIfInBounds_toArray, List.set_cons_zero, List.set_cons_succ]) | (refine tWN ?_; clear HX; intro w mm HX; simp only [Act.put, List.setIfInBounds_toArray, List.set_cons_zero, List.set_cons_succ]) | (refine tWP ?_; clear HX; intro w av nv cv HX; simp only [Act.put, List.setIfInBounds_toArray, List.set_cons_zero, List.set_cons_succ]) | (refine tWD ?_; clear HX; (first | (have hq := b9; clear hq; intro w b10 HX) | (have hq := b8; clear hq; intro w b9 HX) | (have hq := b7; clear hq; intro w b8 HX) | (have hq := b6; clear hq; intro w b7 HX) | (have hq := b5; clear hq; intro w b6 HX) | (have hq := b4; clear hq; intro w b5 HX) | (have hq := b3; clear hq; intro w b4 HX) | (have hq := b2; clear hq; intro w b3 HX) | (have hq := b; clear hq; intro w b2 HX) | intro w b HX); simp only [Act.put, List.setIfInBounds_toArray, List.set_cons_zero, List.set_cons_succ, List.cons_append, List.nil_append] at HX ⊢))
  have hm := close_any HX.out.up2.up2 hd kC9.b (by omega) 6 5
  rw [kn16] at hm
  refine hm.mono ?_
  clear hm
  rintro e w ⟨P16, rfl, -, hx⟩
  clear HX
  have HX := Lib.hid hx
  clear hx
  dsimp only at HX ⊢
  have r1 := cell_of HX.out.up2.blk 2 (v := .int .i64 11) rfl
  have r2 := cell_of HX.out.up2.blk 3 (v := .int .i64 (-1)) rfl
  have r3 := cell_of HX.out.up2.blk 4 (v := .slice a15 1 c15) rfl
  have r4 := cell_of HX.out.up3.blk 2 (v := .int .i64 12) rfl
  have r5 := cell_of HX.out.up3.blk 3 (v := .int .i64 (-1)) rfl
  have r6 := cell_of HX.out.up4.blk 2 (v := .int .i64 12) rfl
  have r7 := cell_of HX.out.up4.blk 3 (v := .int .i64 0) rfl
  go_wp2_with (first | go_skip | ((with_reducible apply wpList_skip); (· rfl); simp only [Act.put, List.setIfInBounds_toArray, List.set_cons_zero, List.set_cons_succ]) | (refine tWL ?_; simp only [Act.put, List.setIfInBounds_toArray, List.set_cons_zero, List.set_cons_succ, List.drop_zero, List.drop_succ_cons, List.take_succ_cons, List.take_zero, List.toList_toArray, NodeS.cells, OpS.cells, ResS.cells]) | (refine tWM ?_; simp only [Act.put, List.setIfInBounds_toArray, List.set_cons_zero, List.set_cons_succ]) | (refine tWS ?_; clear HX; intro w HX; simp only [Act.put, List.setIfInBounds_toArray, List.set_cons_zero, List.set_cons_succ, setMany, Nat.reduceAdd, NodeS.cells, OpS.cells, ResS.cells] at HX ⊢) | (refine tWT ?_; clear HX; intro w HX; simp only [Act.put, List.setIfInBounds_toArray, List.set_cons_zero, List.set_cons_succ, NodeS.cells, OpS.cells, ResS.cells] at HX ⊢) | (refine tWA ?_; clear HX; (first | (have hq := b9; clear hq; intro w b10 HX) | (have hq := b8; clear hq; intro w b9 HX) | (have hq := b7; clear hq; intro w b8 HX) | (have hq := b6; clear hq; intro w b7 HX) | (have hq := b5; clear hq; intro w b6 HX) | (have hq := b4; clear hq; intro w b5 HX) | (have hq := b3; clear hq; intro w b4 HX) | (have hq := b2; clear hq; intro w b3 HX) | (have hq := b; clear hq; intro w b2 HX) | intro w b HX); simp only [Act.put, List.setIfInBounds_toArray, List.set_cons_zero, List.set_cons_succ]) | (refine tWN ?_; clear HX; intro w mm HX; simp only [Act.put, List.setIfInBounds_toArray, List.set_cons_zero, List.set_cons_succ]) | (refine tWP ?_; clear HX; intro w av nv cv HX; simp only [Act.put, List.setIfInBounds_toArray, List.set_cons_zero, List.set_cons_succ]) | (refine tWD ?_; clear HX; (first | (have hq := b9; clear hq; intro w b10 HX) | (have hq := b8; clear hq; intro w b9 HX) | (have hq := b7; clear hq; intro w b8 HX) | (have hq := b6; clear hq; intro w b7 HX) | (have hq := b5; clear hq; intro w b6 HX) | (have hq := b4; clear hq; intro w b5 HX) | (have hq := b3; clear hq; intro w b4 HX) | (have hq := b2; clear hq; intro w b3 HX) | (have hq := b; clear hq; intro w b2 HX) | intro w b HX); simp only [Act.put, List.setIfInBounds_toArray, List.set_cons_zero, List.set_cons_succ, List.cons_append, List.nil_append] at HX ⊢))
  clear r1 r2 r3 r4 r5 r6 r7
  refine (closed_any HX.out.up1 5).mono ?_
  rw [decide_eq_true kn17.1]
  rintro e w ⟨rfl, hx⟩
  have hx := hx.up1
  clear HX
  have HX := Lib.hid hx
  clear hx
  go_wp2_with (first | go_skip | ((with_reducible apply wpList_skip); (· rfl); simp only [Act.put, List.setIfInBounds_toArray, List.set_cons_zero, List.set_cons_succ]) | (refine tWL ?_; simp only [Act.put, List.setIfInBounds_toArray, List.set_cons_zero, List.set_cons_succ, List.drop_zero, List.drop_succ_cons, List.take_succ_cons, List.take_zero, List.toList_toArray, NodeS.cells, OpS.cells, ResS.cells]) | (refine tWM ?_; simp only [Act.put, List.setIfInBounds_toArray, List.set_cons_zero, List.set_cons_succ]) | (refine tWS ?_; clear HX; intro w HX; simp only [Act.put, List.setIfInBounds_toArray, List.set_cons_zero, List.set_cons_succ, setMany, Nat.reduceAdd, NodeS.cells, OpS.cells, ResS.cells] at HX ⊢) | (refine tWT ?_; clear HX; intro w HX; simp only [Act.put, List.setIfInBounds_toArray, List.set_cons_zero, List.set_cons_succ, NodeS.cells, OpS.cells, ResS.cells] at HX ⊢) | (refine tWA ?_; clear HX; (first | (have hq := b9; clear hq; intro w b10 HX) | (have hq := b8; clear hq; intro w b9 HX) | (have hq := b7; clear hq; intro w b8 HX) | (have hq := b6; clear hq; intro w b7 HX) | (have hq := b5; clear hq; intro w b6 HX) | (have hq := b4; clear hq; intro w b5 HX) | (have hq := b3; clear hq; intro w b4 HX) | (have hq := b2; clear hq; intro w b3 HX) | (have hq := b; clear hq; intro w b2 HX) | intro w b HX); simp only [Act.put, List.setIfInBounds_toArray, List.set_cons_zero, List.set_cons_succ]) | (refine tWN ?_; clear HX; intro w mm HX; simp only [Act.put, List.setIfInBounds_toArray, List.set_cons_zero, List.set_cons_succ]) | (refine tWP ?_; clear HX; intro w av nv cv HX; simp only [Act.put, List.setIfInBounds_toArray, List.set_cons_zero, List.set_cons_succ]) | (refine tWD ?_; clear HX; (first | (have hq := b9; clear hq; intro w b10 HX) | (have hq := b8; clear hq; intro w b9 HX) | (have hq := b7; clear hq; intro w b8 HX) | (have hq := b6; clear hq; intro w b7 HX) | (have hq := b5; clear hq; intro w b6 HX) | (have hq := b4; clear hq; intro w b5 HX) | (have hq := b3; clear hq; intro w b4 HX) | (have hq := b2; clear hq; intro w b3 HX) | (have hq := b; clear hq; intro w b2 HX) | intro w b HX); simp only [Act.put, List.setIfInBounds_toArray, List.set_cons_zero, List.set_cons_succ, List.cons_append, List.nil_append] at HX ⊢))
  refine (ptree_any HX.out (kC9.b.tree.ok (by omega))).mono ?_
  rintro e w ⟨c, P17, rfl, -, hx⟩
  clear HX
  have HX := Lib.hid hx
  clear hx
  go_wp2_with (first | go_skip | ((with_reducible apply wpList_skip); (· rfl); simp only [Act.put, List.setIfInBounds_toArray, List.set_cons_zero, List.set_cons_succ]) | (refine tWL ?_; simp only [Act.put, List.setIfInBounds_toArray, List.set_cons_zero, List.set_cons_succ, List.drop_zero, List.drop_succ_cons, List.take_succ_cons, List.take_zero, List.toList_toArray, NodeS.cells, OpS.cells, ResS.cells]) | (refine tWM ?_; simp only [Act.put, List.setIfInBounds_toArray, List.set_cons_zero, List.set_cons_succ]) | (refine tWS ?_; clear HX; intro w HX; simp only [Act.put, List.setIfInBounds_toArray, List.set_cons_zero, List.set_cons_succ, setMany, Nat.reduceAdd, NodeS.cells, OpS.cells, ResS.cells] at HX ⊢) | (refine tWT ?_; clear HX; intro w HX; simp only [Act.put, List.setIfInBounds_toArray, List.set_cons_zero, List.set_cons_succ, NodeS.cells, OpS.cells, ResS.cells] at HX ⊢) | (refine tWA ?_; clear HX; (first | (have hq := b9; clear hq; intro w b10 HX) | (have hq := b8; clear hq; intro w b9 HX) | (have hq := b7; clear hq; intro w b8 HX) | (have hq := b6; clear hq; intro w b7 HX) | (have hq := b5; clear hq; intro w b6 HX) | (have hq := b4; clear hq; intro w b5 HX) | (have hq := b3; clear hq; intro w b4 HX) | (have hq := b2; clear hq; intro w b3 HX) | (have hq := b; clear hq; intro w b2 HX) | intro w b HX); simp only [Act.put, List.setIfInBounds_toArray, List.set_cons_zero, List.set_cons_succ]) | (refine tWN ?_; clear HX; intro w mm HX; simp only [Act.put, List.setIfInBounds_toArray, List.set_cons_zero, List.set_cons_succ]) | (refine tWP ?_; clear HX; intro w av nv cv HX; simp only [Act.put, List.setIfInBounds_toArray, List.set_cons_zero, List.set_cons_succ]) | (refine tWD ?_; clear HX; (first | (have hq := b9; clear hq; intro w b10 HX) | (have hq := b8; clear hq; intro w b9 HX) | (have hq := b7; clear hq; intro w b8 HX) | (have hq := b6; clear hq; intro w b7 HX) | (have hq := b5; clear hq; intro w b6 HX) | (have hq := b4; clear hq; intro w b5 HX) | (have hq := b3; clear hq; intro w b4 HX) | (have hq := b2; clear hq; intro w b3 HX) | (have hq := b; clear hq; intro w b2 HX) | intro w b HX); simp only [Act.put, List.setIfInBounds_toArray, List.set_cons_zero, List.set_cons_succ, List.cons_append, List.nil_append] at HX ⊢))
  refine (treelen_any HX.out.up1).mono ?_
  rw [kn17.2]
  rintro e w ⟨rfl, hu⟩
  replace HX := Lib.hid (HX.out.keep hu)
  clear hu
  go_wp2_with (first | go_skip | ((with_reducible apply wpList_skip); (· rfl); simp only [Act.put, List.setIfInBounds_toArray, List.set_cons_zero, List.set_cons_succ]) | (refine tWL ?_; simp only [Act.put, List.setIfInBounds_toArray, List.set_cons_zero, List.set_cons_succ, List.drop_zero, List.drop_succ_cons, List.take_succ_cons, List.take_zero, List.toList_toArray, NodeS.cells, OpS.cells, ResS.cells]) | (refine tWM ?_; simp only [Act.put, List.setIfInBounds_toArray, List.set_cons_zero, List.set_cons_succ]) | (refine tWS ?_; clear HX; intro w HX; simp only [Act.put, List.setIfInBounds_toArray, List.set_cons_zero, List.set_cons_succ, setMany, Nat.reduceAdd, NodeS.cells, OpS.cells, ResS.cells] at HX ⊢) | (refine tWT ?_; clear HX; intro w HX; simp only [Act.put, List.setIfInBounds_toArray, List.set_cons_zero, List.set_cons_succ, NodeS.cells, OpS.cells, ResS.cells] at HX ⊢) | (refine tWA ?_; clear HX; (first | (have hq := b9; clear hq; intro w b10 HX) | (have hq := b8; clear hq; intro w b9 HX) | (have hq := b7; clear hq; intro w b8 HX) | (have hq := b6; clear hq; intro w b7 HX) | (have hq := b5; clear hq; intro w b6 HX) | (have hq := b4; clear hq; intro w b5 HX) | (have hq := b3; clear hq; intro w b4 HX) | (have hq := b2; clear hq; intro w b3 HX) | (have hq := b; clear hq; intro w b2 HX) | intro w b HX); simp only [Act.put, List.setIfInBounds_toArray, List.set_cons_zero, List.set_cons_succ]) | (refine tWN ?_; clear HX; intro w mm HX; simp only [Act.put, List.setIfInBounds_toArray, List.set_cons_zero, List.set_cons_succ]) | (refine tWP ?_; clear HX; intro w av nv cv HX; simp only [Act.put, List.setIfInBounds_toArray, List.set_cons_zero, List.set_cons_succ]) | (refine tWD ?_; clear HX; (first | (have hq := b9; clear hq; intro w b10 HX) | (have hq := b8; clear hq; intro w b9 HX) | (have hq := b7; clear hq; intro w b8 HX) | (have hq := b6; clear hq; intro w b7 HX) | (have hq := b5; clear hq; intro w b6 HX) | (have hq := b4; clear hq; intro w b5 HX) | (have hq := b3; clear hq; intro w b4 HX) | (have hq := b2; clear hq; intro w b3 HX) | (have hq := b; clear hq; intro w b2 HX) | intro w b HX); simp only [Act.put, List.setIfInBounds_toArray, List.set_cons_zero, List.set_cons_succ, List.cons_append, List.nil_append] at HX ⊢))
  go_ret
  exact ⟨rfl, HX.out.below⟩
end
end Go.Proofs.YtbakgoncfggidaaGreatDoor
namespace Go.Proofs.YtbakgoncfggidaaGreatDoor.partKnown
open Go.Proofs.YtbakgoncfggidaaGreatDoor
open Go.ChangeShapes Go.WideShapes Go.ChangeAt Go.RowKit
open Go.ChangeMaps (open_string shut_string)
set_option linter.unusedVariables false

theorem own : ownKnob Tryz.prog.godebug = none := by kernel_rfl
theorem laidOut : laidOutB Tryz.prog = true := by kernel_rfl

set_option maxRecDepth 100000 in
theorem lifted (os : Os) (started : os.Started) (H : Type) (enc : TypeId × Value → H) :
    ReturnsInHanded {} Tryz.checked os 5 .any (fun w args => (Rows.partKnownSpec.pre enc Tryz.prog Tryz.f5 Rows.partKnownRow.domain false w args ∧ laidMetH Tryz.prog Rows.partKnownRow.laid w) ∧ sizedMet enc Tryz.prog Tryz.f5 (OpenSpec.ofChange Rows.partKnownSpec) false w args) (Rows.partKnownSpec.post enc Tryz.prog Tryz.f5 false true false false) := by
  refine Go.Av.handed_both (C := Tryz.checked) (X := fun w _ => laidMetH Tryz.prog Rows.partKnownRow.laid w) (fun _ _ _ hh h => h.of_heap hh) own started (by kernel_rfl) Tryz.func5
    (ChangeSpec.witness_shaped (enc := enc) (C := Tryz.checked) (os := os) (X := fun w _ => laidMetH Tryz.prog Rows.partKnownRow.laid w) false (World.laidAll Tryz.prog os Rows.partKnownRow.laid) #[] 8 (World.laidAll_os _ _ _)
      (World.shaped_of_ZipB (by kernel_rfl) (by kernel_rfl)) (by kernel_rfl) (by kernel_rfl) (by kernel_rfl)
      (by rw [MakeChecks.laidMetH_plain _ _ _ (by kernel_rfl)]; exact laidMet_laidAll _ (by kernel_rfl) (by kernel_rfl))) ?_
  intro W base args ds gs before hval0 hW hsh hlaid
  rw [MakeChecks.laidMetH_plain _ _ _ (by kernel_rfl)] at hlaid
  have hdoor := doorN_of hsh (by first | rfl | kernel_rfl) hlaid
  have hval : ∀ (j : Nat) t v, Tryz.f5.params[j]? = some t → args[j]? = some v → Value.okWide Tryz.prog W .any base t v := hval0
  have hW' := hW
  obtain ⟨p, q, hA0, hV, rfl, hfz, hnd⟩ := hW
  have hA : DataW.TrodAll enc Tryz.prog W 0 (fun _ => true) true Tryz.f5.params.toList args.toList ds p := hA0
  rw [Tryz.params5] at hA hval
  obtain ⟨hargs, rfl, rfl⟩ := trodAll_nil hA
  obtain rfl : args = #[] := by cases args; simp_all
  obtain ⟨rfl, rfl⟩ := trodVars_none hV
  clear hA0 hval0
  refine (partKnown_walk W hdoor).mono fun e W' ⟨he, bel⟩ => ?_
  subst he
  exact ⟨_, rfl, _, _, _, [], _, [], hW', trodAll_mk1 (shut_bool Tryz.underlying4 _), trodAll_mk0, rfl, bel.frame _, fun h => by cases h⟩

set_option maxHeartbeats 40000000 in
theorem closed : joinedFacts Tryz.prog 5 Tryz.f5 Rows.partKnownSpec Rows.partKnownRow = true := by
  unfold joinedFacts
  simp only [Bool.and_eq_true]
  repeat' apply And.intro
  all_goals (as_aux_lemma => kernel_rfl)
theorem fnamed : Tryz.prog.funcNamed "aviary/aviarylaw18.PartKnown" = some 5 := by kernel_rfl

theorem over : Rows.partKnownRow.holds Tryz.pinned (OpenSpec.ofChange Rows.partKnownSpec) :=
  OpenClaim.holds_of_wide 5 Tryz.f5 rfl rfl rfl rfl rfl rfl rfl ⟨rfl, rfl, rfl, rfl, rfl⟩ rfl rfl rfl rfl rfl fnamed Tryz.func5 closed
    (of_decide_eq_true (by as_aux_lemma => kernel_rfl)) (by unfold Func.isWrapper; first | (rw [if_pos (by decide +kernel)]; kernel_rfl) | (rw [if_neg (by decide +kernel)]; exact ⟨rfl, rfl⟩))
    (fun os started H enc _ => lifted os started H enc)

/-- ████ THE STATEMENT ████ -/
theorem proved : Rows.PartKnownCardSaid :=
  Claim7.holds_tied_plain_at .later [] [.data, .data, .data, .data, .pinned] true (true, "a4aa5e79a32732a79d446993247cbbc328c30d9cc55dd115731c0c493a1c0a75") false over (fun _ h => by cases h) (by as_aux_lemma => kernel_rfl) (fun _ h => by cases h) partKnown_row_tie rfl ⟨rfl, rfl⟩ (by as_aux_lemma => kernel_rfl) rfl
    (fun f fn hf hfn => by
      obtain rfl : f = 5 := Option.some.inj (fnamed.symm.trans hf) |>.symm
      obtain rfl : fn = Tryz.f5 := (Option.some.inj (Tryz.func5.symm.trans hfn)).symm
      exact ⟨by as_aux_lemma => kernel_rfl, fun j t ht => by
        rw [Tryz.params5] at ht
        have hm : t ∈ [] := by simpa using Array.mem_of_getElem? ht
        have hall : ([].all fun u => !Tryz.prog.wantsStandIn u) = true := by kernel_rfl
        exact (show Tryz.prog.wantsStandIn t = false by simpa using List.all_eq_true.1 hall t hm)⟩)
    (by as_aux_lemma => kernel_rfl)
#print axioms proved
end Go.Proofs.YtbakgoncfggidaaGreatDoor.partKnown
