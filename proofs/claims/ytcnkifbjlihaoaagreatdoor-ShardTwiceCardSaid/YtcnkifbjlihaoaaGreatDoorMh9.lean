/-
  Texts of this claim, laid together.
-/
import Derived.Test.YtcnkifbjlihaoaaGreatDoorMh8
import Derived.Shelf.SlIterI.Nil
import Derived.Shelf.SortM.Plain
import Derived.Shelf.SortM.SortNone
import Derived.Ground.GgzProg
import Derived.Ground.SlgmProg
import Derived.Test.YtcnkifbjlihaoaaGreatDoorProg
import Derived.Lib.SlKeysI
import Derived.HandedShaped
import Derived.Handed
import Derived.Lib.LaidTab
set_option linter.unusedVariables false
set_option linter.unusedSimpArgs false

namespace Go.Proofs.YtcnkifbjlihaoaaGreatDoor
open Go.RowKit Go.Av
section
variable {w0 w : World} {b c : Nat} {S T : ShardS} {P P' Q : List PRow} {R : List Thing} {rows : List (Value × Bs)}
theorem yot' (h : Sep w0 w (yab' w0 P' :: yba' b S P :: R) rows) (hP : ∀ r ∈ P, r ∈ P') : Sep w0 w (yab' w0 P' :: yba' b S P' :: R) rows := (ylp' h.up1 hP).up1
theorem yfx' (h : Sep w0 w (yab' w0 P' :: yba' b S P :: yba' c T Q :: R) rows) (hP : ∀ r ∈ P, r ∈ P') (hQ : ∀ r ∈ Q, r ∈ P') : Sep w0 w (yab' w0 P' :: yba' b S P' :: yba' c T P' :: R) rows := by
 have h2 := ylp' h.up2 hQ
 have h3 := ylp' h2.up2 hP
 exact h3.pm 3 [2, 0, 1] rfl rfl
set_option maxRecDepth 100000 in
theorem yn8' (h : Sep w0 w R rows) (id : Int) (ops : List OpS) (a : Option Addr) (n m : Nat) :
  Calls Tryz.prog 47 #[.int .i64 id, .slice a n m] w fun e w' => e = .returned (.agg (cmdV (locC id ops) (.slice a n m) (.slice none 0 0))) ∧ Sep w0 w' R rows := by
 have HX := Lib.hid h
 clear h
 go_enter Tryz.func47, Tryz.ntmps47
 go_wp2_with (first | refine u0 ?_ | (refine uS ?_; clear HX; intro w HX) | (refine uA ?_; clear HX; (first | (have hq := b; clear hq; intro w b2 HX) | intro w b HX)))
 refine ya9' HX rfl rfl (by (repeat (first | (with_reducible exact k_s) | (with_reducible apply k_m)))) (by kernel_rfl) ?_
 exact ⟨rfl, HX.out.drop⟩
def awT1 : ShardS := (ya8' (yd0' 10) (putC (locC 1 [opA]))).2
set_option maxRecDepth 100000 in
theorem aw25 : ∃ rs, ycr' [putC (locC 1 [opA])] (yd0' 10) = ([⟨1, 1, ⟨1, 1, 0, -1, rs⟩, 0, 0, [], false⟩], awT1) ∧ awT1.p.t.l.length = 1 ∧ awT1.played = 1 := by
 have hf : ∀ o ∈ [opA], FitO o := fun o ho => by rw [List.mem_singleton] at ho; subst ho; exact ⟨by decide, by decide⟩
 have h := ywc' (S := yd0' 10) (id := 1) (by omega) (by omega) hf (fun e he => by cases he)
 have hm : mayS 1 1 [opA] = 0 := by kernel_rfl
 rw [if_pos hm] at h
 have h1 : yb4' (yd0' 10).p 1 1 [opA] = (⟨1, 1, 0, -1, (yb4' (newP 10) 1 1 [opA]).1.rs⟩, (yb4' (newP 10) 1 1 [opA]).2) := by kernel_rfl
 have e : awT1 = _ := congrArg Prod.snd h
 refine ⟨(yb4' (newP 10) 1 1 [opA]).1.rs, ?_, ?_, ?_⟩
 ·show ([(ya8' (yd0' 10) (putC (locC 1 [opA]))).1], (ya8' (yd0' 10) (putC (locC 1 [opA]))).2) = _
  rw [h, h1]
  unfold awT1
  rw [h, h1]
 ·rw [e]
  kernel_rfl
 ·rw [e]
  kernel_rfl
theorem y02' : ShB 1 awT1 := (ypr' (ylf' 10 (by omega)) (by omega) _).2
set_option maxRecDepth 100000 in
set_option maxHeartbeats 8000000 in
theorem ynv' (hd : DoorN w) : Calls Tryz.prog 37 #[] w fun e w' => e = .returned (.bool true) ∧ Upd w w' [] [] := by
 have HX := Lib.hid ((Sep.start w).poolNew.poolNil 1)
 go_enter Tryz.func37, Tryz.ntmps37
 go_wp2_with (first | refine u0 ?_ | (refine uS ?_; clear HX; intro w HX) | (refine uA ?_; clear HX; (first | (have hq := b; clear hq; intro w b2 HX) | intro w b HX)))
 refine (yjd' HX.out 10 (by omega) (by omega)).mono ?_
 rintro e w ⟨b, rfl, hx⟩
 replace HX := Lib.hid hx
 clear hx
 go_wp2_with (first | refine u0 ?_ | (refine uS ?_; clear HX; intro w HX) | (refine uA ?_; clear HX; (first | (have hq := b; clear hq; intro w b2 HX) | intro w b HX)))
 refine (yn8' HX.out 1 [opA] _ _ _).mono ?_
 rintro e w ⟨rfl, hx⟩
 replace HX := Lib.hid hx
 clear hx
 have hx := yot' (Sep.poolCell (K := 5) (n := 1) (cs := [opA].flatMap OpS.cells) HX.out rfl (by omega)) (fun r hr => k_n _ hr)
 replace HX := Lib.hid hx
 clear hx
 unfold cmdV locC
 dsimp only
 go_wp2_with (first | refine u0 ?_ | (refine uS ?_; clear HX; intro w HX) | (refine uA ?_; clear HX; (first | (have hq := b; clear hq; intro w b2 HX) | intro w b HX)))
 refine (yje' HX.out hd (locC 1 [opA]) _ _ k_s (k_n _ k_s) (by intro o ho; have ho : o ∈ [opA] := ho; simp at ho; subst ho; decide) (by simp [locC])).mono ?_
 rintro e w ⟨v, rfl, hx⟩
 have hx := yot' hx.poolRow (fun r hr => k_n _ hr)
 replace HX := Lib.hid hx
 clear hx
 obtain ⟨ba, bn, bc, rfl⟩ := ybc' HX.out k_s
 go_wp2_with (first | refine u0 ?_ | (refine uS ?_; clear HX; intro w HX) | (refine uA ?_; clear HX; (first | (have hq := b; clear hq; intro w b2 HX) | intro w b HX)))
 have hx := yot' (Sep.poolCell (K := 1) (n := 1) (cs := [.slice ba bn bc]) HX.out rfl (by omega)) (fun r hr => k_n _ hr)
 replace HX := Lib.hid hx
 clear hx
 refine (yfw' HX.out hd (ylf' 10 (by omega)) [putC (locC 1 [opA])] _ _ k_s (.cons (k_n _ k_s) .nil) (by simp) (by intro l hl; rw [List.mem_singleton] at hl; subst hl; decide +kernel)).mono ?_
 obtain ⟨rs, ha, hb, hc⟩ := aw25
 rw [ha]
 have HA := Lib.hid (show _ ∧ _ from ⟨hb, hc⟩)
 clear ha hb hc
 rintro e w ⟨v, xs, P1, rfl, -, hol, hm, hx⟩
 obtain ⟨a4, n4, c4, rfl⟩ := ybc' hx hm
 obtain rfl : n4 = 1 := by
  obtain ⟨E, hE⟩ := hx.poolGet hm
  obtain ⟨_, _, _, e, hl, -⟩ := ReadRow.some hE
  simp only [Value.slice.injEq] at e
  obtain ⟨-, rfl, -⟩ := e
  rw [hol.len] at hl
  simp only [List.length_cons, List.length_nil] at hl
  omega
 obtain ⟨p, c2, mk, gs, -, -, hS⟩ := ygc' hx.up1
 have HM := Lib.hid (show _ ∧ _ from ⟨hol, hm⟩)
 clear HX hx hol hm
 have HX := Lib.hid hS
 clear hS
 go_upto_region 5 with (first | refine u0 ?_ | (refine uS ?_; clear HX; intro w HX) | (refine uA ?_; clear HX; (first | (have hq := b; clear hq; intro w b2 HX) | intro w b HX)))
 obtain ⟨hol, hm⟩ := HM.out
 obtain ⟨g, off, rfl, hc0, hc1, hc4⟩ : ∃ g off, a4 = some ⟨g, off, none⟩ ∧ w.cell? ⟨g, off, none⟩ = some (.int .i64 1) ∧ w.cell? ⟨g, off + 1, none⟩ = some (.int .i64 1) ∧ w.cell? ⟨g, off + 4, none⟩ = some (.int .i64 0) := by
  cases hol with
  | cons h3 h4 =>
   obtain ⟨g, off, e, hcell⟩ := yzp' HX.out.up4 hm
   exact ⟨g, off, e, hcell 0 _ rfl, hcell 1 _ rfl, hcell 4 _ rfl⟩
 clear HM hol hm
 go_wp2_with (first | refine u0 ?_ | (refine uS ?_; clear HX; intro w HX) | (refine uA ?_; clear HX; (first | (have hq := b; clear hq; intro w b2 HX) | intro w b HX)))
 refine (ycx' HX.out).mono ?_
 rintro e w2 ⟨rfl, rfl⟩
 go_wp2_with (first | refine u0 ?_ | (refine uS ?_; clear HX; intro w HX) | (refine uA ?_; clear HX; (first | (have hq := b; clear hq; intro w b2 HX) | intro w b HX)))
 refine (yi7' (HX.out.up1.up4) (y02'.p.b.tree.ok (by omega))).mono ?_
 rintro e w ⟨t, P2, rfl, -, hx⟩
 replace HX := Lib.hid hx
 clear hx
 go_wp2_with (first | refine u0 ?_ | (refine uS ?_; clear HX; intro w HX) | (refine uA ?_; clear HX; (first | (have hq := b; clear hq; intro w b2 HX) | intro w b HX)))
 refine (ygg' HX.out.up1).mono ?_
 rw [HA.out.1]
 rintro e w2 ⟨rfl, hu⟩
 have hx := HX.out.keep hu
 replace HX := Lib.hid hx
 clear hx
 go_wp2_with (first | refine u0 ?_ | (refine uS ?_; clear HX; intro w HX) | (refine uA ?_; clear HX; (first | (have hq := b; clear hq; intro w b2 HX) | intro w b HX)))
 refine (yne' HX.out.up3).mono ?_
 rw [HA.out.2]
 rintro e w3 ⟨rfl, rfl⟩
 go_wp2_with (first | refine u0 ?_ | (refine uS ?_; clear HX; intro w HX) | (refine uA ?_; clear HX; (first | (have hq := b; clear hq; intro w b2 HX) | intro w b HX)))
 go_ret
 exact ⟨rfl, Upd.of_below HX.out.below⟩
end
end Go.Proofs.YtcnkifbjlihaoaaGreatDoor

namespace Go.Av
open Go.RowKit
end Go.Av
namespace Go.Proofs.YtcnkifbjlihaoaaGreatDoor
open Go.RowKit Go.Av
def KnA (S : ShardS) (Q : Int → Int → Prop) : Prop := ∀ e ∈ S.known, ∃ c, getC (putC c) = some c ∧ e.1 = putC c ∧ Q c.kind c.id
theorem KnA.add {S S' : ShardS} {Q Q' : Int → Int → Prop} (h : KnA S Q) (hq : ∀ k i, Q k i → Q' k i) {c : CmdS} {o : OutS} (hc : getC (putC c) = some c) (h1 : Q' c.kind c.id) (h2 : S'.known = S.known ++ [(putC c, o)]) : KnA S' Q' := by
 intro e he
 rw [h2] at he
 rcases List.mem_append.1 he with he | he
 ·obtain ⟨x, x1, x2, x3⟩ := h e he
  exact ⟨x, x1, x2, hq _ _ x3⟩
 ·rw [List.mem_singleton] at he
  exact ⟨c, hc, by rw [he], h1⟩
theorem KnA.mono {S S' : ShardS} {Q Q' : Int → Int → Prop} (h : KnA S Q) (hq : ∀ k i, Q k i → Q' k i) (h2 : S'.known = S.known) : KnA S' Q' := by
 intro e he
 rw [h2] at he
 obtain ⟨x, x1, x2, x3⟩ := h e he
 exact ⟨x, x1, x2, hq _ _ x3⟩
structure Loc (n : Nat) (S : ShardS) : Prop where
 kn : KnA S (fun k id => k = 1 ∧ 100 ≤ id ∧ id < 100 + n)
 held : S.p.held = []
 wait : S.p.wait = []
 closed : S.p.closed = []
 dec : S.p.decided = []
 zx : 0 ≤ S.p.zxid
structure RelN (m : Nat) (S T : ShardS) : Prop where
 like : Like S.p T.p
 zs : 0 ≤ S.p.zxid
 zt : 0 ≤ T.p.zxid
 held : S.p.held = []
 ks : KnA S (fun k id => k ≠ 1 ∨ id < 200 + m)
 kt : KnA T (fun k id => k ≠ 1 ∨ id < 200 + m)
theorem FitO.nil : ∀ o ∈ ([] : List OpS), FitO o := fun o h => by cases h
end Go.Proofs.YtcnkifbjlihaoaaGreatDoor

namespace Go.Av
open Go.RowKit
end Go.Av
namespace Go.Proofs.YtcnkifbjlihaoaaGreatDoor
open Go.RowKit Go.Av Go.ChangeShapes Go.WideShapes
end Go.Proofs.YtcnkifbjlihaoaaGreatDoor

namespace Go.Proofs.YtcnkifbjlihaoaaGreatDoor
open Go.RowKit Go.Av
section
variable {w0 w : World} {b t : Nat} {S : TreeS} {P P' : List PRow} {R : List Thing} {rows : List (Value × Bs)}
set_option maxRecDepth 100000 in
theorem y0l' (h : Sep w0 w R rows) (n : NodeS) (a : Option Addr) (m c : Nat) : Calls Tryz.prog 133 #[n.val (.slice a m c)] w fun e w' => e = .returned (n.val (.slice a m c)) ∧ Sep w0 w' R rows := by
 have HX := Lib.hid h
 clear h
 unfold NodeS.val NodeS.cells
 go_enter Tryz.func133, Tryz.ntmps133
 go_wp2_with (first | refine v1 ?_ | (refine vS ?_; clear HX; intro w HX) | (refine vA ?_; clear HX; (first | (have hq := b; clear hq; intro w b2 HX) | intro w b HX)))
 refine ya9' HX rfl rfl (by (repeat (first | (with_reducible exact k_s) | (with_reducible apply k_m)))) (by kernel_rfl) ?_
 exact ⟨rfl, HX.out.drop.drop⟩
set_option maxRecDepth 100000 in
set_option maxHeartbeats 2000000 in
theorem yvy' (h : Sep w0 w (yab' w0 P :: R) rows) (l : List OpS) (v : Value) (hv : (5, v, l.flatMap OpS.cells) ∈ P) :
  Calls Tryz.prog 45 #[v] w fun e w' => e = .returned (.bool (yhq' l)) ∧ Sep w0 w' (yab' w0 P :: R) rows := by
 obtain ⟨E, hE⟩ := h.poolGet hv
 obtain ⟨a1, n1, c1, rfl, hl1, hn1, hc1, hne1⟩ := ReadRow.some hE
 rw [yav' yak'] at hl1
 obtain rfl : l.length = n1 := by omega
 have HV := Lib.hid hv
 have HN := Lib.hid hne1
 have HX := Lib.hid h
 clear h hv hE hne1 hn1 hc1 hl1
 by_cases h20 : 20 < l.length
 ·have HE := Lib.hid (show yhq' l = true by unfold yhq'; rw [decide_eq_true h20]; rfl)
  have q1 : decide (20 < l.length) = true := decide_eq_true h20
  have q2 : decide (20 < (l.length : Int)) = true := decide_eq_true (by omega)
  clear h20
  go_enter Tryz.func45, Tryz.ntmps45
  go_wp2_with (first | refine v1 ?_ | (refine vS ?_; clear HX; intro w HX) | (refine vA ?_; clear HX; (first | (have hq := b; clear hq; intro w b2 HX) | intro w b HX)))
  go_ret
  rw [HE.out]
  exact ⟨rfl, HX.out⟩
 have HE := Lib.hid (show yhq' l = l.any fun o => decide (300 < o.path.size) || decide (1100 < o.data.size) by unfold yhq'; rw [decide_eq_false h20]; rfl)
 have HL := Lib.hid (show l.length ≤ 20 by omega)
 have q1 : decide (20 < l.length) = false := decide_eq_false h20
 have q2 : decide (20 < (l.length : Int)) = false := decide_eq_false (by omega)
 clear h20
 go_enter Tryz.func45, Tryz.ntmps45
 go_wp2_with (first | refine v1 ?_ | (refine vS ?_; clear HX; intro w HX) | (refine vA ?_; clear HX; (first | (have hq := b; clear hq; intro w b2 HX) | intro w b HX)))
 go_loopg [3] l.length (fun k v3 wr => ∃ i : Nat, i + k = l.length ∧ v3 = .int .i64 (i : Int) ∧ ((l.take i).any fun o => decide (300 < o.path.size) || decide (1100 < o.data.size)) = false ∧ Sep w0 wr (yab' w0 P :: R) rows)
 case atStart => exact ⟨0, by omega, rfl, rfl, HX.out⟩
 case round =>
  rename World => w
  obtain ⟨i, hik, rfl, hno, hS⟩ := hrel
  replace HX := Lib.hid hS
  clear hS
  by_cases hlt : i < l.length
  case neg =>
   obtain rfl : i = l.length := by omega
   rw [List.take_length] at hno
   have HE2 := Lib.hid (HE.out.trans hno)
   clear hlt hik hno
   go_wp2_with (first | refine v1 ?_ | (refine vS ?_; clear HX; intro w HX) | (refine vA ?_; clear HX; (first | (have hq := b; clear hq; intro w b2 HX) | intro w b HX)))
   go_ret
   rw [HE2.out]
   exact ⟨rfl, HX.out⟩
  case pos =>
   obtain ⟨g1, o1, rfl⟩ := HN.out (by intro e; have := congrArg List.length e; rw [yav' yak'] at this; simp at this; omega)
   obtain ⟨E, hE⟩ := HX.out.poolGet HV.out
   have hx : ∀ j v, (OpS.cells l[i])[j]? = some v → (l.flatMap OpS.cells)[i * 5 + j]? = some v := fun j v hj => by
    rw [yfm' yak' l hlt (by have := (List.getElem?_eq_some_iff.1 hj).1; exact this)]
    exact hj
   have hl := yoo' (P := Tryz.prog) (ty := 9) hE (by kernel_rfl) (hx 1 _ rfl)
   have hl2 := yoo' (P := Tryz.prog) (ty := 9) hE (by kernel_rfl) (hx 2 _ rfl)
   have HT := Lib.hid (show l.take (i + 1) = l.take i ++ [l[i]] from List.take_succ_eq_append_getElem hlt)
   have HM := Lib.hid (List.getElem_mem hlt)
   obtain ⟨o, ho⟩ : ∃ o, l[i] = o := ⟨_, rfl⟩
   rw [ho] at hl hl2 HT HM
   have HNO := Lib.hid hno
   have q0 : decide (i < l.length) = true := decide_eq_true hlt
   have q9 : i ≤ 20 := by have := HL.out; omega
   clear hE hx ho hno
   obtain ⟨z1, h1⟩ : ∃ z, decide (300 < o.path.size) = z := ⟨_, rfl⟩
   obtain ⟨z2, h2⟩ : ∃ z, decide (1100 < o.data.size) = z := ⟨_, rfl⟩
   have h1' : decide (300 < (o.path.size : Int)) = z1 := by rw [← h1]; exact decide_eq_decide.2 (by omega)
   have h2' : decide (1100 < (o.data.size : Int)) = z2 := by rw [← h2]; exact decide_eq_decide.2 (by omega)
   by_cases hz : z1 = true ∨ z2 = true
   ·have HE2 := Lib.hid (show yhq' l = true by
     rw [HE.out]
     refine List.any_eq_true.2 ⟨o, HM.out, ?_⟩
     rw [h1, h2]
     rcases hz with h | h <;> simp [h])
    cases z1 <;> cases z2
    case false.false => exact absurd hz (by simp)
    all_goals
     clear hz
     go_wp2_with (first | refine v1 ?_ | (refine vS ?_; clear HX; intro w HX) | (refine vA ?_; clear HX; (first | (have hq := b; clear hq; intro w b2 HX) | intro w b HX)) | ((with_reducible apply yau' hl); (· rfl); (· rfl); simp only [Act.put, k_a, k_b, k_c]) | ((with_reducible apply yau' hl2); (· rfl); (· rfl); simp only [Act.put, k_a, k_b, k_c]))
     go_ret
     rw [HE2.out]
     exact ⟨rfl, HX.out⟩
   ·have HN2 := Lib.hid (show ((l.take (i + 1)).any fun o => decide (300 < o.path.size) || decide (1100 < o.data.size)) = false by
     rw [HT.out, List.any_append, HNO.out]
     simp only [List.any_cons, List.any_nil, Bool.or_false, Bool.false_or]
     rw [h1, h2]
     cases z1 <;> cases z2 <;> simp_all)
    obtain rfl : z1 = false := by cases z1 <;> simp_all
    obtain rfl : z2 = false := by cases z2 <;> simp_all
    clear hz
    go_wp2_with (first | refine v1 ?_ | (refine vS ?_; clear HX; intro w HX) | (refine vA ?_; clear HX; (first | (have hq := b; clear hq; intro w b2 HX) | intro w b HX)) | ((with_reducible apply yau' hl); (· rfl); (· rfl); simp only [Act.put, k_a, k_b, k_c]) | ((with_reducible apply yau' hl2); (· rfl); (· rfl); simp only [Act.put, k_a, k_b, k_c]))
    go_roundg (l.length - (i + 1))
    case rel => exact ⟨i + 1, by omega, by go_num, HN2.out, HX.out⟩
    case measure => omega
end
end Go.Proofs.YtcnkifbjlihaoaaGreatDoor

namespace Go.Av
open Go.RowKit
section
variable {P : Program} {ops : Array Oper} {Q : Exit → Act → World → Prop} {a : Act} {w w0 : World} {rest : List Oper} {Ts : List Thing} {rows : List (Value × Bs)} {dst : Option Tmp} {t e tyy : TypeId} {y0 y1 : Operand} {pos : String} {aft : Array Edge} {v0 v1 : Value}
end
end Go.Av
namespace Go.Proofs.YtcnkifbjlihaoaaGreatDoor
open Go.RowKit Go.Av
theorem yzs' (l : List Int) : (shB l).length = 8 + 8 * l.length := by
 unfold shB
 rw [List.length_append, yar', ydl']
theorem ywf' (c : CmdS) (h : c.shards.length ≤ 1000) : (putC c).length ≤ 1000000 := by
 have h1 := ygy' c.rs c.rn c.ops
 have h2 := ygy' c.sess c.id c.ops
 have h3 := yzs' c.shards
 unfold putC
 repeat' split
 all_goals
  (try unfold yd2')
  simp only [List.length_append, yar', List.length_nil]
  omega
theorem ykd' (b : Bs) (S : ShardS) : ycr' [b] S = ([(ya8' S b).1], (ya8' S b).2) := rfl
theorem yv7' {l : List OpS} (h : yhq' l = false) : ∀ o ∈ l, o.path.size ≤ 100000 := fun o ho => by
 have := (yvz' h).2 o ho
 omega
end Go.Proofs.YtcnkifbjlihaoaaGreatDoor
namespace Go.Proofs.YtcnkifbjlihaoaaGreatDoor
open Go.RowKit Go.Av
section
variable {w0 w : World} {b c d n K : Nat} {S T : ShardS} {P P' Q : List PRow} {R : List Thing} {rows : List (Value × Bs)}
theorem ytv' {v : Value} {xs : List Value} (h : Sep w0 w (yaf' K v xs :: yab' w0 P :: yba' b S P :: yba' c T P :: R) rows) : ∃ P', (K, v, xs) ∈ P' ∧ (∀ r ∈ P, r ∈ P') ∧ Sep w0 w (yab' w0 P' :: yba' b S P' :: yba' c T P' :: R) rows :=
 ⟨_, k_s, fun r hr => k_n _ hr, yfx' h.poolRow (fun r hr => k_n _ hr) (fun r hr => k_n _ hr)⟩
theorem yo7' {cs : List Value} {A : TypeId} (h : Sep w0 w (yac' d (.cells cs.toArray A (0, 0)) :: yab' w0 P :: yba' b S P :: yba' c T P :: R) rows) (hl : cs.length = n * K) (hn : n ≤ 1000) :
  ∃ P', (K, .slice (some ⟨d, 0, none⟩) n n, cs) ∈ P' ∧ (∀ r ∈ P, r ∈ P') ∧ Sep w0 w (yab' w0 P' :: yba' b S P' :: yba' c T P' :: R) rows :=
 ⟨_, k_s, fun r hr => k_n _ hr, yfx' (h.poolCell hl hn) (fun r hr => k_n _ hr) (fun r hr => k_n _ hr)⟩
end
end Go.Proofs.YtcnkifbjlihaoaaGreatDoor

namespace Go.Proofs.YtcnkifbjlihaoaaGreatDoor
open Go.RowKit Go.Av
theorem sn_x8 : StructN Tryz.prog 104 11 := ⟨by kernel_rfl⟩
theorem z_x8 : ydh' Tryz.prog 104 #[.int .i64 0, .int .i64 0, .int .i64 0, .int .i64 0, .int .i64 0, .int .i64 0, .slice none 0 0, .int .i64 0, .int .i64 0, .slice none 0 0, .bool false] := by unfold ydh'; kernel_rfl
section
variable {w0 w : World} {P P' : List PRow} {R : List Thing} {rows : List (Value × Bs)}
set_option maxRecDepth 100000 in
theorem ysi' (h : Sep w0 w (yab' w0 P :: R) rows) (c : CmdS) (vo vs : Value) (hvo : (5, vo, c.ops.flatMap OpS.cells) ∈ P) (hvs : (1, vs, c.shards.map ivn) ∈ P) :
  Calls Tryz.prog 38 #[.agg (cmdV c vo vs)] w fun e w' => e = .returned (.bool (yhq' c.ops || decide (6 < (c.shards.length : Int)))) ∧ Sep w0 w' (yab' w0 P :: R) rows := by
 obtain ⟨oa, on, oc, rfl⟩ := ybc' h hvo
 obtain ⟨E, hE⟩ := h.poolGet hvs
 obtain ⟨sa, sn, sc, rfl, hl, -⟩ := ReadRow.some hE
 rw [List.length_map, Nat.mul_one] at hl
 subst hl
 have HV := Lib.hid hvo
 have HX := Lib.hid h
 obtain ⟨k0, id, sess, rs, rn, ops, shards, shard, yes⟩ := c
 clear h hE hvo hvs
 unfold cmdV
 dsimp only at HV ⊢
 obtain ⟨z2, hz2⟩ : ∃ z, decide (6 < (shards.length : Int)) = z := ⟨_, rfl⟩
 obtain ⟨z, hz⟩ : ∃ z, yhq' ops = z := ⟨_, rfl⟩
 rw [hz2, hz]
 have HZ := Lib.hid (show _ ∧ _ from ⟨hz, hz2⟩)
 clear hz
 go_enter Tryz.func38, Tryz.ntmps38
 go_wp2_with (first | refine u0 ?_ | (refine uS ?_; clear HX; intro w HX) | (refine uA ?_; clear HX; (first | (have hq := b; clear hq; intro w b2 HX) | intro w b HX)))
 have hm := yvy' HX.out.up1 ops _ HV.out
 rw [HZ.out.1] at hm
 refine hm.mono ?_
 clear hm
 rintro e w ⟨rfl, hx⟩
 replace HX := Lib.hid hx
 clear hx
 have q1 : decide (6 < shards.length) = z2 := by rw [← hz2]; exact decide_eq_decide.2 (by omega)
 cases z with
 | true =>
  go_wp2_with (first | refine u0 ?_ | (refine uS ?_; clear HX; intro w HX) | (refine uA ?_; clear HX; (first | (have hq := b; clear hq; intro w b2 HX) | intro w b HX)))
  go_ret
  exact ⟨rfl, HX.out.cut1⟩
 | false =>
  go_wp2_with (first | refine u0 ?_ | (refine uS ?_; clear HX; intro w HX) | (refine uA ?_; clear HX; (first | (have hq := b; clear hq; intro w b2 HX) | intro w b HX)))
  go_ret
  exact ⟨by simp, HX.out.cut1⟩
set_option maxRecDepth 100000 in
theorem ywm' (h : Sep w0 w R rows) (m : ReplyS) (a : Option Addr) (n c : Nat) :
  Calls Tryz.prog 132 #[.agg #[.int .i64 m.num, .int .i64 m.zxid, .int .i64 m.err, .int .i64 m.at_, .slice a n c]] w fun e w' => e = .returned (.agg #[.int .i64 m.num, .int .i64 m.zxid, .int .i64 m.err, .int .i64 m.at_, .slice a n c]) ∧ Sep w0 w' R rows := by
 have HX := Lib.hid h
 clear h
 go_enter Tryz.func132, Tryz.ntmps132
 go_wp2_with (first | refine u0 ?_ | (refine uS ?_; clear HX; intro w HX) | (refine uA ?_; clear HX; (first | (have hq := b; clear hq; intro w b2 HX) | intro w b HX)))
 refine ya9' HX rfl rfl (by (repeat (first | (with_reducible exact k_s) | (with_reducible apply k_m)))) (by kernel_rfl) ?_
 exact ⟨rfl, HX.out.drop.drop⟩
set_option maxRecDepth 100000 in
set_option maxHeartbeats 4000000 in
theorem ypn' (h : Sep w0 w R rows) (o : OutS) (a : Option Addr) (n c : Nat) (a2 : Option Addr) (n2 c2 : Nat) :
  Calls Tryz.prog 52 #[.agg (outV o (.slice a n c) (.slice a2 n2 c2))] w fun e w' => e = .returned (.agg (outV o (.slice a n c) (.slice a2 n2 c2))) ∧ Sep w0 w' R rows := by
 have HX := Lib.hid h
 clear h
 obtain ⟨kind, id, ⟨num, zxid, err, at_, rs1⟩, e2, at2, rs2, yes⟩ := o
 unfold outV
 dsimp only
 go_enter Tryz.func52, Tryz.ntmps52
 go_wp2_with (first | refine u0 ?_ | (refine uS ?_; clear HX; intro w HX) | (refine uA ?_; clear HX; (first | (have hq := b2; clear hq; intro w b3 HX) | (have hq := b; clear hq; intro w b2 HX) | intro w b HX)))
 refine rM (fun W => Sep w0 W (yac' b2 (.cells #[.int .i64 0, .int .i64 0, .int .i64 0, .int .i64 0, .int .i64 0, .int .i64 0, .slice none 0 0, .int .i64 0, .int .i64 0, .slice none 0 0, .bool false] 104 (0, 0)) :: yac' b (.cells #[.int .i64 kind, .int .i64 id, .int .i64 num, .int .i64 zxid, .int .i64 err, .int .i64 at_, .slice a n c, .int .i64 e2, .int .i64 at2, .slice a2 n2 c2, .bool yes] 93 (0, 0)) :: R) rows) 16 ?_
 intro KEEPX
 replace HX := Lib.hid HX.out.drew
 refine rT [(0, false), (1, true), (2, false), (3, true), (4, false), (5, true), (7, false), (8, true), (9, false), (10, true), (11, false), (12, true), (13, false), (14, true)] 3 ?_
 apply Exists.intro; refine ⟨?_, HX.out, ?_⟩
 ·iterate 14 (refine xE ?_)
  exact rfl
 refine r1 2 6 fun K hK => ?_
 go_wp2_with fail
 refine (ywm' HX.out ⟨num, zxid, err, at_, rs1⟩ a n c).mono ?_
 rintro e w ⟨rfl, hx⟩
 replace HX := Lib.hid hx
 clear hx
 go_wp2_with fail
 refine hK _ _ HX.out ?_
 clear hK
 refine rT [(15, false)] 1 ?_
 apply Exists.intro; refine ⟨?_, HX.out, ?_⟩
 ·iterate 1 (refine xE ?_)
  exact rfl
 refine rL [16] 0 ?_
 simp only [List.filterMap_cons, List.filterMap_nil, k_i, k_j, k_k]
 refine tWS ?_
 clear HX
 intro w HX
 simp only [Act.put, k_a, k_b, k_c, yb2', Nat.reduceAdd] at HX ⊢
 go_wp2_with (first | refine u0 ?_ | (refine uS ?_; clear HX; intro w HX) | (refine uA ?_; clear HX; (first | (have hq := b2; clear hq; intro w b3 HX) | (have hq := b; clear hq; intro w b2 HX) | intro w b HX)))
 refine ya9' HX rfl rfl (by (repeat (first | (with_reducible exact k_s) | (with_reducible apply k_m)))) (by kernel_rfl) ?_
 exact ⟨rfl, HX.out.drop.drop⟩
theorem ypw' {m : ReplyS} {a : Option Addr} {n c : Nat} (h : RsIn P m.rs (.slice a n c)) : yf5' P m (.agg #[.int .i64 m.num, .int .i64 m.zxid, .int .i64 m.err, .int .i64 m.at_, .slice a n c]) := by
 obtain ⟨xs, h1, h2⟩ := h
 exact ⟨a, n, c, xs, rfl, h1, h2⟩
set_option maxRecDepth 100000 in
set_option maxHeartbeats 4000000 in
theorem yoq' (h : Sep w0 w (yab' w0 P :: R) rows) (o : OutS) (v1 v2 u1 u2 : Value) (hv : OutIn P o v1 v2) (hu : OutIn P o u1 u2) (hok : yp8' o) :
  Calls Tryz.prog 51 #[.agg (outV o v1 v2), .agg (outV o u1 u2)] w fun e w' => e = .returned (.bool true) ∧ Sep w0 w' (yab' w0 P :: R) rows := by
 obtain ⟨a1, n1, c1, rfl⟩ := ybr' h hv.1
 obtain ⟨a2, n2, c2, rfl⟩ := ybr' h hv.2
 obtain ⟨a3, n3, c3, rfl⟩ := ybr' h hu.1
 obtain ⟨a4, n4, c4, rfl⟩ := ybr' h hu.2
 have HV := Lib.hid (show _ ∧ _ ∧ _ from ⟨hv, hu, hok⟩)
 have HX := Lib.hid h
 obtain ⟨kind, id, ⟨num, zxid, err, at_, rs1⟩, e2, at2, rs2, yes⟩ := o
 clear h hv hu hok
 unfold outV
 dsimp only at HV ⊢
 have q1 : (kind == kind) = true := by simp
 have q2 : (id == id) = true := by simp
 have q3 : (e2 == e2) = true := by simp
 have q4 : (at2 == at2) = true := by simp
 go_enter Tryz.func51, Tryz.ntmps51
 go_wp2_with (first | refine u0 ?_ | (refine uS ?_; clear HX; intro w HX) | (refine uA ?_; clear HX; (first | (have hq := b; clear hq; intro w b2 HX) | intro w b HX)))
 refine (ylo' HX.out.up2 ⟨num, zxid, err, at_, rs1⟩ _ _ (ypw' HV.out.1.1) (ypw' HV.out.2.1.1) (Nat.le_trans HV.out.2.2.1.1 (by omega))).mono ?_
 rintro e w ⟨rfl, hx⟩
 replace HX := Lib.hid hx
 clear hx
 go_wp2_with (first | refine u0 ?_ | (refine uS ?_; clear HX; intro w HX) | (refine uA ?_; clear HX; (first | (have hq := b; clear hq; intro w b2 HX) | intro w b HX)))
 obtain ⟨x1, r1, m1⟩ := HV.out.1.2
 obtain ⟨x2, r2, m2⟩ := HV.out.2.1.2
 refine (yna' HX.out rs2 _ _ x1 x2 m1 m2 r1 r2 (Nat.le_trans HV.out.2.2.2.1 (by omega))).mono ?_
 clear r1 m1 r2 m2
 rintro e w ⟨rfl, hx⟩
 replace HX := Lib.hid hx
 clear hx
 go_wp2_with (first | refine u0 ?_ | (refine uS ?_; clear HX; intro w HX) | (refine uA ?_; clear HX; (first | (have hq := b; clear hq; intro w b2 HX) | intro w b HX)))
 go_ret
 exact ⟨rfl, HX.out.cut1.cut1⟩
end
end Go.Proofs.YtcnkifbjlihaoaaGreatDoor

namespace Go.Av
open Go.RowKit
theorem yqv' (S : PartS) (sess num : Int) (l : List OpS) : (yb4' S sess num l).2.t.room = S.t.room := by
 unfold yb4'
 split
 ·rfl
 ·split
  ·rfl
  ·unfold ya3'
   split
   ·rfl
   ·exact yek' ..
theorem ytk' (S : PartS) (id sess : Int) (l : List OpS) : (yd1' S id sess l).2.t.room = S.t.room := by
 unfold yd1'
 repeat' split
 all_goals rfl
theorem yqf' (S : PartS) (id sess : Int) : (ycb' S id sess).2.t.room = S.t.room := by
 unfold ycb'
 repeat' split
 all_goals rfl
theorem yn3' (S : PartS) (id : Int) (yes : Bool) : (ybo' S id yes).2.t.room = S.t.room := by
 unfold ybo'
 split
 ·rfl
 ·split
  ·rfl
  ·split
   ·exact ygx' ..
   ·exact yek' ..
end Go.Av
namespace Go.Proofs.YtcnkifbjlihaoaaGreatDoor
open Go.RowKit Go.Av
theorem yvd' (S : ShardS) (c : CmdS) : (doC S c).2.p.t.room = S.p.t.room := by
 unfold doC
 split
 ·exact yqv' ..
 split
 ·exact ytk' ..
 split
 ·exact yqf' ..
 split
 ·exact yn3' ..
 split
 ·rfl
 split
 ·rfl
 split
 ·rfl
 ·rfl
theorem yem' (S : ShardS) (b : Bs) : (ya8' S b).2.p.t.room = S.p.t.room := by
 unfold ya8'
 split
 ·rfl
 ·split
  ·rfl
  ·exact yvd' ..
theorem yok' (l : List Bs) (b : Bs) (S : ShardS) : yf1' (l ++ [b]) S = (ya8' (yf1' l S) b).2 := by
 unfold yf1'
 rw [List.foldl_append]
 rfl
theorem same0.symm {S S' : ShardS} (h : same0 S S') : same0 S' S := ⟨h.1.symm, h.2.1.symm, h.2.2.symm⟩
theorem same0.trans {S S' S'' : ShardS} (h : same0 S S') (h' : same0 S' S'') : same0 S S'' := ⟨h.1.trans h'.1, h.2.1.trans h'.2.1, h.2.2.trans h'.2.2⟩
theorem yh5' {S : ShardS} {recs : List Bs} (h : same0 S (yf1' recs (yd0' 60))) (r : Bs) : same0 (ya8' S r).2 (yf1' (recs ++ [r]) (yd0' 60)) := by
 rw [yok']
 exact (yth' h r).2
theorem yuk' {S : ShardS} {recs : List Bs} (h : same0 S (yf1' recs (yd0' 60))) (r : Bs) : (ya8' (ya8' S r).2 r).1 = (ya8' S r).1 ∧ same0 (ya8' (ya8' S r).2 r).2 (yf1' (recs ++ [r]) (yd0' 60)) := by
 obtain ⟨h1, h2⟩ := yq3' S r
 exact ⟨h1, h2.trans (yh5' h r)⟩
end Go.Proofs.YtcnkifbjlihaoaaGreatDoor

namespace Go.Av
open Go.RowKit
def IsIntsJ (w : World) (a : Option Addr) (len cap : Nat) (zs : List Int) : Prop :=
 (a = none ∧ len = 0 ∧ cap = 0 ∧ zs = []) ∨
 ∃ x, a = some x ∧ len ≤ cap ∧ cap ≤ maxLen ∧ zs.length = cap ∧ (∀ i, i < zs.length → w.cell? (x.add i) = some (.int .i64 (zs.getD i 0))) ∧ ∀ n ∈ zs, (Lit.int .i64 n).wf = true
theorem IsIntsJ.read {w : World} {a : Option Addr} {len cap : Nat} {zs : List Int} (h : IsIntsJ w a len cap zs) : ∃ (l : List Int) (E : List Nat), l.length = len ∧ ReadRow w 1 (.slice a len cap) (l.map fun z => Value.int .i64 z) E := by
 rcases h with ⟨rfl, rfl, rfl, rfl⟩ | ⟨x, rfl, h1, h2, h3, h4, h5⟩
 ·exact ⟨[], [], rfl, none, 0, 0, rfl, rfl, Nat.le_refl _, by decide, fun _ => rfl, .inl ⟨rfl, rfl⟩⟩
 ·refine ⟨zs.take len, if len = 0 then [] else [x.block], by simp; omega, some x, len, cap, rfl, by simp; omega, h1, h2, by simp, ?_⟩
  by_cases h0 : len = 0
  ·subst h0; exact .inl ⟨by simp, by simp⟩
  ·refine .inr ?_
   have hc0 := h4 0 (by omega)
   have hsp : x.spot = none := by
    cases hs : x.spot with
    | none => rfl
    | some _ =>
     have : x.add 0 = x := by simp [Addr.add]
     rw [this] at hc0
     unfold World.cell? at hc0
     split at hc0 <;> simp [hs] at hc0
   obtain ⟨b, o, sp⟩ := x
   simp only at hsp
   subst hsp
   refine ⟨b, o, rfl, by simp [h0], ?_, fun i u hu => ?_⟩
   ·have := World.block_lt_of_cell? w _ hc0
    simpa [Addr.add_lit] using this
   ·rw [List.getElem?_map, List.getElem?_take] at hu
    split at hu
    ·rename_i hi
     cases hz : zs[i]? with
     | none => rw [hz] at hu; cases hu
     | some z =>
      rw [hz] at hu
      cases hu
      have := h4 i (by omega)
      rw [Addr.add_lit] at this
      rw [this, List.getD_eq_getElem?_getD, hz]
      rfl
    ·cases hu
end Go.Av

namespace Go.Av
open Go.RowKit
theorem ytu' {α : Type} [Inhabited α] {K : Nat} (hK : 0 < K) {f : α → List Value} (hf : ∀ x, (f x).length = K) {w : World} {a : Option Addr} {len cap : Nat} {l : List α} (h1 : l.length = len) (h2 : len ≤ cap) (h3 : cap ≤ maxLen) (h4 : a = none → cap = 0)
  (h5 : ∀ x, a = some x → ∀ i (hi : i < l.length) j v, (f l[i])[j]? = some v → w.cell? (x.add (i * K + j)) = some v) : ∃ E, ReadRow w K (.slice a len cap) (l.flatMap f) E := by
 have hlen : (l.flatMap f).length = len * K := by rw [yav' (f := f) (K := K) hf, h1]
 cases hl : l with
 | nil =>
  subst hl
  exact ⟨[], a, len, cap, rfl, hlen, h2, h3, h4, .inl ⟨rfl, rfl⟩⟩
 | cons o r =>
  rw [← hl]
  have h0 : 0 < l.length := by rw [hl]; simp
  cases a with
  | none =>
   have := h4 rfl
   omega
  | some x =>
   obtain ⟨v0, hv0⟩ : ∃ v, (f l[0])[0]? = some v := ⟨(f l[0])[0]'(by rw [hf]; exact hK), List.getElem?_eq_getElem _⟩
   have g0 := h5 x rfl 0 h0 0 v0 hv0
   obtain ⟨bk, off, sp⟩ := x
   rw [Nat.zero_mul] at g0
   have hsp : sp = none := by
    have hz : (⟨bk, off, sp⟩ : Addr).add (0 + 0) = ⟨bk, off, sp⟩ := by unfold Addr.add; split <;> simp_all
    rw [hz] at g0
    exact yg3' g0
   subst hsp
   refine ⟨[bk], _, len, cap, rfl, hlen, h2, h3, h4, .inr ⟨bk, off, rfl, rfl, ?_, fun i v hv => ?_⟩⟩
   ·have := World.block_lt_of_cell? w _ g0
    rw [Addr.add_lit] at this
    exact this
   ·have hi : i < l.length * K := by
     have := (List.getElem?_eq_some_iff.1 hv).1
     rw [yav' (f := f) (K := K) hf] at this
     exact this
    have hp : i / K < l.length := Nat.div_lt_of_lt_mul (by rw [Nat.mul_comm]; exact hi)
    have hm : i % K < K := Nat.mod_lt _ hK
    have hat := yfm' (f := f) (K := K) hf l hp hm
    rw [Nat.mul_comm, Nat.div_add_mod, hv] at hat
    have := h5 _ rfl (i / K) hp (i % K) v hat.symm
    rw [Addr.add_lit, Nat.mul_comm, Nat.div_add_mod] at this
    exact this
end Go.Av
namespace Go.Proofs.YtcnkifbjlihaoaaGreatDoor
open Go.RowKit Go.Av Go.ChangeShapes Go.WideShapes
structure CmdG where
 c : CmdS
 vo : Value
 vs : Value
def CmdG.cells (g : CmdG) : List Value := (cmdV g.c g.vo g.vs).toList
instance : Inhabited CmdG := ⟨⟨⟨0, 0, 0, 0, 0, [], [], 0, false⟩, .bool false, .bool false⟩⟩
theorem yk1' (g : CmdG) : g.cells.length = 9 := rfl
def yz8' (w : World) (g : CmdG) : Prop := (∃ E, ReadRow w 5 g.vo (g.c.ops.flatMap OpS.cells) E) ∧ ∃ E, ReadRow w 1 g.vs (g.c.shards.map ivn) E
def IsCmds (w : World) (a : Option Addr) (len cap : Nat) (l : List CmdG) : Prop := l.length = len ∧ (∃ E, ReadRow w 9 (.slice a len cap) (l.flatMap CmdG.cells) E) ∧ ∀ g ∈ l, yz8' w g
def IsBools (w : World) (a : Option Addr) (len cap : Nat) (l : List Bool) : Prop := l.length = len ∧ ∃ E, ReadRow w 1 (.slice a len cap) (l.map Value.bool) E
theorem yo8' : Tryz.prog.cellsOf 70 = 9 ∧ Tryz.prog.cellsOf 3 = 1 ∧ Tryz.prog.cellsOf 2 = 1 ∧ Tryz.prog.cellsOf 30 = 1 ∧ Tryz.prog.cellsOf 4 = 1 ∧ Tryz.prog.cellsOf 68 = 1 ∧ Tryz.prog.cellsOf 42 = 3 := by
 refine ⟨?_, ?_, ?_, ?_, ?_, ?_, ?_⟩ <;> kernel_rfl
theorem yqu' {H : Type} {enc : TypeId × Value → H} {w : World} {base : Nat} {held : Bool} {fuel : Nat} {c : Value} {x : DataW H × List MemPlace}
  (h : DataW.trod enc Tryz.prog w base (fun _ => true) held fuel 68 [c] = some x) : ∃ (l : List Int) (E : List Nat), ReadRow w 1 c (l.map ivn) E := by
 rcases open_ints Tryz.underlying68 Tryz.underlying3 (by kernel_rfl) h with ⟨hcs, _⟩ | ⟨a, len, cap, zs, hcs, _, hl, hm, hz, _, hcell, hwz⟩
 ·cases hcs
  exact ⟨[], [], none, 0, 0, rfl, rfl, Nat.le_refl _, by decide, fun _ => rfl, .inl ⟨rfl, rfl⟩⟩
 ·cases hcs
  obtain ⟨l, E, -, hE⟩ := IsIntsJ.read (w := w) (a := some a) (len := len) (cap := cap) (zs := zs) (.inr ⟨a, rfl, hl, hm, by simpa using hz, hcell, hwz⟩)
  exact ⟨l, E, hE⟩
set_option maxRecDepth 100000 in
theorem cmds_of {H : Type} {enc : TypeId × Value → H} {w : World} {base : Nat} {held : Bool} {fuel : Nat} {a : Option Addr} {len cap : Nat} {x : DataW H × List MemPlace}
  (h : DataW.trod enc Tryz.prog w base (fun _ => true) held fuel 99 [.slice a len cap] = some x) : ∃ l, IsCmds w a len cap l := by
 obtain ⟨c9, c1, c2, c3, c4, c5, c6⟩ := yo8'
 rcases Deep.open_slice Tryz.underlying99 h with ⟨hcs, _⟩ | ⟨x, l, c, m, n, D, Pl, hcs, hb, hl, hm, hmm, hx, hi⟩
 ·cases hcs
  exact ⟨[], rfl, ⟨[], none, 0, 0, rfl, rfl, Nat.le_refl _, by decide, fun _ => rfl, .inl ⟨rfl, rfl⟩⟩, by simp⟩
 ·cases hcs
  rw [c9] at hi
  have each : ∀ i, i < len → ∃ q : CmdG, (∀ j v, q.cells[j]? = some v → w.cell? (x.add (i * 9 + j)) = some v) ∧ yz8' w q := by
   intro i hil
   obtain ⟨cs', hc, ht⟩ := hi i (by rw [hmm]; split <;> omega)
   obtain ⟨_, hcl, hat⟩ := World.cells?_some hc
   obtain ⟨ys, n', -, -, -, hyl, hf⟩ := DataW.trod_struct Tryz.underlying70 ht
   match cs', hcl with
   | [k0, k1, k2, k3, k4, k5, k6, k7, k8], _ =>
    have f0 : DataW.trod enc Tryz.prog w base (fun _ => true) held n' 3 (List.take (Tryz.prog.cellsOf 3) (List.drop 0 [k0, k1, k2, k3, k4, k5, k6, k7, k8])) = ys[0]? := hf 0 _ rfl
    have f1 : DataW.trod enc Tryz.prog w base (fun _ => true) held n' 2 (List.take (Tryz.prog.cellsOf 2) (List.drop 1 [k0, k1, k2, k3, k4, k5, k6, k7, k8])) = ys[1]? := hf 1 _ rfl
    have f2 : DataW.trod enc Tryz.prog w base (fun _ => true) held n' 2 (List.take (Tryz.prog.cellsOf 2) (List.drop 2 [k0, k1, k2, k3, k4, k5, k6, k7, k8])) = ys[2]? := hf 2 _ rfl
    have f3 : DataW.trod enc Tryz.prog w base (fun _ => true) held n' 42 (List.take (Tryz.prog.cellsOf 42) (List.drop 3 [k0, k1, k2, k3, k4, k5, k6, k7, k8])) = ys[3]? := hf 3 _ rfl
    have f4 : DataW.trod enc Tryz.prog w base (fun _ => true) held n' 68 (List.take (Tryz.prog.cellsOf 68) (List.drop 6 [k0, k1, k2, k3, k4, k5, k6, k7, k8])) = ys[4]? := hf 4 _ rfl
    have f5 : DataW.trod enc Tryz.prog w base (fun _ => true) held n' 3 (List.take (Tryz.prog.cellsOf 3) (List.drop 7 [k0, k1, k2, k3, k4, k5, k6, k7, k8])) = ys[5]? := hf 5 _ rfl
    have f6 : DataW.trod enc Tryz.prog w base (fun _ => true) held n' 4 (List.take (Tryz.prog.cellsOf 4) (List.drop 8 [k0, k1, k2, k3, k4, k5, k6, k7, k8])) = ys[6]? := hf 6 _ rfl
    rw [c1] at f0 f5
    rw [c2] at f1 f2
    rw [c6] at f3
    rw [c5] at f4
    rw [c4] at f6
    have hy : ∀ j, j < 7 → ∃ y, ys[j]? = some y := fun j hj => ⟨ys[j]'(by rw [hyl]; exact hj), List.getElem?_eq_getElem _⟩
    obtain ⟨y0, e0⟩ := hy 0 (by omega)
    obtain ⟨y1, e1⟩ := hy 1 (by omega)
    obtain ⟨y2, e2⟩ := hy 2 (by omega)
    obtain ⟨y3, e3⟩ := hy 3 (by omega)
    obtain ⟨y4, e4⟩ := hy 4 (by omega)
    obtain ⟨y5, e5⟩ := hy 5 (by omega)
    obtain ⟨y6, e6⟩ := hy 6 (by omega)
    obtain ⟨n0, g0, -, -⟩ := DataW.trod_int Tryz.underlying3 (f0.trans e0)
    obtain ⟨n1, g1, -, -⟩ := DataW.trod_int Tryz.underlying2 (f1.trans e1)
    obtain ⟨n2, g2, -, -⟩ := DataW.trod_int Tryz.underlying2 (f2.trans e2)
    obtain ⟨zs, m', -, -, -, hzl, hg⟩ := DataW.trod_struct Tryz.underlying42 (f3.trans e3)
    have r0 : DataW.trod enc Tryz.prog w base (fun _ => true) held m' 2 (List.take (Tryz.prog.cellsOf 2) (List.drop 0 [k3, k4, k5])) = zs[0]? := hg 0 _ rfl
    have r1 : DataW.trod enc Tryz.prog w base (fun _ => true) held m' 2 (List.take (Tryz.prog.cellsOf 2) (List.drop 1 [k3, k4, k5])) = zs[1]? := hg 1 _ rfl
    have r2 : DataW.trod enc Tryz.prog w base (fun _ => true) held m' 30 (List.take (Tryz.prog.cellsOf 30) (List.drop 2 [k3, k4, k5])) = zs[2]? := hg 2 _ rfl
    rw [c2] at r0 r1
    rw [c3] at r2
    have hz : ∀ j, j < 3 → ∃ y, zs[j]? = some y := fun j hj => ⟨zs[j]'(by rw [hzl]; exact hj), List.getElem?_eq_getElem _⟩
    obtain ⟨x0, d0⟩ := hz 0 (by omega)
    obtain ⟨x1, d1⟩ := hz 1 (by omega)
    obtain ⟨x2, d2⟩ := hz 2 (by omega)
    obtain ⟨n3, g3, -, -⟩ := DataW.trod_int Tryz.underlying2 (r0.trans d0)
    obtain ⟨n4, g4, -, -⟩ := DataW.trod_int Tryz.underlying2 (r1.trans d1)
    have g5 : DataW.trod enc Tryz.prog w base (fun _ => true) held m' 30 [k5] = some x2 := r2.trans d2
    have g6 : DataW.trod enc Tryz.prog w base (fun _ => true) held n' 68 [k6] = some y4 := f4.trans e4
    obtain ⟨n7, g7, -, -⟩ := DataW.trod_int Tryz.underlying3 (f5.trans e5)
    obtain ⟨n8, g8, -⟩ := DataW.trod_bool Tryz.underlying4 (f6.trans e6)
    obtain ⟨ops, E, hE⟩ := ys9' g5
    obtain ⟨sh, E2, hE2⟩ := yqu' g6
    simp at g0 g1 g2 g3 g4 g7 g8
    subst g0 g1 g2 g3 g4 g7 g8
    refine ⟨⟨⟨n0, n1, n2, n3, n4, ops, sh, n7, n8⟩, k5, k6⟩, fun j v hv => ?_, ⟨E, hE⟩, ⟨E2, hE2⟩⟩
    have hj := (List.getElem?_eq_some_iff.1 hv).1
    have := hat j hj
    rw [ycv'] at this
    rw [this]
    exact hv
  obtain ⟨y, hy⟩ := Deep.choose_lt each
  refine ⟨(List.range len).map y, by simp, ytu' (by omega) yk1' (by simp) hl hm (by simp) ?_, ?_⟩
  ·intro x' hx' i hi' j v hv
   cases hx'
   simp at hi' hv
   exact (hy i hi').1 j v hv
  ·intro q hq
   obtain ⟨i, hi', rfl⟩ := List.mem_map.1 hq
   exact (hy i (List.mem_range.1 hi')).2
theorem bools_of {H : Type} {enc : TypeId × Value → H} {w : World} {base : Nat} {held : Bool} {fuel : Nat} {a : Option Addr} {len cap : Nat} {x : DataW H × List MemPlace}
  (h : DataW.trod enc Tryz.prog w base (fun _ => true) held fuel 100 [.slice a len cap] = some x) : ∃ l, IsBools w a len cap l := by
 obtain ⟨c9, c1, c2, c3, c4, c5, c6⟩ := yo8'
 rcases Deep.open_slice Tryz.underlying100 h with ⟨hcs, _⟩ | ⟨x, l, c, m, n, D, Pl, hcs, hb, hl, hm, hmm, hx, hi⟩
 ·cases hcs
  exact ⟨[], rfl, ⟨[], none, 0, 0, rfl, rfl, Nat.le_refl _, by decide, fun _ => rfl, .inl ⟨rfl, rfl⟩⟩⟩
 ·cases hcs
  rw [c4] at hi
  have each : ∀ i, i < len → ∃ q : Bool, w.cell? (x.add (i * 1)) = some (.bool q) := by
   intro i hil
   obtain ⟨cs', hc, ht⟩ := hi i (by rw [hmm]; split <;> omega)
   obtain ⟨_, hcl, hat⟩ := World.cells?_some hc
   match cs', hcl with
   | [k0], _ =>
    obtain ⟨n0, g0, -⟩ := DataW.trod_bool Tryz.underlying4 ht
    simp at g0
    subst g0
    have := hat 0 (by omega)
    rw [ycv'] at this
    exact ⟨n0, this⟩
  obtain ⟨y, hy⟩ := Deep.choose_lt each
  have hr := ytu' (K := 1) (f := fun (b : Bool) => [Value.bool b]) (by omega) (fun _ => rfl) (w := w) (a := some x) (len := len) (cap := cap) (l := (List.range len).map y) (by simp) hl hm (by simp) (by
   intro x' hx' i hi' j v hv
   cases hx'
   simp at hi' hv
   match j, hv with
   | 0, hv => simp at hv; subst hv; exact hy i hi')
  obtain ⟨E, hE⟩ := hr
  exact ⟨(List.range len).map y, by simp, E, by rw [List.map_eq_flatMap (f := Value.bool)]; exact hE⟩
end Go.Proofs.YtcnkifbjlihaoaaGreatDoor

namespace Go.Proofs
open Go.Shelf
def Tryz.sorted90_ren : Go.Shelf.Ren := ⟨fun | 6 => 90 | 8 => 163 | 9 => 164 | 11 => 198 | 13 => 200 | 12 => 199 | 23 => 240 | 24 => 241 | 14 => 231 | 15 => 232 | 16 => 233 | 17 => 234 | 18 => 235 | 19 => 236 | 20 => 237 | 21 => 238 | 22 => 239 | 25 => 272 | 26 => 273 | 27 => 274 | 28 => 275 | 29 => 276 | 30 => 277 | 31 => 300 | n => n, fun | 26 => 2 | 28 => 160 | 24 => 53 | 0 => 0 | 3 => 3 | 37 => 250 | 48 => 312 | 50 => 249 | 4 => 4 | 40 => 306 | 39 => 305 | 45 => 242 | 5 => 5 | 9 => 9 | 51 => 333 | 55 => 337 | 57 => 353 | 58 => 162 | 33 => 62 | n => n, fun | n => n⟩
theorem Tryz.sorted90 : Go.Proofs.SlLaysZI.n6 Tryz.prog Tryz.sorted90_ren := {
 mixed := by kernel_rfl
 f6 := ⟨Tryz.f90.name, by decide, Tryz.func90.trans (congrArg some (by kernel_rfl))⟩
 f8 := ⟨Tryz.f163.name, by decide, Tryz.func163.trans (congrArg some (by kernel_rfl))⟩
 f11 := ⟨Tryz.f198.name, by decide, Tryz.func198.trans (congrArg some (by kernel_rfl))⟩
 t0 := Tryz.underlying0
 a0 := Tryz.isAgg0
 z0 := Tryz.sizeOf0
 v0 := Tryz.zeroValue0
 t24 := Tryz.underlying53
 a24 := Tryz.isAgg53
 z24 := Tryz.sizeOf53
 v24 := Tryz.zeroValue53
 t26 := Tryz.underlying2
 a26 := Tryz.isAgg2
 z26 := Tryz.sizeOf2
 v26 := Tryz.zeroValue2
 t28 := Tryz.underlying160
 a28 := Tryz.isAgg160
 z28 := Tryz.sizeOf160
 v28 := Tryz.zeroValue160
 i26 := by kernel_rfl }
def Tryz.sort164_ren : Go.Shelf.Ren := ⟨fun | 5 => 164 | 8 => 200 | 7 => 199 | 19 => 240 | 20 => 241 | 10 => 231 | 11 => 232 | 12 => 233 | 13 => 234 | 14 => 235 | 15 => 236 | 16 => 237 | 17 => 238 | 18 => 239 | 30 => 272 | 31 => 273 | 32 => 274 | 33 => 275 | 34 => 276 | 35 => 277 | 40 => 300 | n => n, fun | 23 => 53 | 25 => 2 | 3 => 3 | 32 => 250 | 22 => 53 | 0 => 0 | 44 => 312 | 46 => 249 | 4 => 4 | 36 => 306 | 35 => 305 | 41 => 242 | 5 => 5 | 9 => 9 | 53 => 333 | 57 => 337 | 63 => 353 | 64 => 162 | n => n, fun | n => n⟩
theorem Tryz.sort164 : Go.Proofs.SlLaysM.n5 Tryz.prog Tryz.sort164_ren := {
 mixed := by kernel_rfl
 f5 := ⟨Tryz.f164.name, by decide, Tryz.func164.trans (congrArg some (by kernel_rfl))⟩
 f7 := ⟨Tryz.f199.name, by decide, Tryz.func199.trans (congrArg some (by kernel_rfl))⟩
 f8 := Tryz.func200.trans (congrArg some (by kernel_rfl))
 f10 := ⟨Tryz.f231.name, by decide, Tryz.func231.trans (congrArg some (by kernel_rfl))⟩
 f11 := ⟨Tryz.f232.name, by decide, Tryz.func232.trans (congrArg some (by kernel_rfl))⟩
 f12 := ⟨Tryz.f233.name, by decide, Tryz.func233.trans (congrArg some (by kernel_rfl))⟩
 f13 := ⟨Tryz.f234.name, by decide, Tryz.func234.trans (congrArg some (by kernel_rfl))⟩
 f14 := ⟨Tryz.f235.name, by decide, Tryz.func235.trans (congrArg some (by kernel_rfl))⟩
 f15 := ⟨Tryz.f236.name, by decide, Tryz.func236.trans (congrArg some (by kernel_rfl))⟩
 f16 := ⟨Tryz.f237.name, by decide, Tryz.func237.trans (congrArg some (by kernel_rfl))⟩
 f17 := ⟨Tryz.f238.name, by decide, Tryz.func238.trans (congrArg some (by kernel_rfl))⟩
 f18 := ⟨Tryz.f239.name, by decide, Tryz.func239.trans (congrArg some (by kernel_rfl))⟩
 f19 := Tryz.func240.trans (congrArg some (by kernel_rfl))
 f20 := Tryz.func241.trans (congrArg some (by kernel_rfl))
 f30 := ⟨Tryz.f272.name, by decide, Tryz.func272.trans (congrArg some (by kernel_rfl))⟩
 f31 := Tryz.func273.trans (congrArg some (by kernel_rfl))
 f32 := Tryz.func274.trans (congrArg some (by kernel_rfl))
 f33 := ⟨Tryz.f275.name, by decide, Tryz.func275.trans (congrArg some (by kernel_rfl))⟩
 f34 := ⟨Tryz.f276.name, by decide, Tryz.func276.trans (congrArg some (by kernel_rfl))⟩
 f35 := ⟨Tryz.f277.name, by decide, Tryz.func277.trans (congrArg some (by kernel_rfl))⟩
 f40 := ⟨Tryz.f300.name, by decide, Tryz.func300.trans (congrArg some (by kernel_rfl))⟩
 t0 := Tryz.underlying0
 a0 := Tryz.isAgg0
 z0 := Tryz.sizeOf0
 v0 := Tryz.zeroValue0
 t3 := Tryz.underlying3
 a3 := Tryz.isAgg3
 z3 := Tryz.sizeOf3
 v3 := Tryz.zeroValue3
 t4 := Tryz.underlying4
 a4 := Tryz.isAgg4
 z4 := Tryz.sizeOf4
 v4 := Tryz.zeroValue4
 t5 := Tryz.underlying5
 a5 := Tryz.isAgg5
 z5 := Tryz.sizeOf5
 v5 := Tryz.zeroValue5
 t9 := Tryz.underlying9
 a9 := Tryz.isAgg9
 z9 := Tryz.sizeOf9
 v9 := Tryz.zeroValue9
 t22 := Tryz.underlying53
 a22 := Tryz.isAgg53
 z22 := Tryz.sizeOf53
 v22 := Tryz.zeroValue53
 t23 := Tryz.underlying53
 a23 := Tryz.isAgg53
 z23 := Tryz.sizeOf53
 v23 := Tryz.zeroValue53
 t25 := Tryz.underlying2
 a25 := Tryz.isAgg2
 z25 := Tryz.sizeOf2
 v25 := Tryz.zeroValue2
 t32 := Tryz.underlying250
 a32 := Tryz.isAgg250
 z32 := Tryz.sizeOf250
 v32 := Tryz.zeroValue250
 t35 := Tryz.underlying305
 a35 := Tryz.isAgg305
 z35 := Tryz.sizeOf305
 v35 := Tryz.zeroValue305
 t36 := Tryz.underlying306
 a36 := Tryz.isAgg306
 z36 := Tryz.sizeOf306
 v36 := Tryz.zeroValue306
 t41 := Tryz.underlying242
 a41 := Tryz.isAgg242
 z41 := Tryz.sizeOf242
 v41 := Tryz.zeroValue242
 t44 := Tryz.underlying312
 a44 := Tryz.isAgg312
 z44 := Tryz.sizeOf312
 v44 := Tryz.zeroValue312
 t46 := Tryz.underlying249
 a46 := Tryz.isAgg249
 z46 := Tryz.sizeOf249
 v46 := Tryz.zeroValue249
 t53 := Tryz.underlying333
 a53 := Tryz.isAgg333
 z53 := Tryz.sizeOf333
 v53 := Tryz.zeroValue333
 t57 := Tryz.underlying337
 a57 := Tryz.isAgg337
 z57 := Tryz.sizeOf337
 v57 := Tryz.zeroValue337
 t63 := Tryz.underlying353
 a63 := Tryz.isAgg353
 z63 := Tryz.sizeOf353
 v63 := Tryz.zeroValue353
 t64 := Tryz.underlying162
 a64 := Tryz.isAgg162
 z64 := Tryz.sizeOf162
 v64 := Tryz.zeroValue162 }
def Tryz.keys134_ren : Go.Shelf.Ren := ⟨fun | 7 => 134 | 10 => 174 | n => n, fun | 23 => 214 | 26 => 2 | 3 => 218 | 28 => 160 | 0 => 0 | 27 => 159 | 33 => 62 | 4 => 4 | n => n, fun | n => n⟩
theorem Tryz.keys134 : Go.Proofs.SlLaysZI.n7 Tryz.prog Tryz.keys134_ren := {
 mixed := by kernel_rfl
 f7 := ⟨Tryz.f134.name, by decide, Tryz.func134.trans (congrArg some (by kernel_rfl))⟩
 f10 := ⟨Tryz.f174.name, by decide, Tryz.func174.trans (congrArg some (by kernel_rfl))⟩
 t0 := Tryz.underlying0
 a0 := Tryz.isAgg0
 z0 := Tryz.sizeOf0
 v0 := Tryz.zeroValue0
 t4 := Tryz.underlying4
 a4 := Tryz.isAgg4
 z4 := Tryz.sizeOf4
 v4 := Tryz.zeroValue4
 t23 := Tryz.underlying214
 a23 := Tryz.isAgg214
 z23 := Tryz.sizeOf214
 v23 := Tryz.zeroValue214
 t26 := Tryz.underlying2
 a26 := Tryz.isAgg2
 z26 := Tryz.sizeOf2
 v26 := Tryz.zeroValue2
 t27 := Tryz.underlying159
 a27 := Tryz.isAgg159
 z27 := Tryz.sizeOf159
 v27 := Tryz.zeroValue159
 t28 := Tryz.underlying160
 a28 := Tryz.isAgg160
 z28 := Tryz.sizeOf160
 v28 := Tryz.zeroValue160
 t33 := Tryz.underlying62
 a33 := Tryz.isAgg62
 z33 := Tryz.sizeOf62
 v33 := Tryz.zeroValue62 }
open Go.RowKit Go.Maps Go.Sort Go.Shelf
theorem Tryz.sorts90 (m : Nat) : AnyZI.SortsIn Tryz.prog Tryz.sorted90_ren Fence.wide m :=
  ⟨fun blk off cap ss W hH hblk hsz => callsIn_wide.2 (AnyM.slices_Sort_int Tryz.sort164 blk off cap ss W hH hblk hsz),
   fun p cap W => callsIn_wide.2 (AnyM.slices_Sort_int_none Tryz.sort164 p cap W)⟩
theorem Tryz.maps_Keys_134 (mb : Option Nat) (W : World) : CallsIn Fence.wide 5 Tryz.prog 134 #[.map mb] W fun e w' => e = .returned (.func (.func 174) #[] #[.pointer (some ⟨W.heap.size, 0, none⟩)]) ∧ w' = W.alloc (.cells #[.map mb] 214) :=
 AnyZI.keys_in Tryz.keys134 Fence.wide 5 trivial rfl mb W
set_option maxHeartbeats 1000000 in
theorem Tryz.slices_Sorted_keys_90_134 {H : Type} (b nn : Nat) (D0 : DataW H) (R : Value → Option (DataW H × List MemPlace)) (w : World) (hown : w.ownsMap Tryz.prog 2 R b nn D0) (hmax : Maps.size D0 ≤ maxLen) (hbytes : Maps.size D0 * 8 ≤ 140737488355328) :
  CallsIn Fence.wide 5 Tryz.prog 90 #[.func (.func 174) #[] #[.pointer (some ⟨w.heap.size, 0, none⟩)]] (w.alloc (.cells #[.map (some b)] 214)) fun e w' => ∃ (v : Value) (ss : List Int), e = .returned v ∧ ss.Perm (intKeys D0) ∧
   w'.ownsRow (w.alloc (.cells #[.map (some b)] 214)).heap.size 2 1 v ss.length ((ss.mergeSort (fun x y => decide (x ≤ y))).map encZ) ∧ (v = .slice none 0 0 ↔ ss = []) ∧ Below (w.alloc (.cells #[.map (some b)] 214)).heap.size (w.alloc (.cells #[.map (some b)] 214)) w' := by
 have hbl := hown.lt
 have hseq : SeqGives Fence.wide 2 Tryz.prog 174 #[.pointer (some ⟨w.heap.size, 0, none⟩)] encZ (fun ss => ss.Perm (intKeys D0)) (Maps.size D0) (w.alloc (.cells #[.map (some b)] 214)) :=
  AnyZI.keys_gives (ρ := Tryz.keys134_ren) { Tryz.keys134 with } Fence.wide _ trivial rfl (by omega) w.heap.size b nn D0 _ (by simp) (by simp) (by
   obtain ⟨es, clock, hb, Ft, hs, hD⟩ := hown
   exact ⟨es, clock, (Below.heap_alloc _ _ b hbl).trans hb, Ft, hs, hD⟩)
 exact AnyZI.sorted_in Tryz.sorted90 Fence.wide 5 trivial trivial trivial trivial rfl (by omega) (Tryz.sorts90 _) (enters_of Tryz.func164 (by kernel_rfl) rfl) 174 #[.pointer (some ⟨w.heap.size, 0, none⟩)] trivial (enters_of Tryz.func174 (by kernel_rfl) rfl) _ _ hmax hbytes _ hseq
end Go.Proofs

namespace Go.Proofs.YtcnkifbjlihaoaaGreatDoor
open Go.RowKit Go.Av Go.Maps
def ycp' (S : CoS) : List Int := (S.map (·.1)).mergeSort fun x y => decide (x ≤ y)
section
variable {w0 w : World} {c m : Nat} {S : CoS} {l1 l2 : List EntG} {g : EntG} {R : List Thing} {T : Thing} {rows : List (Value × Bs)}
theorem yyp' (h : Co w0 w c S R rows) (hn : S.length ≤ 1000000) : ∃ m, w.cell? ⟨c, 0, none⟩ = some (.map (some m)) ∧
  (Calls Tryz.prog 134 #[.map (some m)] w fun e w' => e = .returned (.func (.func 174) #[] #[.pointer (some ⟨w.heap.size, 0, none⟩)]) ∧ w' = w.alloc (.cells #[.map (some m)] 214)) ∧
  (Calls Tryz.prog 90 #[.func (.func 174) #[] #[.pointer (some ⟨w.heap.size, 0, none⟩)]] (w.alloc (.cells #[.map (some m)] 214)) fun e w' => ∃ v, e = .returned v ∧ Co w0 w' c S (yaf' 1 v ((ycp' S).map iv) :: R) rows) := by
 have hco := h
 obtain ⟨m, gs, rfl, hwf, hS⟩ := h
 have hc := hS.block (b := c) (o := .cells #[.map (some m)] 216 (0, 0)) (by simp [ycg'])
 obtain ⟨E, hM, -⟩ := hS.has (T := yam' (.int .i64) m (gs.map EntG.kv)) (by simp [ycg'])
 obtain ⟨D0, ho, hz, hp⟩ := yv8' (P := Tryz.prog) (k := 2) (l := gs.map fun g => (g.id, Value.pointer (some ⟨g.p, 0, none⟩))) (by rw [List.map_map]; exact hM) Tryz.underlying2 (by simp at hn ⊢; exact hn) (by
  intro x hx
  obtain ⟨g, hg, rfl⟩ := List.mem_map.1 hx
  have := (hwf g.ent (List.mem_map_of_mem hg)).2
  exact y01' (by have := this.1; have h2 : g.ent.1 = g.id := rfl; omega) this.2)
 rw [List.length_map] at hz
 have hsz : gs.length ≤ 1000000 := by simpa using hn
 refine ⟨m, yaa' hc 0 rfl, callsIn_wide.1 (Tryz.maps_Keys_134 (some m) w), ?_⟩
 refine (callsIn_wide.1 (Tryz.slices_Sorted_keys_90_134 m _ D0 ye3' w ho (by rw [hz]; unfold maxLen; omega) (by rw [hz]; omega))).mono ?_
 rintro e w' ⟨v, ss, rfl, hS2, hrow, hnil, hb⟩
 refine ⟨v, rfl, ?_⟩
 obtain ⟨D, hown, hD⟩ := y0r' hrow
 have hk : ss.mergeSort (fun x y => decide (x ≤ y)) = ycp' (gs.map EntG.ent) := by
  unfold ycp'
  refine mergeSort_of_perm_i (hS2.trans (hp.trans ?_))
  rw [List.map_map, List.map_map]
  exact List.Perm.refl _
 rw [hk] at hown
 have hu : Upd w w' [] [] := (Upd.alloc0 w _ []).trans (Upd.of_below hb)
 exact hco.addR (T := yaf' 1 v ((ycp' (gs.map EntG.ent)).map iv)) (D' := D) ⟨hu.os, hu.tape, hu.output, hu.size, hu.keep, fun b hb' => .inr ⟨by have := (hD b hb').1; simp at this; omega, (hD b hb').2⟩⟩ hown
theorem Co.row {v : Value} {xs : List Value} (h : Co w0 w c S (yaf' 1 v xs :: R) rows) : ∃ D, OwnRow w 1 v xs D ∧ ∀ (w' : World) D' v' xs', OwnRow w' 1 v' xs' D' → Upd w w' D D' → Co w0 w' c S (yaf' 1 v' xs' :: R) rows := by
 obtain ⟨m, gs, h1, h2, hS⟩ := h
 have h3 := hS.perm (yfb' _ _ _ _).symm
 obtain ⟨D, hP, _, back⟩ := h3.use
 exact ⟨D, hP, fun w' D' v' xs' ho hu => ⟨m, gs, h1, h2, (back w' D' (yaf' 1 v' xs') hu ho).perm (yfb' _ _ _ _)⟩⟩
theorem ysp' {S : CoS} {id : Int} (h : id ∈ ycp' S) : ∃ x, yec' id S = some x := by
 unfold ycp' at h
 rw [List.mem_mergeSort] at h
 obtain ⟨e, he, rfl⟩ := List.mem_map.1 h
 cases hl : yec' e.1 S with
 | some x => exact ⟨x, rfl⟩
 | none => exact absurd rfl (ye6' hl e he)
theorem yvw' (S : CoS) : (ycp' S).length = S.length := by unfold ycp'; rw [List.length_mergeSort, List.length_map]
end
end Go.Proofs.YtcnkifbjlihaoaaGreatDoor
namespace Go.Proofs.YtcnkifbjlihaoaaGreatDoor
open Go.RowKit Go.Av
def yjr' (l : List Int) : Bs := yah' l.length ++ l.flatMap yah'
theorem yqz' (b : Bs) (l : List Int) (p : Nat) (hp : p < l.length) : b ++ (yah' l.length ++ (l.take (p + 1)).flatMap yah') = (b ++ (yah' l.length ++ (l.take p).flatMap yah')) ++ yah' l[p] := by
 rw [List.take_succ_eq_append_getElem hp, List.flatMap_append]
 simp
set_option maxRecDepth 100000 in
set_option maxHeartbeats 1000000 in
theorem yoe' (b v : Value) (l : Bs) (xs : List Int) (E F : List Nat) (w : World) (h : ReadRow w 1 b (l.map bv) E) (hv : ReadRow w 1 v (xs.map iv) F) (hl : l.length ≤ 1000000) (hx : xs.length ≤ 1000) :
  Calls Tryz.prog 135 #[b, v] w (ykx' w [] (l ++ yjr' xs)) := by
 obtain ⟨a, n, c, rfl, -⟩ := _root_.id hv
 obtain ⟨hn, hnc, hcm, hcell⟩ := yck' hv
 rw [List.length_map] at hn
 subst hn
 have HP := Lib.hid (yfs' b l E (xs.length : Int) w h (by omega))
 have HC := Lib.hid hcell
 have HV := Lib.hid hv
 clear h hcell hv
 unfold maxLen at hcm
 go_enter Tryz.func135, Tryz.ntmps135
 go_wp2_with fail
 refine HP.out.mono ?_
 rintro e w1 ⟨v1, D1, rfl, ho1, hu1⟩
 have HST := Lib.hid (show _ ∧ _ from ⟨ho1, hu1⟩)
 clear ho1 hu1 HP
 go_wp2_with fail
 go_loopg [0, 13] xs.length (fun k vb vi wr => ∃ (p : Nat) (D : List Nat), p ≤ xs.length ∧ k = xs.length - p ∧ vi = .int .i64 (p : Int) ∧
  OwnRow wr 1 vb ((l ++ (yah' xs.length ++ (xs.take p).flatMap yah')).map bv) D ∧ Upd w wr [] D)
 case atStart => exact ⟨0, D1, Nat.zero_le _, rfl, rfl, by simpa using HST.out.1, HST.out.2⟩
 case round =>
  obtain ⟨p, D, hp, hk, hvi, ho, hu⟩ := hrel
  subst hvi
  clear HST
  by_cases hlt : p < xs.length
  ·obtain ⟨x, rfl, hsx, hcx⟩ := HC.out (by simpa using by omega)
   have hcx := hcx p (iv xs[p]) (by rw [List.getElem?_map, List.getElem?_eq_getElem hlt]; rfl)
   have hcx := (hu.below.cell (World.block_lt_of_cell? w _ hcx)).trans hcx
   have hst := yqz' l xs p hlt
   obtain ⟨z, hz⟩ : ∃ z, xs[p] = z := ⟨_, rfl⟩
   rw [hz] at hcx hst
   unfold iv at hcx
   obtain ⟨E1, hr1, hE1⟩ := ho.read
   have hp2 := yfs' _ _ E1 z wr hr1 (by
    simp only [List.length_append, yar', ydl', List.length_take]; omega)
   rw [← hst] at hp2
   have HP := Lib.hid hp2
   have HU := Lib.hid hu
   clear ho hu hr1 hE1 hp2 hz hst
   go_wp2_with fail
   refine HP.out.mono ?_
   rintro e w2 ⟨v2, D2, rfl, ho2, hu2⟩
   have HN := Lib.hid (show _ ∧ _ from ⟨ho2, HU.out.trans (hu2.mono (by simp) (fun _ hb => .inl hb))⟩)
   clear ho2 hu2 HU HP
   go_wp2_with fail
   go_roundg (xs.length - (p + 1))
   case rel => exact ⟨p + 1, D2, by omega, rfl, by go_num, HN.out.1, HN.out.2⟩
   case measure => omega
  ·obtain rfl : p = xs.length := by omega
   rw [List.take_length] at ho
   have HO := Lib.hid (show _ ∧ _ from ⟨ho, hu⟩)
   clear ho hu
   go_wp2_with fail
   go_ret
   exact ⟨_, D, rfl, HO.out.1, HO.out.2⟩
end Go.Proofs.YtcnkifbjlihaoaaGreatDoor
namespace Go.Proofs.YtcnkifbjlihaoaaGreatDoor
open Go.RowKit Go.Av
theorem ybm' {S : CoS} {id : Int} {x : EntS} (h : yec' id S = some x) : (id, x) ∈ S := by
 obtain ⟨S1, S2, rfl, _⟩ := ygq' h
 simp
def entB (id : Int) (x : EntS) : Bs := yah' id ++ (yjr' x.shards ++ (x.votes.flatMap yah' ++ (yah' x.dec ++ yjr' x.owes)))
def entK (S : CoS) (id : Int) : Bs := match yec' id S with | some x => entB id x | none => []
def yxm' (S : CoS) : Bs := yah' S.length ++ (ycp' S).flatMap (entK S)
end Go.Proofs.YtcnkifbjlihaoaaGreatDoor
namespace Go.Proofs.YtcnkifbjlihaoaaGreatDoor
open Go.RowKit Go.Av
section
variable {w0 w : World} {c : Nat} {S : CoS} {R : List Thing} {rows : List (Value × Bs)}
theorem Co.side {A : List Thing} (h : Co w0 w c S (A ++ R) rows) : ∃ X, Sep w0 w (A ++ X) rows ∧ ∀ (w' : World) (A' : List Thing), Sep w0 w' (A' ++ X) rows → Co w0 w' c S (A' ++ R) rows := by
 obtain ⟨m, gs, h1, h2, hS⟩ := h
 have e : ∀ B : List Thing, (B ++ (ycg' c m (gs.map EntG.kv) ++ (gs.flatMap EntG.th ++ R))).Perm (ycg' c m (gs.map EntG.kv) ++ (gs.flatMap EntG.th ++ (B ++ R))) := fun B => by
  refine (List.perm_append_comm_assoc _ _ _).trans (List.Perm.append_left _ ?_)
  exact List.perm_append_comm_assoc _ _ _
 exact ⟨_, hS.perm (e A).symm, fun w' A' hS' => ⟨m, gs, h1, h2, hS'.perm (e A')⟩⟩
theorem ytc' {v : Value} {l : Bs} (h : Sep w0 w (yaf' 1 v (l.map bv) :: R) rows) (x : Int) (hl : l.length ≤ 1073741824) :
  Calls Tryz.prog 119 #[v, .int .i64 x] w fun e w' => ∃ v', e = .returned v' ∧ Sep w0 w' (yaf' 1 v' ((l ++ yah' x).map bv) :: R) rows := by
 obtain ⟨E, hE⟩ := h.readRow
 refine (yfs' v l E x w hE hl).mono ?_
 rintro e w' ⟨v', D, rfl, ho, hu⟩
 exact ⟨v', rfl, (h.drop).addRow ho hu⟩
theorem yzc' {v u : Value} {l : Bs} {xs : List Int} (h : Sep w0 w (yaf' 1 v (l.map bv) :: R) rows) (hu : yaf' 1 u (xs.map iv) ∈ R) (hl : l.length ≤ 1000000) (hx : xs.length ≤ 1000) :
  Calls Tryz.prog 135 #[v, u] w fun e w' => ∃ v', e = .returned v' ∧ Sep w0 w' (yaf' 1 v' ((l ++ yjr' xs).map bv) :: R) rows := by
 obtain ⟨E, hE⟩ := h.readRow
 obtain ⟨F, hF⟩ := h.has (T := yaf' 1 u (xs.map iv)) (by simp [hu])
 obtain ⟨F', hF', -⟩ := OwnRow.read hF
 refine (yoe' v u l xs E F' w hE hF' hl hx).mono ?_
 rintro e w' ⟨v', D, rfl, ho, hu⟩
 exact ⟨v', rfl, (h.drop).addRow ho hu⟩
theorem Co.packC {v : Value} {l : Bs} (h : Co w0 w c S (yaf' 1 v (l.map bv) :: R) rows) (x : Int) (hl : l.length ≤ 1073741824) :
  Calls Tryz.prog 119 #[v, .int .i64 x] w fun e w' => ∃ v', e = .returned v' ∧ Co w0 w' c S (yaf' 1 v' ((l ++ yah' x).map bv) :: R) rows := by
 obtain ⟨X, hS, hb⟩ := Co.side (A := [_]) h
 refine (ytc' hS x hl).mono ?_
 rintro e w' ⟨v', rfl, h'⟩
 exact ⟨v', rfl, hb _ [_] h'⟩
end
section
variable {w0 w : World} {c m : Nat} {S : CoS} {l1 l2 : List EntG} {g : EntG} {R : List Thing} {T : Thing} {rows : List (Value × Bs)}
theorem CoF.side {A : List Thing} (h : CoF w0 w c m l1 g l2 (A ++ R) rows) : ∃ X, Sep w0 w (A ++ (g.th ++ X)) rows ∧ ∀ (w' : World) (A' : List Thing), Sep w0 w' (A' ++ (g.th ++ X)) rows → CoF w0 w' c m l1 g l2 (A' ++ R) rows := by
 obtain ⟨h1, hS⟩ := h
 have e : ∀ B : List Thing, (B ++ (g.th ++ (ycg' c m ((l1 ++ g :: l2).map EntG.kv) ++ ((l1 ++ l2).flatMap EntG.th ++ R)))).Perm (g.th ++ (ycg' c m ((l1 ++ g :: l2).map EntG.kv) ++ ((l1 ++ l2).flatMap EntG.th ++ (B ++ R)))) := fun B => by
  refine (List.perm_append_comm_assoc _ _ _).trans (List.Perm.append_left _ ?_)
  refine (List.perm_append_comm_assoc _ _ _).trans (List.Perm.append_left _ ?_)
  exact List.perm_append_comm_assoc _ _ _
 exact ⟨_, hS.perm (e A).symm, fun w' A' hS' => ⟨h1, hS'.perm (e A')⟩⟩
theorem CoF.packC {v : Value} {l : Bs} (h : CoF w0 w c m l1 g l2 (yaf' 1 v (l.map bv) :: R) rows) (x : Int) (hl : l.length ≤ 1073741824) :
  Calls Tryz.prog 119 #[v, .int .i64 x] w fun e w' => ∃ v', e = .returned v' ∧ CoF w0 w' c m l1 g l2 (yaf' 1 v' ((l ++ yah' x).map bv) :: R) rows := by
 obtain ⟨X, hS, hb⟩ := CoF.side (A := [_]) h
 refine (ytc' hS x hl).mono ?_
 rintro e w' ⟨v', rfl, h'⟩
 exact ⟨v', rfl, hb _ [_] h'⟩
theorem CoF.numsC {v u : Value} {l : Bs} {xs : List Int} (h : CoF w0 w c m l1 g l2 (yaf' 1 v (l.map bv) :: R) rows) (hu : yaf' 1 u (xs.map iv) ∈ g.th) (hl : l.length ≤ 1000000) (hx : xs.length ≤ 1000) :
  Calls Tryz.prog 135 #[v, u] w fun e w' => ∃ v', e = .returned v' ∧ CoF w0 w' c m l1 g l2 (yaf' 1 v' ((l ++ yjr' xs).map bv) :: R) rows := by
 obtain ⟨X, hS, hb⟩ := CoF.side (A := [_]) h
 refine (yzc' hS (by simp [hu]) hl hx).mono ?_
 rintro e w' ⟨v', rfl, h'⟩
 exact ⟨v', rfl, hb _ [_] h'⟩
theorem CoF.row {v : Value} {xs : List Value} (h : CoF w0 w c m l1 g l2 R rows) (hv : yaf' 1 v xs ∈ g.th) : ∃ a n cp, v = .slice a n cp ∧ xs.length = n ∧ n ≤ cp ∧ cp ≤ maxLen ∧ ∀ {i : Nat} {x : Value}, xs[i]? = some x → ∃ y : Addr, a = some y ∧ y.spot = none ∧ w.cell? (y.add i) = some x := by
 obtain ⟨D, hD⟩ := h.2.has (T := yaf' 1 v xs) (by simp [hv])
 obtain ⟨a, n, cp, rfl, hl, hn, hm, -⟩ := id hD
 exact ⟨a, n, cp, rfl, by omega, hn, hm, fun hx => yof' hD hx⟩
theorem CoF.permR (h : CoF w0 w c m l1 g l2 R rows) {R' : List Thing} (hp : R.Perm R') : CoF w0 w c m l1 g l2 R' rows := by
 obtain ⟨h1, hS⟩ := h
 exact ⟨h1, hS.perm (List.Perm.append_left _ (List.Perm.append_left _ (List.Perm.append_left _ hp)))⟩
end
end Go.Proofs.YtcnkifbjlihaoaaGreatDoor
namespace Go.Proofs.YtcnkifbjlihaoaaGreatDoor
open Go.RowKit Go.Av
theorem yvj' (id : Int) (x : EntS) (h : x.wf) : (entB id x).length ≤ 128 := by
 obtain ⟨h1, h2, h3⟩ := h
 unfold entB yjr'
 simp only [List.length_append, yar', ydl']
 omega
section
variable {w0 w : World} {c m : Nat} {S : CoS} {l1 l2 : List EntG} {g : EntG} {R : List Thing} {T : Thing} {rows : List (Value × Bs)}
theorem Co.wf (h : Co w0 w c S R rows) : ∀ e ∈ S, okE e := by
 obtain ⟨m, gs, h1, h2, hS⟩ := h
 exact h2
theorem yvk' (h : ∀ e ∈ S, okE e) (ks : List Int) : (ks.flatMap (entK S)).length ≤ 128 * ks.length := by
 induction ks with
 | nil => simp
 | cons k ks ih =>
  have : (entK S k).length ≤ 128 := by
   unfold entK
   cases hl : yec' k S with
   | none => simp
   | some x => exact yvj' _ _ (h _ (ybm' hl)).1
  rw [List.flatMap_cons, List.length_append, List.length_cons]
  omega
theorem Co.len (h : Co w0 w c S R rows) : ∃ m, w.cell? ⟨c, 0, none⟩ = some (.map (some m)) ∧ ∀ ty, (Builtin.len_ #[214] ty #[.map (some m)]).run Tryz.prog w = .ok (.int .i64 S.length) w := by
 obtain ⟨m, gs, rfl, hwf, hS⟩ := h
 have hc := hS.block (b := c) (o := .cells #[.map (some m)] 216 (0, 0)) (by simp [ycg'])
 obtain ⟨E, hM, -⟩ := hS.has (T := yam' (.int .i64) m (gs.map EntG.kv)) (by simp [ycg'])
 refine ⟨m, yaa' hc 0 rfl, fun ty => ?_⟩
 have := ys2' (P := Tryz.prog) hM Tryz.underlying214 ty
 simpa using this
theorem Co.nilR (h : Co w0 w c S R rows) : Co w0 w c S (yaf' 1 (.slice none 0 0) (([] : Bs).map bv) :: R) rows := h.addR (D' := []) (Upd.refl w []) (OwnRow.nil _ _)
theorem CoF.drew (h : CoF w0 w c m l1 g l2 R rows) : CoF w0 w.drew c m l1 g l2 R rows := ⟨h.1, h.2.drew⟩
theorem ysd' (S : CoS) (ks : List Int) (p : Nat) (hp : p < ks.length) (b : Bs) : b ++ (ks.take (p + 1)).flatMap (entK S) = (b ++ (ks.take p).flatMap (entK S)) ++ entK S ks[p] := by
 rw [List.take_succ_eq_append_getElem hp, List.flatMap_append]
 simp
theorem yrf' (l : List Int) (p : Nat) (hp : p < l.length) (b : Bs) : (b ++ (l.take p).flatMap yah') ++ yah' l[p] = b ++ (l.take (p + 1)).flatMap yah' := by
 rw [List.take_succ_eq_append_getElem hp, List.flatMap_append]
 simp
set_option maxRecDepth 100000 in
set_option maxHeartbeats 4000000 in
theorem ylm' (h : Co w0 w c S R rows) (hn : S.length ≤ 1000) :
  Calls Tryz.prog 55 #[.pointer (some ⟨c, 0, none⟩)] w fun e w' => ∃ v, e = .returned v ∧ Co w0 w' c S (yaf' 1 v ((yxm' S).map bv) :: R) rows := by
 obtain ⟨m, hc, hln⟩ := h.len
 have hwf := h.wf
 have hkl : (ycp' S).length = S.length := yvw' S
 have HP := Lib.hid (h.nilR.packC S.length (by simp))
 have HW := Lib.hid hwf
 clear h hwf
 go_enter Tryz.func55, Tryz.ntmps55
 go_wp2_with fail
 refine HP.out.mono ?_
 rintro e w1 ⟨v1, rfl, h1⟩
 rw [List.nil_append] at h1
 clear hc hln
 obtain ⟨m, hc, hK, hSo⟩ := yyp' h1 (by omega)
 have HK := Lib.hid hK
 have HS := Lib.hid hSo
 clear h1 hK hSo HP
 go_wp2_with fail
 refine HK.out.mono ?_
 rintro e w1 ⟨rfl, rfl⟩
 go_wp2_with fail
 refine HS.out.mono ?_
 rintro e w2 ⟨v, rfl, h⟩
 obtain ⟨D, ho, -⟩ := h.row
 obtain ⟨ak, nk, ck, rfl, hlk, hnk, hck, -⟩ := _root_.id ho
 rw [List.length_map, Nat.mul_one] at hlk
 subst hlk
 unfold maxLen at hck
 have HC := Lib.hid (h.permR (List.Perm.swap _ _ _))
 clear h ho HK HS hc
 go_wp2_with fail
 go_loopg [3, 22] (ycp' S).length (fun k vb vi wr => ∃ p : Nat, p ≤ (ycp' S).length ∧ k = (ycp' S).length - p ∧ vi = .int .i64 (p : Int) ∧ Co w0 wr c S (yaf' 1 vb ((yah' S.length ++ ((ycp' S).take p).flatMap (entK S)).map bv) :: yaf' 1 (.slice ak (ycp' S).length ck) ((ycp' S).map iv) :: R) rows)
 case atStart => exact ⟨0, Nat.zero_le _, rfl, rfl, by simpa using HC.out⟩
 case round =>
  obtain ⟨p, hp, hk, hv, hC⟩ := hrel
  subst hv
  clear HC
  by_cases hlt : p < (ycp' S).length
  case neg =>
   obtain rfl : p = (ycp' S).length := by omega
   rw [List.take_length] at hC
   have HC2 := Lib.hid hC
   clear hC
   go_wp2_with fail
   go_ret
   exact ⟨_, rfl, (HC2.out.permR (List.Perm.swap _ _ _)).dropR⟩
  have hkp : (ycp' S)[p] ∈ ycp' S := List.getElem_mem hlt
  obtain ⟨x, hx⟩ := ysp' hkp
  obtain ⟨D2, ho2, -⟩ := (hC.permR (List.Perm.swap _ _ _)).row
  obtain ⟨y, rfl, hys, hcy⟩ := yof' ho2 (i := p) (x := iv (ycp' S)[p]) (by rw [List.getElem?_map, List.getElem?_eq_getElem hlt]; rfl)
  obtain ⟨m2, l1, g, l2, hgid, hgx, hF, -, hSS⟩ := hC.take hx
  have hfl := ysd' S (ycp' S) p hlt (yah' S.length)
  have hbd : ((yah' S.length ++ ((ycp' S).take p).flatMap (entK S))).length ≤ 130000 := by
   have := yvk' HW.out ((ycp' S).take p)
   rw [List.length_append, yar']
   rw [List.length_take] at this
   omega
  obtain ⟨idv, hidv⟩ : ∃ idv, (ycp' S)[p] = idv := ⟨_, rfl⟩
  rw [hidv] at hcy hx hgid hfl
  unfold iv at hcy
  have hK : entK S idv = entB idv g.x := by unfold entK; rw [hx, hgx]
  rw [hK] at hfl
  obtain ⟨pre, hpre⟩ : ∃ pre, yah' S.length ++ ((ycp' S).take p).flatMap (entK S) = pre := ⟨_, rfl⟩
  rw [hpre] at hF hfl hbd
  have HFL := Lib.hid (show _ ∧ _ ∧ _ from ⟨hfl, hbd, hSS⟩)
  obtain ⟨hc2, hlk2, hp2⟩ := hF.facts
  rw [hgid] at hlk2
  have hlk3 := hlk2 wr rfl
  have c0 := yaa' hp2 0 rfl
  obtain ⟨s, hs⟩ : ∃ s, s = g.vs := ⟨_, rfl⟩
  rw [show (#[g.vs, g.vv, Value.int .i64 g.x.dec, g.vo] : Array Value)[0] = s from hs.symm] at c0
  have HG := Lib.hid (show _ ∧ _ from ⟨hgid, hs⟩)
  have HF := Lib.hid hF
  clear hkp hx ho2 hidv hK hfl hpre hSS hF hp2 hC hbd hs hgx hgid hlk2
  go_wp2_with fail
  refine yao' (fun W => W.cell? ⟨g.p, 0, none⟩ = some s) 8 (by kernel_rfl) ?_
  refine rT [(0, false), (1, false), (3, false), (4, false), (5, false), (6, true)] 3 ?_
  apply Exists.intro; refine ⟨?_, c0, ?_⟩
  ·iterate 6 ((first | (apply yca'; (· (simp only [k_i, k_j, k_k]; try rfl)); (· rfl)) | ((first | apply yax' | apply yas'); (· (simp only [k_i, k_j, k_k]; try rfl)); (· rfl); (· (intros; go_simp; try with_reducible rfl)))); (· (simp only [Act.put, k_a, k_b, k_c]; try rfl)))
   exact rfl
  refine ya0' (fuel := 2) (i := 2) (by kernel_rfl) (by rfl) (fun K hK => ?_)
  go_wp2_with fail
  refine (HF.out.drew.packC idv (by have := HFL.out.2.1; omega)).mono ?_
  rintro e w3 ⟨v3, rfl, h3⟩
  have k3 := (yaa' h3.facts.2.2 0 rfl).trans (congrArg some HG.out.2.symm)
  have HF3 := Lib.hid h3
  clear h3 c0 HF hlk3 hc2
  go_wp2_with fail
  refine hK _ _ k3 ?_
  clear hK
  refine ya0' (fuel := 1) (i := 7) (by kernel_rfl) (by rfl) (fun K hK => ?_)
  go_wp2_with fail
  refine (HF3.out.numsC (u := s) (xs := g.x.shards) (by rw [HG.out.2]; simp [EntG.th]) (by have := HFL.out.2.1; rw [List.length_append, yar']; omega) (by have := HF3.out.wf.2.1; omega)).mono ?_
  rintro e w4 ⟨v4, rfl, h4⟩
  have k4 := (yaa' h4.facts.2.2 0 rfl).trans (congrArg some HG.out.2.symm)
  have c1 := yaa' h4.facts.2.2 1 rfl
  obtain ⟨av, nv, cv, hvv, hlv, hnv, hmv, -⟩ := h4.row (v := g.vv) (xs := g.x.votes.map iv) (by simp [EntG.th])
  rw [show (#[g.vs, g.vv, Value.int .i64 g.x.dec, g.vo] : Array Value)[1] = .slice av nv cv from hvv] at c1
  rw [List.length_map] at hlv
  subst hlv
  unfold maxLen at hmv
  have HF4 := Lib.hid h4
  have HVV := Lib.hid hvv
  clear h4 k3 HF3 hvv
  go_wp2_with fail
  refine hK _ _ k4 ?_
  clear hK
  refine rL [8] 0 ?_
  simp only [List.filterMap_cons, List.filterMap_nil, k_i, k_j, k_k]
  go_wp2_with fail
  obtain ⟨pre2, hpre2⟩ : ∃ z, z = pre ++ yah' idv ++ yjr' g.x.shards := ⟨_, rfl⟩
  rw [← hpre2] at HF4
  have HP2 := Lib.hid hpre2
  clear hpre2 c1 k4
  go_loopg [3, 45] g.x.votes.length (fun k vb vi wr => ∃ p : Nat, p ≤ g.x.votes.length ∧ k = g.x.votes.length - p ∧ vi = .int .i64 (p : Int) ∧ CoF w0 wr c m2 l1 g l2 (yaf' 1 vb ((pre2 ++ (g.x.votes.take p).flatMap yah').map bv) :: yaf' 1 (.slice (some y) (ycp' S).length ck) ((ycp' S).map iv) :: R) rows)
  case atStart => exact ⟨0, Nat.zero_le _, rfl, rfl, by simpa using HF4.out⟩
  case round =>
   clear HF4
   obtain ⟨j, hj, hk2, hv2, hC2⟩ := hrel
   subst hv2
   by_cases hlt2 : j < g.x.votes.length
   case pos =>
    obtain ⟨a', n', c', hv', -, -, -, hcl⟩ := hC2.row (v := g.vv) (xs := g.x.votes.map iv) (by simp [EntG.th])
    have hv' := HVV.out.symm.trans hv'
    cases hv'
    obtain ⟨y2, rfl, hys2, hcy2⟩ := hcl (i := j) (x := iv g.x.votes[j]) (by rw [List.getElem?_map, List.getElem?_eq_getElem hlt2]; rfl)
    have hst := yrf' g.x.votes j hlt2 pre2
    obtain ⟨z, hz⟩ : ∃ z, g.x.votes[j] = z := ⟨_, rfl⟩
    rw [hz] at hcy2 hst
    unfold iv at hcy2
    have hvl : g.x.votes.length ≤ 4 := by have := hC2.wf; have h1 := this.1; have h2 := this.2.1; omega
    have hpk := hC2.packC z (by
     have h1 := HFL.out.2.1
     have h2 := congrArg List.length HP2.out
     have h3 : g.x.shards.length ≤ 4 := hC2.wf.2.1
     unfold yjr' at h2
     simp only [List.length_append, yar', ydl', List.length_take] at h2 ⊢
     omega)
    rw [hst] at hpk
    have HPK := Lib.hid hpk
    clear hst hz hC2 hpk hcl
    go_wp2_with fail
    refine HPK.out.mono ?_
    rintro e w5 ⟨v5, rfl, h5⟩
    have HF5 := Lib.hid h5
    clear h5 HPK
    go_wp2_with fail
    go_roundg (g.x.votes.length - (j + 1))
    case rel => exact ⟨j + 1, by omega, rfl, by go_num, HF5.out⟩
    case measure => omega
   obtain rfl : j = g.x.votes.length := by omega
   rw [List.take_length] at hC2
   have c2 := yaa' hC2.facts.2.2 2 rfl
   have c3 := yaa' hC2.facts.2.2 3 rfl
   obtain ⟨dc, hdc⟩ : ∃ dc, dc = g.x.dec := ⟨_, rfl⟩
   obtain ⟨o, ho⟩ : ∃ o, o = g.vo := ⟨_, rfl⟩
   rw [show (#[g.vs, g.vv, Value.int .i64 g.x.dec, g.vo] : Array Value)[2] = .int .i64 dc by rw [hdc]; rfl] at c2
   rw [show (#[g.vs, g.vv, Value.int .i64 g.x.dec, g.vo] : Array Value)[3] = o from ho.symm] at c3
   have HF6 := Lib.hid hC2
   have HD := Lib.hid (show _ ∧ _ from ⟨hdc, ho⟩)
   clear hC2 hdc ho
   go_wp2_with fail
   refine yao' (fun W => W.cell? ⟨g.p, 2, none⟩ = some (.int .i64 dc) ∧ W.cell? ⟨g.p, 3, none⟩ = some o) 11 (by kernel_rfl) ?_
   refine rT [(0, false), (1, false), (2, false), (3, false), (4, true), (6, false), (7, false), (8, false), (9, true)] 3 ?_
   apply Exists.intro; refine ⟨?_, ⟨c2, c3⟩, ?_⟩
   ·iterate 9 ((first | (apply yca'; (· (simp only [k_i, k_j, k_k]; try rfl)); (· rfl)) | ((first | apply yax' | apply yas'); (· (simp only [k_i, k_j, k_k]; try rfl)); (· rfl); (· (intros; go_simp; try with_reducible rfl)))); (· (simp only [Act.put, k_a, k_b, k_c]; try rfl)))
    exact rfl
   refine ya0' (fuel := 2) (i := 5) (by kernel_rfl) (by rfl) (fun K hK => ?_)
   go_wp2_with fail
   have hb2 : (pre2 ++ g.x.votes.flatMap yah').length ≤ 140000 := by
    have h1 := HFL.out.2.1
    have h2 := congrArg List.length HP2.out
    have h3 : g.x.shards.length ≤ 4 := HF6.out.wf.2.1
    have h4 := HF6.out.wf.1
    unfold yjr' at h2
    simp only [List.length_append, yar', ydl'] at h2 ⊢
    omega
   have HB2 := Lib.hid hb2
   clear hb2
   refine (HF6.out.drew.packC dc (by have := HB2.out; omega)).mono ?_
   rintro e w7 ⟨v7, rfl, h7⟩
   have k7 : w7.cell? ⟨g.p, 2, none⟩ = some (.int .i64 dc) ∧ w7.cell? ⟨g.p, 3, none⟩ = some o :=
    ⟨(yaa' h7.facts.2.2 2 rfl).trans (by rw [HD.out.1]; rfl), (yaa' h7.facts.2.2 3 rfl).trans (congrArg some HD.out.2.symm)⟩
   have HF7 := Lib.hid h7
   clear h7 c2 c3 HF6
   go_wp2_with fail
   refine hK _ _ k7 ?_
   clear hK
   refine ya0' (fuel := 1) (i := 10) (by kernel_rfl) (by rfl) (fun K hK => ?_)
   go_wp2_with fail
   refine (HF7.out.numsC (u := o) (xs := g.x.owes) (by rw [HD.out.2]; simp [EntG.th]) (by have := HB2.out; rw [List.length_append, yar']; omega) (by have := HF7.out.wf.2.2; omega)).mono ?_
   rintro e w8 ⟨v8, rfl, h8⟩
   have k8 : w8.cell? ⟨g.p, 2, none⟩ = some (.int .i64 dc) ∧ w8.cell? ⟨g.p, 3, none⟩ = some o :=
    ⟨(yaa' h8.facts.2.2 2 rfl).trans (by rw [HD.out.1]; rfl), (yaa' h8.facts.2.2 3 rfl).trans (congrArg some HD.out.2.symm)⟩
   have HF8 := Lib.hid h8.back
   clear h8 k7 HF7
   go_wp2_with fail
   refine hK _ _ k8 ?_
   clear hK
   refine rL [11] 0 ?_
   simp only [List.filterMap_cons, List.filterMap_nil, k_i, k_j, k_k]
   go_wp2_with fail
   go_roundg ((ycp' S).length - (p + 1))
   case rel =>
    refine ⟨p + 1, by omega, rfl, by go_num, ?_⟩
    have h8 := HF8.out
    rw [← HFL.out.2.2] at h8
    rw [HFL.out.1]
    have e : pre2 ++ g.x.votes.flatMap yah' ++ yah' dc ++ yjr' g.x.owes = pre ++ entB idv g.x := by
     rw [HP2.out, HD.out.1]
     unfold entB
     simp only [List.append_assoc]
    rw [e] at h8
    exact h8
   case measure => omega
end
end Go.Proofs.YtcnkifbjlihaoaaGreatDoor

namespace Go.Proofs.YtcnkifbjlihaoaaGreatDoor
open Go.RowKit Go.Av
section
variable {w0 w : World} {b t : Nat} {S : TreeS} {P P' : List PRow} {R : List Thing} {rows : List (Value × Bs)}
def yya' (w0 : World) (t : Nat) (S : TreeS) (P : List PRow) (R : List Thing) (rows : List (Value × Bs)) (e : Ending) (w' : World) : Prop :=
 ∃ b P', e = .returned (.pointer (some ⟨b, 0, none⟩)) ∧ (∀ r ∈ P, r ∈ P') ∧ Sep w0 w' (yab' w0 P' :: yaj' t S P' :: ThRt b S P' :: R) rows
def yxg' (w0 : World) (t b : Nat) (S : TreeS) (P : List PRow) (R : List Thing) (rows : List (Value × Bs)) (k : Nat) (v7 : Value) (w : World) : Prop :=
 ∃ (i : Nat) (P' : List PRow) (xs : List Value) (a : Option Addr) (n c : Nat), i + k = S.l.length ∧ v7 = .int .i64 (i : Int) ∧ (∀ q ∈ P, q ∈ P') ∧ EntL P' (S.l.take i) xs ∧
  Sep w0 w (yac' b (.cells #[.int .i64 S.room, .slice a n c] 126 (0, 0)) :: yaf' 11 (.slice a n c) xs :: yab' w0 P' :: yaj' t S P' :: R) rows
set_option maxRecDepth 100000 in
set_option maxHeartbeats 4000000 in
theorem ypq' (h : Sep w0 w (yab' w0 P :: yaj' t S P :: R) rows) (room : Int) (hr : room = S.room) (hB : ∀ e ∈ S.l, NodeOk e.2) (hn : S.l.length ≤ 1000) (hk : ∀ e ∈ S.l, e.1.length ≤ 100000) :
  Calls Tryz.prog 53 #[.pointer (some ⟨t, 0, none⟩), .int .i64 room] w (yya' w0 t S P R rows) := by
 subst hr
 have HB := Lib.hid hB
 have HN := Lib.hid hn
 have HK := Lib.hid hk
 have HX := Lib.hid h
 clear hB hn hk h
 go_enter Tryz.func53, Tryz.ntmps53
 go_wp2_with (first | refine v1 ?_ | (refine vS ?_; clear HX; intro w HX) | (refine vA ?_; clear HX; (first | (have hq := b2; clear hq; intro w b3 HX) | (have hq := b; clear hq; intro w b2 HX) | intro w b HX)) | (refine vP ?_; clear HX; intro w av nv cv HX))
 refine (ym0' HX.out.up2.up2 (by have := HN.out; omega) HK.out).mono ?_
 rintro e w ⟨v, P', rfl, hP', hv, hS⟩
 obtain ⟨E, hE⟩ := hS.poolGet hv
 obtain ⟨a0, n0, c0, rfl, hl0, hn0, hc0, hne⟩ := ReadRow.some hE
 rw [List.length_map, List.length_map, Nat.mul_one] at hl0
 subst hl0
 replace HX := Lib.hid hS
 have HNE := Lib.hid hne
 have HV := Lib.hid hv
 have HPP := Lib.hid hP'
 clear hS hE hne hv hP' hn0 hc0
 go_wp2_with (first | refine v1 ?_ | (refine vS ?_; clear HX; intro w HX) | (refine vA ?_; clear HX; (first | (have hq := b2; clear hq; intro w b3 HX) | (have hq := b; clear hq; intro w b2 HX) | intro w b HX)) | (refine vP ?_; clear HX; intro w av nv cv HX))
 have HST := Lib.hid (show yxg' w0 t b S P' R rows S.l.length (.int .i64 (0 : Int)) w from ⟨0, P', [], none, 0, 0, by omega, rfl, fun _ h => h, .nil, (HX.out.up2.nilRow 11).up1⟩)
 clear HX
 go_loopg [7] S.l.length (fun k v7 wr => yxg' w0 t b S P' R rows k v7 wr)
 case atStart => exact HST.out
 case round =>
  rename World => w
  obtain ⟨i, P2, xs, a, n, c, hik, rfl, hP2, hel, hS⟩ := hrel
  have HP2 := Lib.hid hP2
  have HEL := Lib.hid hel
  have HX := Lib.hid hS
  clear hS hP2 hel
  by_cases hlt : i < S.l.length
  case neg =>
   obtain rfl : i = S.l.length := by omega
   clear hlt hik
   go_wp2_with (first | refine v1 ?_ | (refine vS ?_; clear HX; intro w HX) | (refine vA ?_; clear HX; (first | (have hq := b2; clear hq; intro w b3 HX) | (have hq := b; clear hq; intro w b2 HX) | intro w b HX)) | (refine vP ?_; clear HX; intro w av nv cv HX))
   go_ret
   have h1 := HEL.out
   rw [List.take_length] at h1
   exact ⟨b, P2, rfl, fun q hq => HP2.out q (HPP.out q hq), (yop' HX.out h1).up2.up2⟩
  case pos =>
   have hmem : S.l[i] ∈ S.l := List.getElem_mem hlt
   have hlook : yal' S.l[i].1 S.l = some S.l[i].2 := (Go.Av.ybm' (yc8' HX.out.up3)).2 hmem
   obtain ⟨g, off, rfl⟩ := HNE.out (by intro e; rw [List.map_map, List.map_eq_nil_iff] at e; rw [e] at hlt; simp at hlt)
   have HT := Lib.hid (show S.l.take (i + 1) = S.l.take i ++ [S.l[i]] from List.take_succ_eq_append_getElem hlt)
   have hxx : ((S.l.map (·.1)).map sv)[i]? = some (sv S.l[i].1) := by simp [hlt]
   have hok := HB.out _ hmem
   obtain ⟨⟨p, nd⟩, hen⟩ : ∃ en, S.l[i] = en := ⟨_, rfl⟩
   rw [hen] at HT hlook hxx hok
   dsimp only at hlook hxx hok
   obtain ⟨ps, hps⟩ : ∃ ps : ByteArray, ps = ⟨p.toArray⟩ := ⟨_, rfl⟩
   have hpv : sv p = .string ps := by rw [hps]; rfl
   have hpl : ps.data.toList = p := by rw [hps]
   rw [hpv] at hxx
   rw [← hpl] at hlook
   have HXX := Lib.hid hxx
   have HLK := Lib.hid hlook
   have HPV := Lib.hid hpv
   have q0 : decide (i < S.l.length) = true := decide_eq_true hlt
   have q9 : i ≤ 1000 := by have := HN.out; omega
   obtain ⟨E, hE⟩ := HX.out.up2.poolGet (HP2.out _ HV.out)
   have hl := ybz' (P := Tryz.prog) (ty := 9) (i := i) hE (by kernel_rfl) hxx
   clear hmem hlook hxx hen hps hpv hpl hE
   go_wp2_with (first | refine v1 ?_ | (refine vS ?_; clear HX; intro w HX) | (refine vA ?_; clear HX; (first | (have hq := b2; clear hq; intro w b3 HX) | (have hq := b; clear hq; intro w b2 HX) | intro w b HX)) | (refine vP ?_; clear HX; intro w av nv cv HX) | ((with_reducible apply yau' hl); (· rfl); (· rfl); simp only [Act.put, k_a, k_b, k_c]))
   refine (yls' HX.out.up3.up3 ps nd HLK.out hok).mono ?_
   rintro e w ⟨nv, P3, rfl, hP3, hnv, hS⟩
   obtain ⟨E, hE⟩ := hS.poolGet hnv
   obtain ⟨na, nn, nc, rfl, -⟩ := id hE
   clear HX hl
   have HX := Lib.hid hS
   have HNV := Lib.hid hnv
   have HP3 := Lib.hid hP3
   clear hS hnv hP3 hE
   simp only [NodeS.val, NodeS.cells]
   go_upto_region 7 with (first | refine v1 ?_ | (refine vS ?_; clear HX; intro w HX) | (refine vA ?_; clear HX; (first | (have hq := b2; clear hq; intro w b3 HX) | (have hq := b; clear hq; intro w b2 HX) | intro w b HX)) | (refine vP ?_; clear HX; intro w av nv cv HX))
   refine rM (fun W => Sep w0 W [yf2' b2 nd (.slice na nn nc), yac' b (.cells #[.int .i64 S.room, .slice a n c] 126 (0, 0)), yab' w0 P3] rows) 14 ?_
   intro KEEPX
   replace HX := Lib.hid HX.out.drew
   have hl : ∀ W, Sep w0 W [yf2' b2 nd (.slice na nn nc), yac' b (.cells #[.int .i64 S.room, .slice a n c] 126 (0, 0)), yab' w0 P3] rows → (Instr.loadAt 9 (.pointer (some ⟨g, off + i, none⟩))).run Tryz.prog W = .ok (.string ps) W := fun W hW => by
    obtain ⟨E, hE⟩ := (Sep.up2 hW).poolGet (HP3.out _ (HP2.out _ HV.out))
    exact ybz' hE (by kernel_rfl) HXX.out
   have HSUB := Lib.hid (show ∀ W A, Sep w0 W (yf2' b2 nd (.slice na nn nc) :: yab' w0 P3 :: yaj' t S P3 :: yac' b (.cells #[.int .i64 S.room, .slice a n c] 126 (0, 0)) :: A) rows → Sep w0 W [yf2' b2 nd (.slice na nn nc), yac' b (.cells #[.int .i64 S.room, .slice a n c] 126 (0, 0)), yab' w0 P3] rows from fun W A h => (h.take (A := [_, _, _, _])).pm 4 [0, 3, 1] rfl rfl)
   refine rT [(0, false), (1, false), (2, false), (3, false), (4, true), (5, false), (6, false), (7, false), (8, true), (9, true)] 7 ?_
   apply Exists.intro; refine ⟨?_, (HSUB.out _ _ HX.out), ?_⟩
   ·iterate 10 (refine yE ?_)
    exact rfl
   clear hl
   refine r1 6 10 fun K hK => ?_
   go_wp2_with fail
   refine (y0l' HX.out nd _ _ _).mono ?_
   rintro e w ⟨rfl, hx⟩
   replace HX := Lib.hid hx
   clear hx
   simp only [NodeS.val, NodeS.cells]
   go_wp2_with fail
   refine hK _ _ (HSUB.out _ _ HX.out) ?_
   clear hK
   refine rT [(11, false)] 5 ?_
   apply Exists.intro; refine ⟨?_, (HSUB.out _ _ HX.out), ?_⟩
   ·iterate 1 (refine yE ?_)
    exact rfl
   refine r1 4 12 fun K hK => ?_
   go_wp2_with (first | refine v1 ?_ | (refine vS ?_; clear HX; intro w HX) | (refine vA ?_; clear HX; (first | (have hq := b2; clear hq; intro w b3 HX) | (have hq := b; clear hq; intro w b2 HX) | intro w b HX)) | (refine vP ?_; clear HX; intro w av nv cv HX))
   refine hK _ _ (HSUB.out _ _ HX.out.drop) ?_
   clear hK
   have HBD := Lib.hid (show ∀ n, xs.length = n * 11 → n + 1 ≤ 140737488355328 ∧ (n + 1) * 120 ≤ 140737488355328 from fun n hn => by
    have h1 := HEL.out.len
    rw [List.length_take] at h1
    have := HN.out
    omega)
   refine r1 3 13 fun K hK => ?_
   go_wp2_with (first | refine v1 ?_ | (refine vS ?_; clear HX; intro w HX) | (refine vA ?_; clear HX; (first | (have hq := b2; clear hq; intro w b3 HX) | (have hq := b; clear hq; intro w b2 HX) | intro w b HX)) | (refine vP ?_; clear HX; intro w av nv cv HX))
   refine hK _ _ (HSUB.out _ _ HX.out.drop.drop) ?_
   clear hK
   refine rL [14, 15, 16] 0 ?_
   simp only [List.filterMap_cons, List.filterMap_nil, k_i, k_j, k_k]
   go_step
   go_step
   go_step
   go_step
   (with_reducible apply yji' HX)
   ·rfl
   ·((conv => lhs; whnf) <;> rfl)
   ·rfl
   ·rfl
   ·kernel_rfl
   ·(repeat (first | (with_reducible exact Rep.here) | (with_reducible apply Rep.there)))
   ·rfl
   ·rfl
   clear HX; intro w HX
   simp only [Act.put, k_a, k_b, k_c, NodeS.cells, OpS.cells, ResS.cells] at HX ⊢
   go_wp2_with (first | refine v1 ?_ | (refine vS ?_; clear HX; intro w HX) | (refine vA ?_; clear HX; (first | (have hq := b2; clear hq; intro w b3 HX) | (have hq := b; clear hq; intro w b2 HX) | intro w b HX)) | (refine vP ?_; clear HX; intro w av nv cv HX))
   go_roundg (S.l.length - (i + 1))
   case rel =>
    refine ⟨i + 1, P3, _, av, nv, cv, by omega, by go_num, fun q hq => HP3.out q (HP2.out q hq), by rw [HT.out]; exact (HEL.out.mono HP3.out).snoc HNV.out, ?_⟩
    rw [HPV.out]
    exact HX.out.pm 6 [5, 0, 3, 4] rfl rfl
   case measure => omega
end
end Go.Proofs.YtcnkifbjlihaoaaGreatDoor

namespace Go.Proofs.YtcnkifbjlihaoaaGreatDoor
open Go.RowKit Go.Av
section
variable {W : World}
def y0d' (W : World) (l : List CmdG) (rs : List PRow) (ba bb k : Nat) (v9 v10 : Value) (w : World) : Prop :=
 ∃ (i : Nat) (recs : List Bs) (vs : List Value) (S : ShardS) (P' : List PRow) (a : Option Addr) (n c : Nat), i + k = l.length ∧ v10 = .int .i64 (i : Int) ∧ v9 = .slice a n c ∧ recs.length = i ∧ same0 S (yf1' recs (yd0' 60)) ∧ ShB (2 * i) S ∧ S.p.t.room = 60 ∧ (∀ r ∈ recs, r.length ≤ 1000000) ∧
  RecL P' recs vs ∧ (∀ r ∈ rs, r ∈ P') ∧ Sep W w [yab' W P', yba' bb S P', yba' ba (yd0' 60) P', yaf' 1 (.slice a n c) vs] []
set_option maxRecDepth 100000 in
theorem ypm' {w0 w : World} {P : List PRow} {R : List Thing} {rows : List (Value × Bs)} {o : OutS} {v : Value} {xs : List Value} (h : Sep w0 w (yab' w0 P :: R) rows) (hol : OutL P [o] xs) (hm : (11, v, xs) ∈ P) :
  ∃ g off m a1 n1 c1 a2 n2 c2, v = .slice (some ⟨g, off, none⟩) 1 m ∧ OutIn P o (.slice a1 n1 c1) (.slice a2 n2 c2) ∧ ∀ V R' rows', Sep w0 V (yab' w0 P :: R') rows' → (Instr.loadAt 93 (.pointer (some ⟨g, off, none⟩))).run Tryz.prog V = .ok (.agg (outV o (.slice a1 n1 c1) (.slice a2 n2 c2))) V := by
 obtain ⟨v1, v2, hin, hat⟩ := hol.at (i := 0) (Nat.zero_lt_one)
 obtain ⟨a1, n1, c1, rfl⟩ := ybr' h hin.1
 obtain ⟨a2, n2, c2, rfl⟩ := ybr' h hin.2
 obtain ⟨E, hE⟩ := h.poolGet hm
 obtain ⟨a, n, c, rfl, hl, -, -, hne⟩ := ReadRow.some hE
 rw [hol.len] at hl
 obtain rfl : n = 1 := by have : [o].length = 1 := rfl; omega
 obtain ⟨g, off, rfl⟩ := hne (by intro e; have e : xs = [] := e; have := hol.len; rw [e] at this; cases this)
 refine ⟨g, off, c, a1, n1, c1, a2, n2, c2, rfl, hin, fun V R' rows' hV => ?_⟩
 obtain ⟨E', hE'⟩ := hV.poolGet hm
 exact yft' (P := Tryz.prog) (i := 0) (f := 0) hE' sn_x6 rfl (by simp [outV]) hat
theorem ShB.mono {K K' : Nat} {S : ShardS} (h : ShB K S) (hK : K ≤ K') : ShB K' S := ⟨h.p.mono hK, Nat.le_trans h.c hK, h.known, by have := h.played; omega⟩
set_option maxRecDepth 100000 in
set_option maxHeartbeats 16000000 in
theorem shardTwice_walk (a0 : Option Addr) (len0 cap0 : Nat) (l0 : List CmdG) (a1 : Option Addr) (len1 cap1 : Nat) (l1 : List Bool) (V : World) (hd : DoorN V) (h0 : IsCmds V a0 len0 cap0 l0) (h1 : IsBools V a1 len1 cap1 l1) :
  Calls Tryz.prog 8 #[.slice a0 len0 cap0, .slice a1 len1 cap1] V fun e w' => e = .returned (.bool true) ∧ Below V.heap.size V w' := by
 obtain ⟨e0, ⟨E0, r0⟩, hok⟩ := h0
 obtain ⟨e1, ⟨E1, r1⟩⟩ := h1
 subst e0
 subst e1
 have HR := Lib.hid (show _ ∧ _ ∧ _ from ⟨r0, r1, hok⟩)
 clear r0 r1 hok
 obtain ⟨z30, hz30⟩ : ∃ z, decide (30 < (l0.length : Int)) = z := ⟨_, rfl⟩
 have q1 : decide (30 < l0.length) = z30 := by rw [← hz30]; exact decide_eq_decide.2 (by omega)
 go_enter Tryz.func8, Tryz.ntmps8
 go_wp2_with fail
 refine (ynv' hd).mono ?_
 rintro e w ⟨rfl, hu⟩
 have hx := (((Sep.start V).keep hu).poolNew.poolNil 1 |>.poolNil 5 |>.poolOld HR.out.2.1 |>.poolOld HR.out.1)
 clear hu
 obtain ⟨rs, hrs⟩ : ∃ rs : List PRow, [(9, .slice a0 l0.length cap0, l0.flatMap CmdG.cells), (1, .slice a1 l1.length cap1, l1.map Value.bool), (5, .slice none 0 0, []), (1, .slice none 0 0, [])] = rs := ⟨_, rfl⟩
 have HRS := Lib.hid (show (9, Value.slice a0 l0.length cap0, l0.flatMap CmdG.cells) ∈ rs ∧ (1, Value.slice a1 l1.length cap1, l1.map Value.bool) ∈ rs by rw [← hrs]; simp)
 rw [hrs] at hx
 clear hrs
 have HX := Lib.hid hx
 clear hx
 cases z30 with
 | true =>
  go_wp2_with (first | refine u0 ?_ | (refine uS ?_; clear HX; intro w HX) | (refine uA ?_; clear HX; (first | (have hq := b; clear hq; intro w b2 HX) | intro w b HX)) | (refine uP ?_; clear HX; intro w av nv cv HX))
  go_ret
  exact ⟨rfl, HX.out.below⟩
 | false =>
  have H30 := Lib.hid (show l0.length ≤ 30 by have := of_decide_eq_false q1; omega)
  go_wp2_with (first | refine u0 ?_ | (refine uS ?_; clear HX; intro w HX) | (refine uA ?_; clear HX; (first | (have hq := b; clear hq; intro w b2 HX) | intro w b HX)) | (refine uP ?_; clear HX; intro w av nv cv HX))
  clear q1 hz30
  refine (yjd' HX.out 60 (by omega) (by omega)).mono ?_
  rintro e w ⟨ba, rfl, hx⟩
  replace HX := Lib.hid hx
  clear hx
  go_wp2_with (first | refine u0 ?_ | (refine uS ?_; clear HX; intro w HX) | (refine uA ?_; clear HX; (first | (have hq := b; clear hq; intro w b2 HX) | intro w b HX)) | (refine uP ?_; clear HX; intro w av nv cv HX))
  refine (yjd' HX.out 60 (by omega) (by omega)).mono ?_
  rintro e w ⟨bb, rfl, hx⟩
  replace HX := Lib.hid hx
  clear hx
  go_wp2_with (first | refine u0 ?_ | (refine uS ?_; clear HX; intro w HX) | (refine uA ?_; clear HX; (first | (have hq := b; clear hq; intro w b2 HX) | intro w b HX)) | (refine uP ?_; clear HX; intro w av nv cv HX))
  have HST := Lib.hid (show y0d' V l0 rs ba bb l0.length (.slice none 0 0) (.int .i64 (0 : Int)) w from ⟨0, [], [], yd0' 60, rs, none, 0, 0, by simp, rfl, rfl, rfl, ⟨rfl, rfl, rfl⟩, ylf' 60 (by omega), rfl, by simp, .nil, fun r hr => hr, (HX.out.nilRow 1).pm 4 [1, 2, 3, 0] rfl rfl⟩)
  clear HX
  go_loopg [9, 10, 11, 12, 13] l0.length (fun k v9 v10 _ _ _ wr => y0d' V l0 rs ba bb k v9 v10 wr)
  case atStart => exact HST.out
  case round =>
   rename World => w
   obtain ⟨i, recs, vs, S, P1, a, n, c, hik, rfl, rfl, hrl, hsm, hB, hroom, hrlen, hrecs, hP1, hS⟩ := hrel
   have HX := Lib.hid hS
   have HP := Lib.hid hP1
   have HC := Lib.hid (show _ ∧ _ ∧ _ ∧ _ ∧ _ ∧ _ from ⟨hrl, hsm, hB, hroom, hrlen, hrecs⟩)
   clear hS hP1 HST hrl hsm hB hroom hrlen hrecs
   by_cases hlt : i < l0.length
   case neg =>
    obtain rfl : i = l0.length := by omega
    have hx := HX.out.up3
    obtain ⟨P2, m2, h2, hx⟩ := ytv' hx
    replace HX := Lib.hid hx
    clear hx
    have H2 := Lib.hid (show _ ∧ _ from ⟨m2, h2⟩)
    clear m2 h2 hlt hik HP
    go_wp2_with (first | refine u0 ?_ | (refine uS ?_; clear HX; intro w HX) | (refine uA ?_; clear HX; (first | (have hq := b; clear hq; intro w b2 HX) | intro w b HX)) | (refine uP ?_; clear HX; intro w av nv cv HX))
    refine (yfw' HX.out.up2.up1 hd (ylf' 60 (by omega)) recs _ _ H2.out.1 (HC.out.2.2.2.2.2.mono H2.out.2) (by have := HC.out.1; have := H30.out; omega) HC.out.2.2.2.2.1).mono ?_
    rintro e w ⟨v5, xs5, P5, rfl, h5, ol5, m5, hx⟩
    rw [ylj'] at hx
    have hx := yfx' hx (fun r hr => hr) h5
    obtain ⟨E5, r5⟩ := hx.poolGet m5
    obtain ⟨a5, n5, c5, rfl, hn5, -⟩ := ReadRow.some r5
    have hn6 := ol5.len
    rw [hn5, yhu', HC.out.1] at hn6
    obtain rfl : n5 = l0.length := by omega
    clear ol5 m5 r5 hn5 hn6 h5
    obtain ⟨pa, ca, mka, gsa, -, -, hS⟩ := ygc' hx.up1
    obtain ⟨pb, cb, mkb, gsb, -, -, hx⟩ := ygc' hS.up5
    rw [← HC.out.2.1.1, ← HC.out.2.1.2.1] at hx
    replace HX := Lib.hid hx
    clear hx
    clear hS
    obtain ⟨bs, hbs⟩ : ∃ bs, yxm' S.c = bs := ⟨_, rfl⟩
    have HBS := Lib.hid hbs
    have htS := HC.out.2.2.1.p.b.tree
    have HK := Lib.hid (show (∀ e ∈ S.p.t.l, NodeOk e.2) ∧ S.p.t.l.length ≤ 1000 ∧ (∀ e ∈ S.p.t.l, e.1.length ≤ 100000) ∧ (60 : Int) = S.p.t.room ∧ S.c.length ≤ 1000 from
     ⟨htS.ok (by have := H30.out; omega), by have := htS.many; omega, fun e he => by have := htS.keys e he; omega, HC.out.2.2.2.1.symm, by have := HC.out.2.2.1.c; have := H30.out; omega⟩)
    have q3 : ((l0.length : Int) == (l0.length : Int)) = true := by simp
    have q4 : (S.p.zxid == S.p.zxid) = true := by simp
    have q5 : (((S.p.held.length : Nat) : Int) == ((S.p.held.length : Nat) : Int)) = true := by simp
    clear htS hbs
    go_wp2_with (first | refine u0 ?_ | (refine uS ?_; clear HX; intro w HX) | (refine uA ?_; clear HX; (first | (have hq := b; clear hq; intro w b2 HX) | intro w b HX)) | (refine uP ?_; clear HX; intro w av nv cv HX))
    refine rM (fun W => (fun (_ : World) => True) W) 43 ?_
    intro KEEPX
    replace HX := Lib.hid HX.out.drew
    refine rT [(0, false), (1, false), (2, false), (3, false), (4, false), (5, false), (6, false), (10, false)] 38 ?_
    apply Exists.intro; refine ⟨?_, trivial, ?_⟩
    ·iterate 8 (first | refine xE ?_ | ((first | apply yax' | apply yas'); (· (simp only [k_i, k_j, k_k]; try rfl)); (· rfl); (· (intros; go_simp; (try simp only [q3, q4, q5, ↓reduceIte, and_self, Int.toNat_natCast]); try with_reducible rfl)); (· (simp only [Act.put, k_a, k_b, k_c, k_d, k_e, k_f, k_g, k_h, NodeS.cells, OpS.cells, ResS.cells]; try rfl))))
     exact rfl
    refine r1 37 7 fun K hK => ?_
    go_wp2_with fail
    refine (ycx' HX.out.up4).mono ?_
    rintro e w2 ⟨rfl, rfl⟩
    go_wp2_with fail
    refine hK _ _ trivial ?_
    clear hK
    refine r1 36 8 fun K hK => ?_
    go_wp2_with fail
    refine (yi7' HX.out.up5.up8 HK.out.1).mono ?_
    rintro e w ⟨ta1, P6, rfl, hP6, hx⟩
    have hx := hx
    replace HX := Lib.hid hx
    clear hx
    go_wp2_with fail
    refine hK _ _ trivial ?_
    clear hK
    refine r1 35 9 fun K hK => ?_
    go_wp2_with fail
    refine (ypq' HX.out 60 HK.out.2.2.2.1 HK.out.1 HK.out.2.1 HK.out.2.2.1).mono ?_
    rintro e w ⟨ra1, P7, rfl, hP7, hx⟩
    have hx := hx.cut1
    replace HX := Lib.hid hx
    clear hx
    go_wp2_with fail
    refine hK _ _ trivial ?_
    clear hK
    refine r1 34 11 fun K hK => ?_
    go_wp2_with fail
    refine (ycx' HX.out.up3).mono ?_
    rintro e w2 ⟨rfl, rfl⟩
    go_wp2_with fail
    refine hK _ _ trivial ?_
    clear hK
    refine r1 33 12 fun K hK => ?_
    go_wp2_with fail
    refine (yi7' (yde' HX.out.up4 (fun r hr => hP7 r (hP6 r hr))).up1 HK.out.1).mono ?_
    rintro e w ⟨ta2, P8, rfl, hP8, hx⟩
    have hx := hx
    replace HX := Lib.hid hx
    clear hx
    go_wp2_with fail
    refine hK _ _ trivial ?_
    clear hK
    refine r1 32 13 fun K hK => ?_
    go_wp2_with fail
    refine (ypq' HX.out 60 HK.out.2.2.2.1 HK.out.1 HK.out.2.1 HK.out.2.2.1).mono ?_
    rintro e w ⟨ra2, P9, rfl, hP9, hx⟩
    have hx := (yzq' hx.cut1.up3 (fun r hr => hP9 r (hP8 r hr))).up1
    replace HX := Lib.hid hx
    clear hx
    go_wp2_with fail
    refine hK _ _ trivial ?_
    clear hK
    refine r1 31 14 fun K hK => ?_
    go_wp2_with fail
    refine (yty' HX.out (Nat.le_trans HK.out.2.1 (by omega))).mono ?_
    rintro e w ⟨rfl, hx⟩
    have hx := hx.cut1.cut1
    replace HX := Lib.hid hx
    clear hx
    go_wp2_with fail
    refine hK _ _ trivial ?_
    clear hK
    clear hP6 hP7 hP8 hP9
    refine rT [(15, false), (16, false), (17, false), (20, false)] 27 ?_
    apply Exists.intro; refine ⟨?_, trivial, ?_⟩
    ·iterate 4 (first | refine xE ?_ | ((first | apply yax' | apply yas'); (· (simp only [k_i, k_j, k_k]; try rfl)); (· rfl); (· (intros; go_simp; (try simp only [q3, q4, q5, ↓reduceIte, and_self, Int.toNat_natCast]); try with_reducible rfl)); (· (simp only [Act.put, k_a, k_b, k_c, k_d, k_e, k_f, k_g, k_h, NodeS.cells, OpS.cells, ResS.cells]; try rfl))))
     exact rfl
    refine r1 26 18 fun K hK => ?_
    go_wp2_with fail
    refine (ycx' HX.out.up6).mono ?_
    rintro e w2 ⟨rfl, rfl⟩
    go_wp2_with fail
    refine hK _ _ trivial ?_
    clear hK
    refine r1 25 19 fun K hK => ?_
    go_wp2_with fail
    refine (yp7' HX.out.up2).mono ?_
    rintro e w ⟨rfl, hx⟩
    have hx := hx.up1
    replace HX := Lib.hid hx
    clear hx
    go_wp2_with fail
    refine hK _ _ trivial ?_
    clear hK
    refine r1 24 21 fun K hK => ?_
    go_wp2_with fail
    refine (ycx' HX.out.up3).mono ?_
    rintro e w2 ⟨rfl, rfl⟩
    go_wp2_with fail
    refine hK _ _ trivial ?_
    clear hK
    refine r1 23 22 fun K hK => ?_
    go_wp2_with fail
    refine (yp7' HX.out.up2).mono ?_
    rintro e w ⟨rfl, hx⟩
    have hx := hx.up1
    replace HX := Lib.hid hx
    clear hx
    go_wp2_with fail
    refine hK _ _ trivial ?_
    clear hK
    refine rT [(23, false), (24, false), (25, false), (26, false), (29, false)] 18 ?_
    apply Exists.intro; refine ⟨?_, trivial, ?_⟩
    ·iterate 5 (first | refine xE ?_ | ((first | apply yax' | apply yas'); (· (simp only [k_i, k_j, k_k]; try rfl)); (· rfl); (· (intros; go_simp; (try simp only [q3, q4, q5, ↓reduceIte, and_self, Int.toNat_natCast]); try with_reducible rfl)); (· (simp only [Act.put, k_a, k_b, k_c, k_d, k_e, k_f, k_g, k_h, NodeS.cells, OpS.cells, ResS.cells]; try rfl))))
     exact rfl
    refine r1 17 27 fun K hK => ?_
    go_wp2_with fail
    refine (ycx' HX.out.up6).mono ?_
    rintro e w2 ⟨rfl, rfl⟩
    go_wp2_with fail
    refine hK _ _ trivial ?_
    clear hK
    refine r1 16 28 fun K hK => ?_
    go_wp2_with fail
    refine (yke' HX.out.up2).mono ?_
    rintro e w ⟨rfl, hx⟩
    have hx := hx.up1
    replace HX := Lib.hid hx
    clear hx
    go_wp2_with fail
    refine hK _ _ trivial ?_
    clear hK
    refine r1 15 30 fun K hK => ?_
    go_wp2_with fail
    refine (ycx' HX.out.up3).mono ?_
    rintro e w2 ⟨rfl, rfl⟩
    go_wp2_with fail
    refine hK _ _ trivial ?_
    clear hK
    refine r1 14 31 fun K hK => ?_
    go_wp2_with fail
    refine (yke' HX.out.up2).mono ?_
    rintro e w ⟨rfl, hx⟩
    have hx := hx.up1
    replace HX := Lib.hid hx
    clear hx
    go_wp2_with fail
    refine hK _ _ trivial ?_
    clear hK
    refine rT [(32, false), (33, false), (34, false), (35, false), (39, false)] 9 ?_
    apply Exists.intro; refine ⟨?_, trivial, ?_⟩
    ·iterate 5 (first | refine xE ?_ | ((first | apply yax' | apply yas'); (· (simp only [k_i, k_j, k_k]; try rfl)); (· rfl); (· (intros; go_simp; (try simp only [q3, q4, q5, ↓reduceIte, and_self, Int.toNat_natCast]); try with_reducible rfl)); (· (simp only [Act.put, k_a, k_b, k_c, k_d, k_e, k_f, k_g, k_h, NodeS.cells, OpS.cells, ResS.cells]; try rfl))))
     exact rfl
    refine r1 8 36 fun K hK => ?_
    go_wp2_with fail
    refine (ygd' HX.out.up6).mono ?_
    rintro e w2 ⟨rfl, rfl⟩
    go_wp2_with fail
    refine hK _ _ trivial ?_
    clear hK
    refine r1 7 37 fun K hK => ?_
    go_wp2_with fail
    refine (ylm' (ye5' HX.out.up7) HK.out.2.2.2.2).mono ?_
    rw [HBS.out]
    rintro e w ⟨v1, rfl, hx⟩
    have hx := (yet' hx).up2.up2.poolRow
    replace HX := Lib.hid hx
    clear hx
    go_wp2_with fail
    refine hK _ _ trivial ?_
    clear hK
    have hcv1 := ydp' HX.out k_s
    refine yce' (fuel := 6) [38, 40] (by kernel_rfl) (by simp) (fun i hi => ?_)
    simp only [List.mem_cons, List.not_mem_nil, or_false] at hi
    rcases hi with rfl | rfl
    case' inl =>
     refine ⟨_, by (simp only [k_i, k_j, k_k]; try rfl), fun K hK => ?_⟩
     go_wp2_with fail
     refine hK _ _ trivial ?_
     clear hK hcv1
     refine r1 5 40 fun K hK => ?_
     go_wp2_with fail
     refine (ygd' HX.out.up4).mono ?_
     rintro e w2 ⟨rfl, rfl⟩
     go_wp2_with fail
     refine hK _ _ trivial ?_
     clear hK
     refine r1 4 41 fun K hK => ?_
     go_wp2_with fail
     refine (ylm' (ye5' HX.out.up5) HK.out.2.2.2.2).mono ?_
     rw [HBS.out]
     rintro e w ⟨v2, rfl, hx⟩
     have hx := (yet' hx).up2.up2.poolRow
     replace HX := Lib.hid hx
     clear hx
     go_wp2_with fail
     refine hK _ _ trivial ?_
     clear hK
     have hcv2 := ydp' HX.out k_s
     refine r1 3 42 fun K hK => ?_
     go_wp2_with fail
     refine hK _ _ trivial ?_
     clear hK hcv2
    case' inr =>
     refine ⟨_, by (simp only [k_i, k_j, k_k]; try rfl), fun K hK => ?_⟩
     go_wp2_with fail
     refine (ygd' HX.out.up4).mono ?_
     rintro e w2 ⟨rfl, rfl⟩
     go_wp2_with fail
     refine hK _ _ trivial ?_
     clear hK
     refine yce' (fuel := 5) [38, 41] (by kernel_rfl) (by simp) (fun i hi => ?_)
     simp only [List.mem_cons, List.not_mem_nil, or_false] at hi
     rcases hi with rfl | rfl
     case' inl =>
      refine ⟨_, by (simp only [k_i, k_j, k_k]; try rfl), fun K hK => ?_⟩
      go_wp2_with fail
      refine hK _ _ trivial ?_
      clear hK hcv1
      refine r1 4 41 fun K hK => ?_
      go_wp2_with fail
      refine (ylm' (ye5' HX.out.up5) HK.out.2.2.2.2).mono ?_
      rw [HBS.out]
      rintro e w ⟨v2, rfl, hx⟩
      have hx := (yet' hx).up2.up2.poolRow
      replace HX := Lib.hid hx
      clear hx
      go_wp2_with fail
      refine hK _ _ trivial ?_
      clear hK
      have hcv2 := ydp' HX.out k_s
      refine r1 3 42 fun K hK => ?_
      go_wp2_with fail
      refine hK _ _ trivial ?_
      clear hK hcv2
     case' inr =>
      refine ⟨_, by (simp only [k_i, k_j, k_k]; try rfl), fun K hK => ?_⟩
      clear hcv1
      go_wp2_with fail
      refine (ylm' (ye5' HX.out.up5) HK.out.2.2.2.2).mono ?_
      rw [HBS.out]
      rintro e w ⟨v2, rfl, hx⟩
      have hx := (yet' hx).up2.up2.poolRow
      replace HX := Lib.hid hx
      clear hx
      go_wp2_with fail
      refine hK _ _ trivial ?_
      clear hK
      have hcv2 := ydp' HX.out k_s
      have hcv1 := ydp' HX.out (k_n _ k_s)
      refine yce' (fuel := 4) [38, 42] (by kernel_rfl) (by simp) (fun i hi => ?_)
      simp only [List.mem_cons, List.not_mem_nil, or_false] at hi
      rcases hi with rfl | rfl
      case' inl =>
       refine ⟨_, by (simp only [k_i, k_j, k_k]; try rfl), fun K hK => ?_⟩
       go_wp2_with fail
       refine hK _ _ trivial ?_
       clear hK hcv1
       refine r1 3 42 fun K hK => ?_
       go_wp2_with fail
       refine hK _ _ trivial ?_
       clear hK hcv2
      case' inr =>
       refine ⟨_, by (simp only [k_i, k_j, k_k]; try rfl), fun K hK => ?_⟩
       go_wp2_with fail
       refine hK _ _ trivial ?_
       clear hK hcv2
       refine r1 3 38 fun K hK => ?_
       go_wp2_with fail
       refine hK _ _ trivial ?_
       clear hK hcv1
    all_goals
     refine rL [43, 44, 45] 0 ?_
     simp only [List.filterMap_cons, List.filterMap_nil, k_i, k_j, k_k]
     go_wp2_with fail
     go_ret
     exact ⟨by simp, HX.out.below⟩
   case pos =>
    obtain ⟨_, _, _, ee, _, _, _, hne⟩ := ReadRow.some HR.out.1
    simp only [Value.slice.injEq] at ee
    obtain ⟨rfl, rfl, rfl⟩ := ee
    obtain ⟨g0, off0, rfl⟩ := hne (by intro e; have := congrArg List.length e; rw [yav' yk1'] at this; simp only [List.length_nil] at this; omega)
    clear hne
    have hco := HR.out.2.2 _ (List.getElem_mem hlt)
    obtain ⟨⟨⟨k0, id, sess, rqs, rn, ops, shards, shard, yes⟩, vo, vsh⟩, hg⟩ : ∃ g, l0[i] = g := ⟨_, rfl⟩
    rw [hg] at hco
    obtain ⟨⟨E5, r5⟩, ⟨E6, r6⟩⟩ := hco
    dsimp only at r5 r6
    obtain ⟨oa, on, oc, rfl, -⟩ := _root_.id r5
    obtain ⟨sa, sn, sc, rfl, hsl, -⟩ := _root_.id r6
    obtain ⟨P2, hP2⟩ : ∃ P2, ((1, .slice sa sn sc, shards.map ivn) :: (5, .slice oa on oc, ops.flatMap OpS.cells) :: P1 : List PRow) = P2 := ⟨_, rfl⟩
    have hin : (1, Value.slice sa sn sc, shards.map ivn) ∈ P2 ∧ (5, Value.slice oa on oc, ops.flatMap OpS.cells) ∈ P2 ∧ ∀ r ∈ P1, r ∈ P2 := by
     rw [← hP2]
     exact ⟨k_s, k_n _ k_s, fun r hr => k_n _ (k_n _ hr)⟩
    have hx := yfx' ((HX.out.poolOld r5).poolOld r6) (fun r hr => k_n _ (k_n _ hr)) (fun r hr => k_n _ (k_n _ hr))
    rw [hP2] at hx
    replace HX := Lib.hid hx
    clear hx
    have HIN := Lib.hid hin
    have HGC := Lib.hid hg
    have HPQ := Lib.hid HP.out
    clear HP
    have HP := Lib.hid (show ∀ r ∈ rs, r ∈ P2 from fun r hr => hin.2.2 _ (HPQ.out r hr))
    clear hin hP2 hg r5 r6 hsl HPQ
    have q0 : decide (i < l0.length) = true := decide_eq_true hlt
    have q9 : i ≤ 30 := by have := H30.out; omega
    have HQ := Lib.hid (show i ≤ 30 from q9)
    obtain ⟨E, hE⟩ := HX.out.poolGet (HP.out _ HRS.out.1)
    have hl := ycs' (P := Tryz.prog) (ty := 70) (i := i) hE yk1' sn_x5 hlt
    rw [HGC.out] at hl
    simp only [CmdG.cells, cmdV] at hl
    clear hE
    go_wp2_with (first | refine u0 ?_ | (refine uS ?_; clear HX; intro w HX) | (refine uA ?_; clear HX; (first | (have hq := b; clear hq; intro w b2 HX) | intro w b HX)) | (refine uP ?_; clear HX; intro w av nv cv HX) | ((with_reducible apply yau' hl); (· rfl); (· rfl); simp only [Act.put, k_a, k_b, k_c]))
    refine (ysi' HX.out ⟨k0, id, sess, rqs, rn, ops, shards, shard, yes⟩ _ _ HIN.out.2.1 HIN.out.1).mono ?_
    dsimp only
    obtain ⟨zh, hzh⟩ : ∃ z, (yhq' ops || decide (6 < (shards.length : Int))) = z := ⟨_, rfl⟩
    rw [hzh]
    rintro e w ⟨rfl, hx⟩
    replace HX := Lib.hid hx
    clear hx
    clear hl
    cases zh with
    | true =>
     go_wp2_with (first | refine u0 ?_ | (refine uS ?_; clear HX; intro w HX) | (refine uA ?_; clear HX; (first | (have hq := b; clear hq; intro w b2 HX) | intro w b HX)) | (refine uP ?_; clear HX; intro w av nv cv HX))
     go_ret
     exact ⟨rfl, HX.out.below⟩
    | false =>
     have HH := Lib.hid (show yhq' ops = false ∧ shards.length ≤ 1000 by
      rw [Bool.or_eq_false_iff] at hzh
      have := of_decide_eq_false hzh.2
      exact ⟨hzh.1, by omega⟩)
     clear hzh
     obtain ⟨E, hE⟩ := HX.out.poolGet (HP.out _ HRS.out.1)
     have hl := ycs' (P := Tryz.prog) (ty := 70) (i := i) hE yk1' sn_x5 hlt
     rw [HGC.out] at hl
     simp only [CmdG.cells, cmdV] at hl
     clear hE
     go_wp2_with (first | refine u0 ?_ | (refine uS ?_; clear HX; intro w HX) | (refine uA ?_; clear HX; (first | (have hq := b; clear hq; intro w b2 HX) | intro w b HX)) | (refine uP ?_; clear HX; intro w av nv cv HX) | ((with_reducible apply yau' hl); (· rfl); (· rfl); simp only [Act.put, k_a, k_b, k_c]))
     refine (yje' HX.out hd ⟨k0, id, sess, rqs, rn, ops, shards, shard, yes⟩ _ _ HIN.out.2.1 HIN.out.1 (yv7' HH.out.1) HH.out.2).mono ?_
     obtain ⟨rec, hrec⟩ : ∃ rec, putC ⟨k0, id, sess, rqs, rn, ops, shards, shard, yes⟩ = rec := ⟨_, rfl⟩
     have hlen := ywf' ⟨k0, id, sess, rqs, rn, ops, shards, shard, yes⟩ HH.out.2
     rw [hrec] at hlen ⊢
     rintro e w ⟨v, rfl, hx⟩
     obtain ⟨P3, m3, h3, hx⟩ := ytv' hx
     clear hl
     replace HX := Lib.hid hx
     clear hx
     obtain ⟨ca, cn, cc, rfl⟩ := ybc' HX.out m3
     have H3 := Lib.hid (show _ ∧ _ ∧ _ from ⟨m3, h3, hlen⟩)
     clear m3 h3 hlen hrec
     have HLN := Lib.hid (show vs.length = i by rw [HC.out.2.2.2.2.2.len, HC.out.1])
     have HBD := Lib.hid (show ∀ n, vs.length = n * 1 → n + 1 ≤ 140737488355328 ∧ (n + 1) * 24 ≤ 140737488355328 from fun n hn => by
      have := HLN.out
      have := HQ.out
      omega)
     go_wp2_with (first | refine u0 ?_ | (refine uS ?_; clear HX; intro w HX) | (refine uA ?_; clear HX; (first | (have hq := b; clear hq; intro w b2 HX) | intro w b HX)) | (refine uP ?_; clear HX; intro w av nv cv HX))
     obtain ⟨P4, m4, h4, hx⟩ := yo7' (K := 1) (n := 1) (cs := [.slice ca cn cc]) HX.out.cut2.up4.up4.up4.up3 rfl (by omega)
     replace HX := Lib.hid hx
     clear hx
     have H4 := Lib.hid (show _ ∧ _ from ⟨m4, h4⟩)
     clear m4 h4
     refine (yfw' HX.out hd HC.out.2.2.1 [rec] _ _ H4.out.1 (.cons (H4.out.2 _ H3.out.1) .nil) (by have := HQ.out; simp; omega) (by intro l hl; rw [List.mem_singleton] at hl; subst hl; exact H3.out.2.2)).mono ?_
     rw [ykd']
     rintro e w ⟨v5, xs5, P5, rfl, h5, ol5, m5, hx⟩
     have hx := yfx' hx (fun r hr => hr) h5
     replace HX := Lib.hid hx
     clear hx
     obtain ⟨a5, n5, c5, rfl⟩ := ybc' HX.out m5
     have H5 := Lib.hid (show _ ∧ _ ∧ _ from ⟨h5, ol5, m5⟩)
     have HP5 := Lib.hid (show ∀ r ∈ rs, r ∈ P5 from fun r hr => h5 _ (H4.out.2 _ (H3.out.2.1 _ (HP.out _ hr))))
     have HR5 := Lib.hid (show RecL P5 (recs ++ [rec]) (vs ++ [.slice ca cn cc]) from (HC.out.2.2.2.2.2.mono (fun r hr => h5 _ (H4.out.2 _ (H3.out.2.1 _ (HIN.out.2.2 _ hr))))).snoc (h5 _ (H4.out.2 _ H3.out.1)))
     have HB1 := Lib.hid (ypr' HC.out.2.2.1 (by have := HQ.out; omega) rec)
     clear h5 ol5 m5 HH HIN HGC
     by_cases hi : i < l1.length
     case neg =>
      have q2 : decide (i < l1.length) = false := decide_eq_false hi
      clear hi
      go_wp2_with (first | refine u0 ?_ | (refine uS ?_; clear HX; intro w HX) | (refine uA ?_; clear HX; (first | (have hq := b; clear hq; intro w b2 HX) | intro w b HX)) | (refine uP ?_; clear HX; intro w av nv cv HX))
      go_roundg (l0.length - (i + 1))
      case rel => exact ⟨i + 1, recs ++ [rec], vs ++ [.slice ca cn cc], (ya8' S rec).2, P5, av, nv, cv, by omega, by go_num, rfl, by rw [List.length_append, HC.out.1]; rfl, yh5' HC.out.2.1 rec, HB1.out.2.mono (by omega), (yem' S rec).trans HC.out.2.2.2.1, (fun r hr => by
       rcases List.mem_append.1 hr with hr | hr
       ·exact HC.out.2.2.2.2.1 r hr
       ·rw [List.mem_singleton] at hr
        rw [hr]
        exact H3.out.2.2), HR5.out, HP5.out, HX.out⟩
      case measure => omega
     case pos =>
      have q2 : decide (i < l1.length) = true := decide_eq_true hi
      obtain ⟨_, _, _, ee, _, _, _, hne⟩ := ReadRow.some HR.out.2.1
      simp only [Value.slice.injEq] at ee
      obtain ⟨rfl, rfl, rfl⟩ := ee
      obtain ⟨g1, o1, rfl⟩ := hne (by intro e; rw [List.map_eq_nil_iff] at e; rw [e] at hi; simp at hi)
      obtain ⟨tb, htb⟩ : ∃ z, l1[i] = z := ⟨_, rfl⟩
      obtain ⟨E, hE⟩ := HX.out.poolGet (HP5.out _ HRS.out.2)
      have hl := ybz' (P := Tryz.prog) (ty := 4) (i := i) (v := .bool tb) hE (by kernel_rfl) (by rw [List.getElem?_map, List.getElem?_eq_getElem hi]; exact congrArg some (congrArg Value.bool htb))
      have q3 : (i < l1.length) = True := eq_true hi
      clear hE hne htb hi
      cases tb with
      | false =>
       go_wp2_with (first | refine u0 ?_ | (refine uS ?_; clear HX; intro w HX) | (refine uA ?_; clear HX; (first | (have hq := b; clear hq; intro w b2 HX) | intro w b HX)) | (refine uP ?_; clear HX; intro w av nv cv HX) | ((with_reducible apply yau' hl); (· rfl); (· rfl); simp only [Act.put, k_a, k_b, k_c]))
       clear hl
       go_roundg (l0.length - (i + 1))
       case rel => exact ⟨i + 1, recs ++ [rec], vs ++ [.slice ca cn cc], (ya8' S rec).2, P5, av, nv, cv, by omega, by go_num, rfl, by rw [List.length_append, HC.out.1]; rfl, yh5' HC.out.2.1 rec, HB1.out.2.mono (by omega), (yem' S rec).trans HC.out.2.2.2.1, (fun r hr => by
        rcases List.mem_append.1 hr with hr | hr
        ·exact HC.out.2.2.2.2.1 r hr
        ·rw [List.mem_singleton] at hr
         rw [hr]
         exact H3.out.2.2), HR5.out, HP5.out, HX.out⟩
       case measure => omega
      | true =>
       go_wp2_with (first | refine u0 ?_ | (refine uS ?_; clear HX; intro w HX) | (refine uA ?_; clear HX; (first | (have hq := b; clear hq; intro w b2 HX) | intro w b HX)) | (refine uP ?_; clear HX; intro w av nv cv HX) | ((with_reducible apply yau' hl); (· rfl); (· rfl); simp only [Act.put, k_a, k_b, k_c]))
       clear hl
       obtain ⟨P6, m6, h6, hx⟩ := yo7' (K := 1) (n := 1) (cs := [.slice ca cn cc]) HX.out rfl (by omega)
       replace HX := Lib.hid hx
       clear hx
       have H6 := Lib.hid (show _ ∧ _ from ⟨m6, h6⟩)
       clear m6 h6
       refine (yfw' HX.out hd HB1.out.2 [rec] _ _ H6.out.1 (.cons (H6.out.2 _ (H5.out.1 _ (H4.out.2 _ H3.out.1))) .nil) (by have := HQ.out; simp; omega) (by intro l hl; rw [List.mem_singleton] at hl; subst hl; exact H3.out.2.2)).mono ?_
       rw [ykd']
       rintro e w ⟨v7, xs7, P7, rfl, h7, ol7, m7, hx⟩
       have hx := yfx' hx (fun r hr => hr) h7
       replace HX := Lib.hid hx
       clear hx
       obtain ⟨a7, n7, c7, rfl⟩ := ybc' HX.out m7
       have htw := yuk' HC.out.2.1 rec
       have HB2 := Lib.hid (ypr' HB1.out.2 (by have := HQ.out; omega) rec).2
       rw [htw.1] at ol7
       have H7 := Lib.hid (show _ ∧ _ ∧ _ ∧ _ from ⟨h7, ol7, m7, htw.2⟩)
       clear h7 ol7 m7 htw
       obtain ⟨g5, o5, m5, u1, u2, u3, u4, u5, u6, ee, hi5, hl⟩ := ypm' HX.out (H5.out.2.1.mono (fun r hr => H7.out.1 _ (H6.out.2 _ hr))) (H7.out.1 _ (H6.out.2 _ H5.out.2.2))
       cases ee
       obtain ⟨g7, o7, m7, y1, y2, y3, y4, y5, y6, ee, hi7, hl2⟩ := ypm' HX.out H7.out.2.1 H7.out.2.2.1
       cases ee
       have HI := Lib.hid (show _ ∧ _ from ⟨hi5, hi7⟩)
       clear hi5 hi7
       have hl := fun (W : World) hW => hl W [yba' bb (ya8' (ya8' S rec).2 rec).2 P7, yba' ba (yd0' 60) P7, yaf' 1 (.slice av nv cv) (vs ++ [.slice ca cn cc])] [] hW
       have hl2 := fun (W : World) hW => hl2 W [yba' bb (ya8' (ya8' S rec).2 rec).2 P7, yba' ba (yd0' 60) P7, yaf' 1 (.slice av nv cv) (vs ++ [.slice ca cn cc])] [] hW
       go_wp2_with (first | refine u0 ?_ | (refine uS ?_; clear HX; intro w HX) | (refine uA ?_; clear HX; (first | (have hq := b; clear hq; intro w b2 HX) | intro w b HX)) | (refine uP ?_; clear HX; intro w av nv cv HX))
       refine rM (fun W => Sep V W [yab' V P7, yba' bb (ya8' (ya8' S rec).2 rec).2 P7, yba' ba (yd0' 60) P7, yaf' 1 (.slice av nv cv) (vs ++ [.slice ca cn cc])] []) 15 ?_
       intro KEEPX
       replace HX := Lib.hid HX.out.drew
       refine rT [(0, false), (1, false), (2, false), (3, false), (4, false), (5, false), (6, true), (8, false), (9, false), (10, true)] 5 ?_
       apply Exists.intro; refine ⟨?_, HX.out, ?_⟩
       ·iterate 10 (first | refine xE ?_ | ((first | apply yax' | apply yas'); (· (simp only [k_i, k_j, k_k]; try rfl)); (· rfl); (· (intros; go_simp; (try simp only [q3, q4, q5, ↓reduceIte, and_self, Int.toNat_natCast]); try with_reducible rfl)); (· (simp only [Act.put, k_a, k_b, k_c, k_d, k_e, k_f, k_g, k_h, NodeS.cells, OpS.cells, ResS.cells]; try rfl))))
        exact rfl
       clear hl hl2
       refine r1 4 7 fun K hK => ?_
       go_wp2_with fail
       refine (ypn' HX.out _ _ _ _ _ _ _).mono ?_
       rintro e w ⟨rfl, hx⟩
       replace HX := Lib.hid hx
       clear hx
       go_wp2_with fail
       refine hK _ _ HX.out ?_
       clear hK
       refine r1 3 11 fun K hK => ?_
       go_wp2_with fail
       refine (ypn' HX.out _ _ _ _ _ _ _).mono ?_
       rintro e w ⟨rfl, hx⟩
       replace HX := Lib.hid hx
       clear hx
       go_wp2_with fail
       refine hK _ _ HX.out ?_
       clear hK
       refine r1 2 12 fun K hK => ?_
       go_wp2_with fail
       refine (yoq' HX.out (ya8' S rec).1 _ _ _ _ HI.out.1 HI.out.2 HB1.out.1).mono ?_
       rintro e w ⟨rfl, hx⟩
       replace HX := Lib.hid hx
       clear hx
       go_wp2_with fail
       refine hK _ _ HX.out ?_
       clear hK
       refine rT [(13, false), (14, false)] 0 ?_
       apply Exists.intro; refine ⟨?_, HX.out, ?_⟩
       ·iterate 2 (first | refine xE ?_ | ((first | apply yax' | apply yas'); (· (simp only [k_i, k_j, k_k]; try rfl)); (· rfl); (· (intros; go_simp; (try simp only [q3, q4, q5, ↓reduceIte, and_self, Int.toNat_natCast]); try with_reducible rfl)); (· (simp only [Act.put, k_a, k_b, k_c, k_d, k_e, k_f, k_g, k_h, NodeS.cells, OpS.cells, ResS.cells]; try rfl))))
        exact rfl
       refine yag' (by kernel_rfl) ?_ _
       go_wp2_with (first | refine u0 ?_ | (refine uS ?_; clear HX; intro w HX) | (refine uA ?_; clear HX; (first | (have hq := b; clear hq; intro w b2 HX) | intro w b HX)) | (refine uP ?_; clear HX; intro w av nv cv HX))
       go_roundg (l0.length - (i + 1))
       case rel => exact ⟨i + 1, recs ++ [rec], vs ++ [.slice ca cn cc], (ya8' (ya8' S rec).2 rec).2, P7, av, nv, cv, by omega, by go_num, rfl, by rw [List.length_append, HC.out.1]; rfl, H7.out.2.2.2, HB2.out.mono (by omega), ((yem' _ rec).trans (yem' S rec)).trans HC.out.2.2.2.1, (fun r hr => by
        rcases List.mem_append.1 hr with hr | hr
        ·exact HC.out.2.2.2.2.1 r hr
        ·rw [List.mem_singleton] at hr
         rw [hr]
         exact H3.out.2.2), HR5.out.mono (fun r hr => H7.out.1 _ (H6.out.2 _ hr)), (fun r hr => H7.out.1 _ (H6.out.2 _ (HP5.out _ hr))), HX.out⟩
       case measure => omega
end
end Go.Proofs.YtcnkifbjlihaoaaGreatDoor

namespace Go.Av
variable {H : Type} {enc : TypeId × Value → H}
theorem handed_both {a : Assume} {C : Checked} {os : Os} {f : FuncId} {fn : Func} {s : ChangeSpec} {conds : List PathCond} {apart fresh handsOn again : Bool} {X : World → Array Value → Prop}
  (hX : ∀ (w w' : World) (args : Array Value), w.heap = w'.heap → X w args → X w' args)
  (own : ownKnob C.prog.godebug = none) (started : os.Started) (noInit : C.prog.inits.idxOf? f = none) (hfn : C.prog.funcs[f]? = some fn)
  (witness : ∃ (w : World) (tape : Tape) (i : Input), w.os = os ∧ (w.forCall tape i).Shaped C.prog ∧ i.vars = [] ∧ Input.okWide C.prog (w.forCall tape i) .any w.heap.size f i ∧
   ((s.pre enc C.prog fn conds apart (w.forCall tape i).memory i.args ∧ X (w.forCall tape i).memory i.args) ∧ sizedMet enc C.prog fn (OpenSpec.ofChange s) apart (w.forCall tape i).memory i.args) ∧ a.holds C.prog (lone (Frame.enter C.prog f i.args .normal) [] (w.forCall tape i)))
  (contract : ∀ (W : World) (base : Nat) (args : Array Value) (ds gs : List (DataW H)) (before : List MemPlace),
   (∀ (j : Nat) t v, fn.params[j]? = some t → args[j]? = some v → Value.okWide C.prog W .any base t v) →
   DataW.Whole enc C.prog fn.params.toList s.vars apart W args.toList ds gs before →
   W.ShapedOpen C.prog → X W args →
   Calls C.prog f args W fun e W' => ∃ v, e = .returned v ∧ s.post enc C.prog fn apart fresh handsOn again W args v W') :
  ReturnsInHanded a C os f .any (fun w args => (s.pre enc C.prog fn conds apart w args ∧ X w args) ∧ sizedMet enc C.prog fn (OpenSpec.ofChange s) apart w args) (s.post enc C.prog fn apart fresh handsOn again) := by
 refine returnsInHanded_of_calls own started noInit witness ?_
 intro w tape i _ hsh _ hok hpre hholds
 obtain ⟨_, _, _, fn', hfn', _, _, _, _, hval⟩ := hok
 have e : fn' = fn := Option.some.inj (hfn'.symm.trans hfn)
 subst e
 obtain ⟨⟨⟨ds, gs, before, hw, hc⟩, hx⟩, hz⟩ := hpre
 have hw' := DataW.Whole.of_heap (w' := w.forCall tape i) (by rfl) hw
 refine (contract (w.forCall tape i) w.heap.size i.args ds gs before hval hw' hsh (hX _ _ _ (by rfl) hx)).mono fun e W' ⟨v, he, hp⟩ => ?_
 subst he
 exact ChangeSpec.post_blind hp
end Go.Av
namespace Go.Proofs.YtcnkifbjlihaoaaGreatDoor
open Go.Av
theorem yyu' {W : World} (h : W.ShapedOpen Tryz.prog) : Door W := Tryz.laysM146.s1_3 W h
end Go.Proofs.YtcnkifbjlihaoaaGreatDoor

namespace Go.Av
theorem yml' {P : Program} {w : World} {x : String × DataW Unit} {rest : List (String × DataW Unit)} (h : ∃ ps, DataW.LaidVars P w (x :: rest) ps) : ∃ ps, DataW.LaidVars P w rest ps := by
 obtain ⟨ps, g, t, cs, fuel, p, q, -, -, -, -, h1, h2⟩ := h
 exact ⟨q, by assumption⟩
theorem ywx' {P : Program} {W : World} {name : String} {k : IntKind} {zs : List Int} {rest : List (String × DataW Unit)} {g : Nat} {t e : TypeId} {n : Nat}
  (hg : P.globalNamed name = some g) (hty : (P.globals[g]?).map (·.type) = some t) (ht : P.underlying t = some (.array n e)) (he : P.underlying e = some (.int k)) (hce : P.cellsOf e = 1) (hct : P.cellsOf t = n)
  (h : ∃ ps, DataW.LaidVars P W ((name, Lib.tabData k zs) :: rest) ps) : Lib.TabIs P W name k zs := by
 obtain ⟨ps, g', t', cs, fuel, p, q, hg', ht', hvar, hd, _, _⟩ := h
 obtain rfl := Option.some.inj (hg.symm.trans hg')
 obtain rfl := Option.some.inj (hty.symm.trans ht')
 unfold Lib.TabIs
 rw [hvar, ← Lib.cells_of_tab ht he hce hct hd]
end Go.Av
namespace Go.Proofs.YtcnkifbjlihaoaaGreatDoor
open Go.Av
theorem doorN_of {W : World} {a b c : String × DataW Unit} {r : List (String × DataW Unit)} (h : W.ShapedOpen Tryz.prog) (hc : c = ("internal/strconv.uint64pow10", Lib.tabData .u64 Lib.pow10Tab)) (hl : laidMet Tryz.prog (a :: b :: c :: r) W) : DoorN W := by
 subst hc
 obtain ⟨ps, h1, -⟩ := hl
 refine ⟨yyu' h, ?_⟩
 exact ywx' (g := 3) (by kernel_rfl) (by kernel_rfl) Tryz.underlying373 Tryz.underlying249 (by kernel_rfl) (by kernel_rfl) (yml' (yml' ⟨ps, h1⟩))
end Go.Proofs.YtcnkifbjlihaoaaGreatDoor
