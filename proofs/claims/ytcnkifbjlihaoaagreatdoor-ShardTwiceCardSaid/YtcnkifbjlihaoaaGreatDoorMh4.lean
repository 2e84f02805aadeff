/-
  Texts of this claim, laid together.
-/
import Derived.Test.YtcnkifbjlihaoaaGreatDoorMh3
import Derived.Lib.ConvBytes
import Derived.IntWalk
import Derived.WalkKit
set_option linter.unusedVariables false
set_option linter.unusedSimpArgs false

namespace Go.Av
open Go.RowKit
def yfd' (k : Int) : Bool := k == 5 || (k == 6 || k == 7)
def yeh' (l : List OpS) : Int := match l.find? (fun o => yb5' o != 0) with
 | none => 0
 | some o => yb5' o
def mayS (sess num : Int) (l : List OpS) : Int :=
 if sess < 1 ∨ num < 1 ∨ l.length = 0 then 1 else if 16 < l.length then 2 else if yeh' l ≠ 0 then yeh' l
 else if 1 < l.length ∧ (l.any fun o => yfd' o.kind) = true then 1 else 0
def ya3' (S : TreeS) (sess num zxid : Int) (ops : List OpS) : ReplyS × TreeS :=
 if mayS sess num ops ≠ 0 then (yeg' num (mayS sess num ops) (-1) 0, S)
 else (⟨num, zxid, (ybv' S sess zxid ops).1.err, (ybv' S sess zxid ops).1.at_, (ybv' S sess zxid ops).1.rs⟩, (ybv' S sess zxid ops).2.1)
theorem yn7' {l : List OpS} (h : ∀ o ∈ l, yb5' o = 0) : yeh' l = 0 := by
 unfold yeh'
 rw [List.find?_eq_none.2 fun o ho => by simp [h o ho]]
theorem ysc' {l : List OpS} {i : Nat} (hi : i < l.length) (h : ∀ o ∈ l.take i, yb5' o = 0) (hb : yb5' l[i] ≠ 0) : yeh' l = yb5' l[i] := by
 have hs : l = l.take i ++ l[i] :: l.drop (i + 1) := by rw [← List.drop_eq_getElem_cons hi, List.take_append_drop]
 obtain ⟨o, ho⟩ : ∃ o, l[i] = o := ⟨_, rfl⟩
 rw [ho] at hb hs ⊢
 obtain ⟨T, hT⟩ : ∃ T, l.take i = T := ⟨_, rfl⟩
 obtain ⟨D, hD⟩ : ∃ D, l.drop (i + 1) = D := ⟨_, rfl⟩
 rw [hT] at h hs
 rw [hD] at hs
 rw [hs]
 unfold yeh'
 rw [List.find?_append, List.find?_eq_none.2 fun o ho => by simp [h o ho]]
 rw [List.find?_cons]
 have : (yb5' o != 0) = true := by rw [bne_iff_ne]; exact hb
 rw [this]
 rfl
end Go.Av
namespace Go.Proofs.YtcnkifbjlihaoaaGreatDoor
open Go.RowKit Go.Av
section
variable {w0 w : World} {t : Nat} {S : TreeS} {P P' : List PRow} {R : List Thing} {rows : List (Value × Bs)}
set_option maxRecDepth 100000 in
theorem ytq' (k : Int) (w : World) : Calls Tryz.prog 139 #[.int .i64 k] w fun e w' => e = .returned (.bool (yfd' k)) ∧ w' = w := by
 unfold yfd'
 obtain ⟨b1, h1⟩ : ∃ b, (k == 5) = b := ⟨_, rfl⟩
 obtain ⟨b2, h2⟩ : ∃ b, (k == 6) = b := ⟨_, rfl⟩
 obtain ⟨b3, h3⟩ : ∃ b, (k == 7) = b := ⟨_, rfl⟩
 rw [h1, h2, h3]
 cases b1 <;> cases b2
 all_goals
  go_enter Tryz.func139, Tryz.ntmps139
  go_wp2
  go_ret
  exact ⟨rfl, rfl⟩
set_option maxRecDepth 100000 in
theorem yv1' (h : Sep w0 w R rows) (o : OpS) : Calls Tryz.prog 138 #[o.val] w fun e w' => e = .returned (.bool (yfd' o.kind)) ∧ Sep w0 w' R rows := by
 have HX := Lib.hid h
 clear h
 unfold OpS.val
 go_enter Tryz.func138, Tryz.ntmps138
 go_wp2_with (first | refine v1 ?_ | (refine vS ?_; clear HX; intro w HX) | (refine vA ?_; clear HX; (first | (have hq := b; clear hq; intro w b2 HX) | intro w b HX)))
 refine (ytq' _ _).mono ?_
 rintro e w1 ⟨rfl, rfl⟩
 go_wp2_with (first | refine v1 ?_ | (refine vS ?_; clear HX; intro w HX) | (refine vA ?_; clear HX; (first | (have hq := b; clear hq; intro w b2 HX) | intro w b HX)))
 go_ret
 exact ⟨rfl, HX.out.drop⟩
abbrev y0k' : Value := .func (.func 138) #[] #[]
def yx7' (w0 : World) (P : List PRow) (R : List Thing) (rows : List (Value × Bs)) (b : Bool) (e : Ending) (w' : World) : Prop :=
 ∃ r : Int, e = .returned (.int .i64 r) ∧ decide (0 ≤ r) = b ∧ Sep w0 w' (yab' w0 P :: R) rows
set_option maxRecDepth 100000 in
set_option maxHeartbeats 2000000 in
theorem ysl' (h : Sep w0 w (yab' w0 P :: R) rows) (l : List OpS) (v : Value) (hv : (5, v, l.flatMap OpS.cells) ∈ P) (hn : l.length ≤ 100000) :
  Calls Tryz.prog 178 #[v, y0k'] w (yx7' w0 P R rows (l.any fun o => yfd' o.kind)) := by
 obtain ⟨E, hE⟩ := h.poolGet hv
 obtain ⟨a, n, c, rfl, hl0, -, -, hne⟩ := ReadRow.some hE
 rw [yav' yak'] at hl0
 obtain rfl : l.length = n := by omega
 have HNE := Lib.hid hne
 have HV := Lib.hid hv
 have HX := Lib.hid h
 clear h hE hne hv hl0
 go_enter Tryz.func178, Tryz.ntmps178
 go_wp2_with (first | refine v1 ?_ | (refine vS ?_; clear HX; intro w HX) | (refine vA ?_; clear HX; (first | (have hq := b; clear hq; intro w b2 HX) | intro w b HX)))
 go_loopg [8] l.length (fun k v wr => ∃ i : Nat, i + k = l.length ∧ v = .int .i64 (i : Int) ∧ (∀ o ∈ l.take i, yfd' o.kind = false) ∧ Sep w0 wr (yab' w0 P :: R) rows)
 case atStart => exact ⟨0, by simp, rfl, by simp, HX.out⟩
 case round =>
  rename World => w
  obtain ⟨i, hik, rfl, hno, hS⟩ := hrel
  replace HX := Lib.hid hS
  have HNO := Lib.hid hno
  clear hS hno
  by_cases hlt : i < l.length
  case neg =>
   obtain rfl : i = l.length := by omega
   clear hlt hik
   go_wp2_with (first | refine v1 ?_ | (refine vS ?_; clear HX; intro w HX) | (refine vA ?_; clear HX; (first | (have hq := b; clear hq; intro w b2 HX) | intro w b HX)))
   go_ret
   have h1 := HNO.out
   rw [List.take_length] at h1
   exact ⟨-1, rfl, by rw [List.any_eq_false.2 fun o ho => by simp [h1 o ho]]; rfl, HX.out⟩
  case pos =>
   obtain ⟨g, off, rfl⟩ := HNE.out (by intro e; have := congrArg List.length e; rw [yav' yak'] at this; simp at this; omega)
   obtain ⟨E, hE⟩ := HX.out.poolGet HV.out
   have hl := ycs' (P := Tryz.prog) (f := OpS.cells) (i := i) hE yak' sn_op hlt
   have HTK := Lib.hid (show l.take (i + 1) = l.take i ++ [l[i]] from List.take_succ_eq_append_getElem hlt)
   have HIN := Lib.hid (show l[i] ∈ l from List.getElem_mem hlt)
   obtain ⟨o, ho⟩ : ∃ o, l[i] = o := ⟨_, rfl⟩
   rw [ho] at hl HTK HIN
   have q0 : decide (i < l.length) = true := decide_eq_true hlt
   clear hE ho
   go_wp2_with (first | refine v1 ?_ | (refine vS ?_; clear HX; intro w HX) | (refine vA ?_; clear HX; (first | (have hq := b; clear hq; intro w b2 HX) | intro w b HX)) | ((with_reducible apply yau' hl); (· rfl); (· rfl); simp only [Act.put, k_a, k_b, k_c]))
   refine (yv1' HX.out o).mono ?_
   obtain ⟨b, hb⟩ : ∃ b, yfd' o.kind = b := ⟨_, rfl⟩
   rw [hb]
   rintro e w ⟨rfl, hx⟩
   clear HX hl
   have HX := Lib.hid hx
   clear hx
   cases b with
   | true =>
    go_wp2_with (first | refine v1 ?_ | (refine vS ?_; clear HX; intro w HX) | (refine vA ?_; clear HX; (first | (have hq := b; clear hq; intro w b2 HX) | intro w b HX)))
    go_ret
    refine ⟨(i : Int), rfl, ?_, HX.out⟩
    rw [List.any_eq_true.2 ⟨o, HIN.out, hb⟩]
    exact decide_eq_true (by omega)
   | false =>
    have HB := Lib.hid hb
    clear hb
    go_wp2_with (first | refine v1 ?_ | (refine vS ?_; clear HX; intro w HX) | (refine vA ?_; clear HX; (first | (have hq := b; clear hq; intro w b2 HX) | intro w b HX)))
    go_roundg (l.length - (i + 1))
    case rel => exact ⟨i + 1, by omega, by go_num, by
     rw [HTK.out]
     intro q hq
     rcases List.mem_append.1 hq with hq | hq
     ·exact HNO.out q hq
     ·rw [List.mem_singleton] at hq; rw [hq]; exact HB.out, HX.out⟩
    case measure => omega
set_option maxRecDepth 100000 in
theorem yqi' (h : Sep w0 w (yab' w0 P :: R) rows) (l : List OpS) (v : Value) (hv : (5, v, l.flatMap OpS.cells) ∈ P) (hn : l.length ≤ 100000) :
  Calls Tryz.prog 137 #[v, y0k'] w fun e w' => e = .returned (.bool (l.any fun o => yfd' o.kind)) ∧ Sep w0 w' (yab' w0 P :: R) rows := by
 have HC := Lib.hid (ysl' h l v hv hn)
 clear h hv hn
 obtain ⟨b, hb⟩ : ∃ b, (l.any fun o => yfd' o.kind) = b := ⟨_, rfl⟩
 rw [hb] at HC ⊢
 clear hb
 go_enter Tryz.func137, Tryz.ntmps137
 go_wp2_with fail
 refine HC.out.mono ?_
 rintro e w ⟨r, rfl, hr, hS⟩
 have HX := Lib.hid hS
 clear hS HC
 go_wp2_with fail
 go_ret
 refine ⟨?_, HX.out⟩
 rw [← hr]
 rfl
set_option maxRecDepth 100000 in
set_option maxHeartbeats 4000000 in
theorem yi2' (h : Sep w0 w (yab' w0 P :: R) rows) (hd : DoorN w0) (sess num : Int) (l : List OpS) (v : Value) (hv : (5, v, l.flatMap OpS.cells) ∈ P) (hp : ∀ o ∈ l, o.path.size ≤ 100000) :
  Calls Tryz.prog 60 #[.agg #[.int .i64 sess, .int .i64 num, v]] w fun e w' => e = .returned (.int .i64 (mayS sess num l)) ∧ Sep w0 w' (yab' w0 P :: R) rows := by
 obtain ⟨E, hE⟩ := h.poolGet hv
 obtain ⟨a, n, c, rfl, hl0, -, -, hne⟩ := ReadRow.some hE
 rw [yav' yak'] at hl0
 obtain rfl : l.length = n := by omega
 have HNE := Lib.hid hne
 have HV := Lib.hid hv
 have HX := Lib.hid h
 have HPS := Lib.hid hp
 clear h hE hne hv hl0 hp
 obtain ⟨m, hm⟩ : ∃ m, mayS sess num l = m := ⟨_, rfl⟩
 rw [hm]
 have HM := Lib.hid hm
 clear hm
 by_cases h1 : sess < 1 ∨ num < 1 ∨ l.length = 0
 ·obtain rfl : m = 1 := by rw [← HM.out]; unfold mayS; rw [if_pos h1]
  by_cases h2 : sess < 1
  ·have q1 : decide (sess < 1) = true := decide_eq_true h2
   go_enter Tryz.func60, Tryz.ntmps60
   go_wp2_with (first | refine v1 ?_ | (refine vS ?_; clear HX; intro w HX) | (refine vA ?_; clear HX; (first | (have hq := b; clear hq; intro w b2 HX) | intro w b HX)))
   go_ret
   exact ⟨rfl, HX.out.drop⟩
  ·have q1 : decide (sess < 1) = false := decide_eq_false h2
   by_cases h3 : num < 1
   ·have q2 : decide (num < 1) = true := decide_eq_true h3
    go_enter Tryz.func60, Tryz.ntmps60
    go_wp2_with (first | refine v1 ?_ | (refine vS ?_; clear HX; intro w HX) | (refine vA ?_; clear HX; (first | (have hq := b; clear hq; intro w b2 HX) | intro w b HX)))
    go_ret
    exact ⟨rfl, HX.out.drop⟩
   ·have q2 : decide (num < 1) = false := decide_eq_false h3
    have h4 : l.length = 0 := by omega
    have q3 : ((l.length : Int) == 0) = true := by rw [h4]; rfl
    go_enter Tryz.func60, Tryz.ntmps60
    go_wp2_with (first | refine v1 ?_ | (refine vS ?_; clear HX; intro w HX) | (refine vA ?_; clear HX; (first | (have hq := b; clear hq; intro w b2 HX) | intro w b HX)))
    go_ret
    exact ⟨rfl, HX.out.drop⟩
 have q1 : decide (sess < 1) = false := decide_eq_false (fun hh => h1 (.inl hh))
 have q2 : decide (num < 1) = false := decide_eq_false (fun hh => h1 (.inr (.inl hh)))
 have q3 : ((l.length : Int) == 0) = false := by rw [beq_eq_false_iff_ne]; omega
 by_cases h2 : 16 < l.length
 ·obtain rfl : m = 2 := by rw [← HM.out]; unfold mayS; rw [if_neg h1, if_pos h2]
  have q4 : decide (16 < l.length) = true := decide_eq_true h2
  have q5 : decide (16 < (l.length : Int)) = true := decide_eq_true (by omega)
  go_enter Tryz.func60, Tryz.ntmps60
  go_wp2_with (first | refine v1 ?_ | (refine vS ?_; clear HX; intro w HX) | (refine vA ?_; clear HX; (first | (have hq := b; clear hq; intro w b2 HX) | intro w b HX)))
  go_ret
  exact ⟨rfl, HX.out.drop⟩
 have q4 : decide (16 < l.length) = false := decide_eq_false h2
 have q5 : decide (16 < (l.length : Int)) = false := decide_eq_false (by omega)
 have HMM := Lib.hid (show (if yeh' l ≠ 0 then yeh' l else if 1 < l.length ∧ (l.any fun o => yfd' o.kind) = true then 1 else 0) = m by rw [← HM.out]; unfold mayS; rw [if_neg h1, if_neg h2])
 have hl1 : 1 ≤ l.length ∧ l.length ≤ 16 := by omega
 clear HM
 go_enter Tryz.func60, Tryz.ntmps60
 go_wp2_with (first | refine v1 ?_ | (refine vS ?_; clear HX; intro w HX) | (refine vA ?_; clear HX; (first | (have hq := b; clear hq; intro w b2 HX) | intro w b HX)))
 clear q1 q2 q3 q4 q5 h1 h2
 have HST := HX
 go_loopg [29] l.length (fun k v wr => ∃ i : Nat, i + k = l.length ∧ v = .int .i64 (i : Int) ∧ (∀ o ∈ l.take i, yb5' o = 0) ∧ Sep w0 wr (yac' b (.cells #[.int .i64 sess, .int .i64 num, .slice a l.length c] 42 (0, 0)) :: yab' w0 P :: R) rows)
 case atStart => exact ⟨0, by simp, rfl, by simp, HX.out⟩
 case round =>
  rename World => w
  obtain ⟨i, hik, rfl, hok, hS⟩ := hrel
  clear HX HST
  have HX := Lib.hid hS
  have HOK := Lib.hid hok
  clear hS hok
  by_cases hlt : i < l.length
  case neg =>
   obtain rfl : i = l.length := by omega
   clear hlt hik
   have hf : yeh' l = 0 := yn7' (by have := HOK.out; rwa [List.take_length] at this)
   have hmm := HMM.out
   rw [if_neg (fun hh => hh hf)] at hmm
   by_cases h3 : 1 < l.length
   ·have q1 : decide (1 < l.length) = true := decide_eq_true h3
    have q2 : decide (1 < (l.length : Int)) = true := decide_eq_true (by omega)
    have HMM2 := Lib.hid hmm
    clear hmm hf HMM
    go_wp2_with (first | refine v1 ?_ | (refine vS ?_; clear HX; intro w HX) | (refine vA ?_; clear HX; (first | (have hq := b; clear hq; intro w b2 HX) | intro w b HX)))
    refine (yqi' HX.out.up1 l _ HV.out (by omega)).mono ?_
    obtain ⟨bb, hbb⟩ : ∃ bb, (l.any fun o => yfd' o.kind) = bb := ⟨_, rfl⟩
    rw [hbb] at HMM2 ⊢
    rintro e w ⟨rfl, hx⟩
    replace HX := Lib.hid hx
    clear hx
    cases bb with
    | true =>
     obtain rfl : m = 1 := by rw [← HMM2.out, if_pos ⟨h3, rfl⟩]
     go_wp2_with (first | refine v1 ?_ | (refine vS ?_; clear HX; intro w HX) | (refine vA ?_; clear HX; (first | (have hq := b; clear hq; intro w b2 HX) | intro w b HX)))
     go_ret
     exact ⟨rfl, HX.out.cut1⟩
    | false =>
     obtain rfl : m = 0 := by rw [← HMM2.out, if_neg (fun hh => by cases hh.2)]
     go_wp2_with (first | refine v1 ?_ | (refine vS ?_; clear HX; intro w HX) | (refine vA ?_; clear HX; (first | (have hq := b; clear hq; intro w b2 HX) | intro w b HX)))
     go_ret
     exact ⟨rfl, HX.out.cut1⟩
   ·have q1 : decide (1 < l.length) = false := decide_eq_false h3
    have q2 : decide (1 < (l.length : Int)) = false := decide_eq_false (by omega)
    obtain rfl : m = 0 := by rw [← hmm, if_neg (fun hh => h3 hh.1)]
    go_wp2_with (first | refine v1 ?_ | (refine vS ?_; clear HX; intro w HX) | (refine vA ?_; clear HX; (first | (have hq := b; clear hq; intro w b2 HX) | intro w b HX)))
    go_ret
    exact ⟨rfl, HX.out.drop⟩
  case pos =>
   obtain ⟨g, off, rfl⟩ := HNE.out (by intro e; have := congrArg List.length e; rw [yav' yak'] at this; simp at this; omega)
   obtain ⟨E, hE⟩ := HX.out.up1.poolGet HV.out
   have hl := ycs' (P := Tryz.prog) (f := OpS.cells) (i := i) hE yak' sn_op hlt
   have HTK := Lib.hid (show l.take (i + 1) = l.take i ++ [l[i]] from List.take_succ_eq_append_getElem hlt)
   have HPO := Lib.hid (HPS.out l[i] (List.getElem_mem hlt))
   have HFE := Lib.hid (fun hb => ysc' hlt HOK.out hb)
   obtain ⟨o, ho⟩ : ∃ o, l[i] = o := ⟨_, rfl⟩
   rw [ho] at hl HTK HPO HFE
   have q0 : decide (i < l.length) = true := decide_eq_true hlt
   obtain ⟨kind, path, data, ver, flags⟩ := o
   simp only [OpS.cells] at hl
   clear hE ho
   go_wp2_with (first | refine v1 ?_ | (refine vS ?_; clear HX; intro w HX) | (refine vA ?_; clear HX; (first | (have hq := b; clear hq; intro w b2 HX) | intro w b HX)) | ((with_reducible apply yau' hl); (· rfl); (· rfl); simp only [Act.put, k_a, k_b, k_c]))
   obtain ⟨ge, hge⟩ : ∃ ge, yb5' ⟨kind, path, data, ver, flags⟩ = ge := ⟨_, rfl⟩
   have hgo := yj8' ⟨kind, path, data, ver, flags⟩ _ (hd.sep HX.out) HPO.out
   rw [hge] at hgo HFE
   refine hgo.mono ?_
   rintro e w1 ⟨rfl, hu⟩
   replace HX := Lib.hid (HX.out.keep hu)
   have HGE := Lib.hid hge
   clear hu hgo hl hge
   by_cases h0 : ge = 0
   ·have q1 : (ge != 0) = false := by rw [h0]; rfl
    go_wp2_with (first | refine v1 ?_ | (refine vS ?_; clear HX; intro w HX) | (refine vA ?_; clear HX; (first | (have hq := b; clear hq; intro w b2 HX) | intro w b HX)))
    go_roundg (l.length - (i + 1))
    case rel => exact ⟨i + 1, by omega, by go_num, by
     rw [HTK.out]
     intro q hq
     rcases List.mem_append.1 hq with hq | hq
     ·exact HOK.out q hq
     ·rw [List.mem_singleton] at hq; rw [hq, HGE.out, h0], HX.out.drop⟩
    case measure => omega
   ·have q1 : (ge != 0) = true := by rw [bne_iff_ne]; exact h0
    obtain rfl : m = ge := by
     have := HMM.out
     rw [HFE.out h0, if_pos h0] at this
     exact this.symm
    go_wp2_with (first | refine v1 ?_ | (refine vS ?_; clear HX; intro w HX) | (refine vA ?_; clear HX; (first | (have hq := b; clear hq; intro w b2 HX) | intro w b HX)))
    go_ret
    exact ⟨rfl, HX.out.drop.drop⟩
def yyd' (w0 : World) (t : Nat) (P : List PRow) (R : List Thing) (rows : List (Value × Bs)) (m : ReplyS × TreeS) (e : Ending) (w' : World) : Prop :=
 ∃ v P', e = .returned v ∧ (∀ q ∈ P, q ∈ P') ∧ yf5' P' m.1 v ∧ Sep w0 w' (yab' w0 P' :: yaj' t m.2 P' :: R) rows
set_option maxRecDepth 100000 in
set_option maxHeartbeats 4000000 in
theorem yom' {K : Nat} (h : Sep w0 w (yab' w0 P :: yaj' t S P :: R) rows) (hd : DoorN w0) (hB : TreeB K S) (hK : K + 16 ≤ 100000) (sess num zxid : Int) (ops : List OpS) (v : Value) (hv : (5, v, ops.flatMap OpS.cells) ∈ P) (hp : ∀ o ∈ ops, o.path.size ≤ 100000) :
  Calls Tryz.prog 63 #[.pointer (some ⟨t, 0, none⟩), .agg #[.int .i64 sess, .int .i64 num, v], .int .i64 zxid] w (yyd' w0 t P R rows (ya3' S sess num zxid ops)) := by
 obtain ⟨E, hE⟩ := h.poolGet hv
 obtain ⟨a, n, c, rfl, -⟩ := ReadRow.some hE
 have HV := Lib.hid hv
 have HX := Lib.hid h
 have HPS := Lib.hid hp
 have HB := Lib.hid (show _ ∧ _ from ⟨hB, hK⟩)
 obtain ⟨rr, hrr⟩ : ∃ rr, ya3' S sess num zxid ops = rr := ⟨_, rfl⟩
 rw [hrr]
 have HRR := Lib.hid hrr
 clear h hE hv hp hB hK hrr
 obtain ⟨me, hme⟩ : ∃ me, mayS sess num ops = me := ⟨_, rfl⟩
 have HME := Lib.hid hme
 clear hme
 go_enter Tryz.func63, Tryz.ntmps63
 go_wp2_with (first | refine v1 ?_ | (refine vS ?_; clear HX; intro w HX) | (refine vA ?_; clear HX; (first | (have hq := b; clear hq; intro w b2 HX) | intro w b HX)))
 refine (yi2' HX.out.up2 hd sess num ops _ HV.out HPS.out).mono ?_
 rw [HME.out]
 rintro e w ⟨rfl, hx⟩
 replace HX := Lib.hid hx
 clear hx
 by_cases h0 : me = 0
 ·have q1 : (me != 0) = false := by rw [h0]; rfl
  have HE := Lib.hid (show rr = (⟨num, zxid, (ybv' S sess zxid ops).1.err, (ybv' S sess zxid ops).1.at_, (ybv' S sess zxid ops).1.rs⟩, (ybv' S sess zxid ops).2.1) by rw [← HRR.out]; unfold ya3'; rw [if_neg (fun hh => hh (HME.out.trans h0))])
  clear h0
  go_wp2_with (first | refine v1 ?_ | (refine vS ?_; clear HX; intro w HX) | (refine vA ?_; clear HX; (first | (have hq := b; clear hq; intro w b2 HX) | intro w b HX)))
  refine (yhs' HX.out.up3.up1 hd HB.out.1 HB.out.2 sess zxid ops _ HV.out HPS.out).mono ?_
  obtain ⟨⟨⟨n1, z1, e1, a1, rs1⟩, S1, ok1⟩, hm1⟩ : ∃ m1, ybv' S sess zxid ops = m1 := ⟨_, rfl⟩
  rw [hm1] at HE ⊢
  rintro e w ⟨v, P', rfl, hP', ⟨a9, n9, c9, xs9, rfl, hrl9, hmem9⟩, hx⟩
  clear HX hm1
  have HX := Lib.hid hx
  have HPN := Lib.hid (show _ ∧ _ ∧ _ from ⟨hP', hrl9, hmem9⟩)
  clear hx hP' hrl9 hmem9
  dsimp only at HX HE HPN ⊢
  go_wp2_with (first | refine v1 ?_ | (refine vS ?_; clear HX; intro w HX) | (refine vA ?_; clear HX; (first | (have hq := b; clear hq; intro w b2 HX) | intro w b HX)))
  refine ya9' HX rfl rfl (by (repeat (first | (with_reducible exact k_s) | (with_reducible apply k_m)))) (by kernel_rfl) ?_
  rw [HE.out]
  exact ⟨_, P', rfl, HPN.out.1, ⟨a9, n9, c9, xs9, rfl, HPN.out.2.1, HPN.out.2.2⟩, HX.out.pm 5 [1, 2] rfl rfl⟩
 ·have q1 : (me != 0) = true := by rw [bne_iff_ne]; exact h0
  have HE := Lib.hid (show rr = (yeg' num me (-1) 0, S) by rw [← HRR.out]; unfold ya3'; rw [HME.out, if_pos h0])
  clear h0
  go_wp2_with (first | refine v1 ?_ | (refine vS ?_; clear HX; intro w HX) | (refine vA ?_; clear HX; (first | (have hq := b; clear hq; intro w b2 HX) | intro w b HX)))
  refine (yep' HX.out _ _ _ _).mono ?_
  rintro e w ⟨v, P', rfl, hP', ⟨a', n', c', xs', rfl, hrl, hmem⟩, hx⟩
  replace HX := Lib.hid hx
  have HPN := Lib.hid (show _ ∧ _ ∧ _ from ⟨hP', hrl, hmem⟩)
  clear hx hP' hrl hmem
  dsimp only at HX ⊢
  go_wp2_with (first | refine v1 ?_ | (refine vS ?_; clear HX; intro w HX) | (refine vA ?_; clear HX; (first | (have hq := b; clear hq; intro w b2 HX) | intro w b HX)))
  refine ya9' HX rfl rfl (by (repeat (first | (with_reducible exact k_s) | (with_reducible apply k_m)))) (by kernel_rfl) ?_
  rw [HE.out]
  exact ⟨_, P', rfl, HPN.out.1, ⟨a', n', c', xs', rfl, HPN.out.2.1, HPN.out.2.2⟩, (yaz' HX.out.up3 HPN.out.1).pm 4 [1, 0] rfl rfl⟩
end
end Go.Proofs.YtcnkifbjlihaoaaGreatDoor

namespace Go.Av
open Go.RowKit
def opB (o : OpS) : Bs := yah' o.kind ++ (yd2' o.p ++ (yd2' o.data.data.toList ++ (yah' o.ver ++ yah' o.flags)))
def putR (sess num : Int) (ops : List OpS) : Bs := if mayS sess num ops ≠ 0 then [] else yah' sess ++ (yah' num ++ (yah' ops.length ++ ops.flatMap opB))
def shB (l : List Int) : Bs := yah' l.length ++ l.flatMap yah'
def bitI (b : Bool) : Int := if b then 1 else 0
structure CmdS where
 kind : Int
 id : Int
 sess : Int
 rs : Int
 rn : Int
 ops : List OpS
 shards : List Int
 shard : Int
 yes : Bool
def putC (c : CmdS) : Bs :=
 if c.kind = 1 then (yah' c.kind ++ yah' c.id) ++ yd2' (putR c.rs c.rn c.ops)
 else if c.kind = 2 then ((yah' c.kind ++ yah' c.id) ++ yah' c.sess ++ shB c.shards) ++ yd2' (putR c.sess c.id c.ops)
 else if c.kind = 3 then ((yah' c.kind ++ yah' c.id) ++ yah' c.sess) ++ shB c.shards
 else if c.kind = 4 then (yah' c.kind ++ yah' c.id) ++ yah' (bitI c.yes)
 else if c.kind = 5 then (yah' c.kind ++ yah' c.id) ++ shB c.shards
 else if c.kind = 6 then (yah' c.kind ++ yah' c.id) ++ yah' c.shard ++ yah' (bitI c.yes)
 else if c.kind = 7 then (yah' c.kind ++ yah' c.id) ++ yah' c.shard
 else if c.kind = 8 then yah' c.kind ++ yah' c.id
 else []
end Go.Av
namespace Go.Proofs.YtcnkifbjlihaoaaGreatDoor
open Go.RowKit Go.Av
def opR (d : Rd) : OpS × Rd := match i64R d with
 | (k, d1) => match ybq' 20000 d1 with
  | (p, d2) => match ybq' 20000 d2 with
   | (t, d3) => match i64R d3 with
    | (v, d4) => match i64R d4 with
     | (f, d5) => (⟨k, ⟨p.toArray⟩, ⟨t.toArray⟩, v, f⟩, d5)
def opsR : Nat → Rd → List OpS × Rd
 | 0, d => ([], d)
 | n + 1, d => ((opR d).1 :: (opsR n (opR d).2).1, (opsR n (opR d).2).2)
theorem yel' (n : Nat) (d : Rd) : opsR (n + 1) d = ((opR d).1 :: (opsR n (opR d).2).1, (opsR n (opR d).2).2) := by rw [opsR]
theorem ymw' : ∀ (n : Nat) (d : Rd), opsR (n + 1) d = ((opsR n d).1 ++ [(opR (opsR n d).2).1], (opR (opsR n d).2).2)
 | 0, d => by
  rw [yel', show opsR 0 d = ([], d) from rfl]
  generalize opR d = x
  rfl
 | n + 1, d => by
  have ih := ymw' n (opR d).2
  rw [yel' (n + 1) d, yel' n d, ih]
  generalize opR d = x
  rw [List.cons_append]
theorem ypk' : ∀ (n : Nat) (d : Rd), (opsR n d).1.length = n
 | 0, d => rfl
 | n + 1, d => by rw [yel', List.length_cons, ypk' n]
def endR (d : Rd) : Bool := !d.2 && d.1.isEmpty
theorem yzf' {o : OpS} (hg : yb5' o = 0) : (opB o).length ≤ 1240 := by
 obtain ⟨h1, h2, -, -⟩ := ydm' hg
 have hp := yb8' (yc2' h1).2.2.1
 have hds : o.data.size = o.data.data.toList.length := (Array.length_toList).symm
 unfold opB yd2'
 simp only [List.length_append, yar']
 omega
theorem ylg' : ∀ (l : List OpS), (∀ o ∈ l, yb5' o = 0) → (l.flatMap opB).length ≤ 1240 * l.length
 | [], _ => Nat.le_refl _
 | o :: l, h => by
  have h1 := yzf' (h o k_s)
  have h2 := ylg' l (fun q hq => h q (k_n _ hq))
  rw [List.flatMap_cons, List.length_append, List.length_cons]
  omega
def rawR (b : Bs) : (Int × Int × List OpS) × Rd :=
 (((i64R (b, false)).1, (i64R (i64R (b, false)).2).1, (opsR (cntR 16 (i64R (i64R (b, false)).2).2).1.toNat (cntR 16 (i64R (i64R (b, false)).2).2).2).1), (opsR (cntR 16 (i64R (i64R (b, false)).2).2).1.toNat (cntR 16 (i64R (i64R (b, false)).2).2).2).2)
def getR (b : Bs) : Option (Int × Int × List OpS) := if endR (rawR b).2 = true ∧ mayS (rawR b).1.1 (rawR b).1.2.1 (rawR b).1.2.2 = 0 then some (rawR b).1 else none
def FitO (o : OpS) : Prop := -9223372036854775808 ≤ o.ver ∧ o.ver ≤ 9223372036854775807
theorem yzg' {o : OpS} (hg : yb5' o = 0) (hf : FitO o) (x : Bs) (bad : Bool) : opR (opB o ++ x, bad) = (o, x, bad) := by
 obtain ⟨h1, h2, -, -⟩ := ydm' hg
 obtain ⟨f1, f2, f3, f4, f5, f6⟩ := yc2' h1
 have hp := yb8' f3
 have hps : o.path.size = o.p.length := by unfold OpS.p; exact (Array.length_toList).symm
 have hds : o.data.size = o.data.data.toList.length := (Array.length_toList).symm
 obtain ⟨kind, path, data, ver, flags⟩ := o
 have e1 : i64R (opB ⟨kind, path, data, ver, flags⟩ ++ x, bad) = (kind, yd2' path.data.toList ++ (yd2' data.data.toList ++ (yah' ver ++ (yah' flags ++ x))), bad) := by
  have : opB ⟨kind, path, data, ver, flags⟩ ++ x = yah' kind ++ (yd2' path.data.toList ++ (yd2' data.data.toList ++ (yah' ver ++ (yah' flags ++ x)))) := by
   unfold opB OpS.p
   simp only [List.append_assoc]
  rw [this]
  exact yds' kind _ bad (by dsimp only at f1; omega) (by dsimp only at f2; omega)
 have e2 := yh4' 20000 path.data.toList (yd2' data.data.toList ++ (yah' ver ++ (yah' flags ++ x))) bad (by dsimp only [OpS.p] at hp; omega) (by omega)
 have e3 := yh4' 20000 data.data.toList (yah' ver ++ (yah' flags ++ x)) bad (by dsimp only at hds h2; omega) (by omega)
 have e4 := yds' ver (yah' flags ++ x) bad hf.1 hf.2
 have e5 := yds' flags x bad (by dsimp only at f5; omega) (by dsimp only at f6; omega)
 unfold opR
 rw [e1]
 dsimp only
 rw [e2]
 dsimp only
 rw [e3]
 dsimp only
 rw [e4]
 dsimp only
 rw [e5]
theorem ypl' : ∀ (l : List OpS) (x : Bs) (bad : Bool), (∀ o ∈ l, yb5' o = 0 ∧ FitO o) → opsR l.length (l.flatMap opB ++ x, bad) = (l, x, bad)
 | [], x, bad, _ => rfl
 | o :: l, x, bad, h => by
  have h1 := h o k_s
  rw [List.length_cons, yel', List.flatMap_cons, List.append_assoc, yzg' h1.1 h1.2]
  dsimp only
  rw [ypl' l x bad (fun q hq => h q (k_n _ hq))]
end Go.Proofs.YtcnkifbjlihaoaaGreatDoor
namespace Go.Av
theorem yob' {sess num : Int} {l : List OpS} (h : mayS sess num l = 0) : 1 ≤ sess ∧ 1 ≤ num ∧ l.length ≤ 16 ∧ l ≠ [] := by
 unfold mayS at h
 split at h
 ·cases h
 ·rename_i h1
  split at h
  ·cases h
  ·rename_i h2
   refine ⟨by omega, by omega, by omega, ?_⟩
   rintro rfl
   exact h1 (.inr (.inr rfl))
theorem ylc' {sess num : Int} {l : List OpS} (h : mayS sess num l = 0) : ∀ o ∈ l, yb5' o = 0 := by
 unfold mayS at h
 split at h
 ·cases h
 ·split at h
  ·cases h
  ·split at h
   ·rename_i h3; exact absurd h h3
   ·rename_i h3
    intro o ho
    have h3 : yeh' l = 0 := by simpa using h3
    unfold yeh' at h3
    cases hf : l.find? (fun o => yb5' o != 0) with
    | none =>
     have := List.find?_eq_none.1 hf o ho
     simpa using this
    | some q =>
     rw [hf] at h3
     have := List.find?_some hf
     rw [bne_iff_ne] at this
     exact absurd h3 this
end Go.Av
namespace Go.Proofs.YtcnkifbjlihaoaaGreatDoor
open Go.RowKit Go.Av
theorem ygy' (sess num : Int) (l : List OpS) : (putR sess num l).length ≤ 19864 := by
 unfold putR
 split
 ·simp
 ·rename_i h
  have h : mayS sess num l = 0 := by omega
  have h1 := (yob' h).2.2.1
  have h2 := ylg' l (ylc' h)
  simp only [List.length_append, yar']
  omega
theorem ywh' {sess num : Int} {l : List OpS} (h : mayS sess num l = 0) (hs : sess ≤ 9223372036854775807) (hn : num ≤ 9223372036854775807) (hf : ∀ o ∈ l, FitO o) : rawR (putR sess num l) = ((sess, num, l), [], false) := by
 obtain ⟨h1, h2, h3, -⟩ := yob' h
 have hg := ylc' h
 unfold putR rawR
 rw [if_neg (fun hh => hh h)]
 have e1 := yds' sess (yah' num ++ (yah' l.length ++ l.flatMap opB)) false (by omega) hs
 have e2 := yds' num (yah' l.length ++ l.flatMap opB) false (by omega) hn
 have e3 := yl3' 16 l.length (l.flatMap opB) false (by omega) (by omega) (by omega)
 have e4 := ypl' l [] false (fun o ho => ⟨hg o ho, hf o ho⟩)
 rw [List.append_nil] at e4
 rw [e1]
 dsimp only
 rw [e2]
 dsimp only
 rw [e3]
 dsimp only
 rw [Int.toNat_natCast, e4]
theorem yvq' {sess num : Int} {l : List OpS} (h : mayS sess num l = 0) (hs : sess ≤ 9223372036854775807) (hn : num ≤ 9223372036854775807) (hf : ∀ o ∈ l, FitO o) : getR (putR sess num l) = some (sess, num, l) := by
 unfold getR
 rw [ywh' h hs hn hf, if_pos ⟨rfl, h⟩]
theorem yvp' : getR [] = none := by
 unfold getR
 rw [if_neg]
 rintro ⟨h, -⟩
 cases h
end Go.Proofs.YtcnkifbjlihaoaaGreatDoor

namespace Go.Proofs.YtcnkifbjlihaoaaGreatDoor
open Go.RowKit Go.Av
theorem sl_x1 : SliceN Tryz.prog 53 2 1 8 := .of Tryz.underlying53 (by kernel_rfl)
section
variable {w0 w : World} {P P' : List PRow} {R : List Thing} {rows : List (Value × Bs)}
theorem yln' {K : Nat} {v : Value} {xs : List Value} (h : Sep w0 w (yaf' K v xs :: R) rows) : ∃ E, ReadRow w K v xs E := by
 obtain ⟨D, hD⟩ := h.fst
 obtain ⟨E, hE, -⟩ := OwnRow.read hD
 exact ⟨E, hE⟩
theorem yix' {v : Value} {l : Bs} (h : Sep w0 w (yaf' 1 v (l.map bv) :: R) rows) (x : Int) (hl : l.length ≤ 1000000) :
  Calls Tryz.prog 119 #[v, .int .i64 x] w fun e w' => ∃ v', e = .returned v' ∧ Sep w0 w' (yaf' 1 v' ((l ++ yah' x).map bv) :: R) rows := by
 obtain ⟨E, hE⟩ := yln' h
 refine (yfs' v l E x w hE (by omega)).mono ?_
 rintro e w' ⟨v', D, rfl, ho, hu⟩
 exact ⟨v', rfl, (h.drop).addRow ho hu⟩
theorem ylq' {v : Value} {l : Bs} (h : Sep w0 w (yaf' 1 v (l.map bv) :: R) rows) (s : ByteArray) (hl : l.length ≤ 1000000) (hs : s.size ≤ 1000000) :
  Calls Tryz.prog 116 #[v, .string s] w fun e w' => ∃ v', e = .returned v' ∧ Sep w0 w' (yaf' 1 v' ((l ++ yd2' s.data.toList).map bv) :: R) rows := by
 obtain ⟨E, hE⟩ := yln' h
 refine (yug' v l E s w hE hl hs).mono ?_
 rintro e w' ⟨v', D, rfl, ho, hu⟩
 exact ⟨v', rfl, (h.drop).addRow ho hu⟩
theorem ye2' {v : Value} {l : Bs} {c n : Nat} {xs : List Int} {T : TypeId} (h : Sep w0 w (yaf' 1 v (l.map bv) :: yac' c (.cells (xs.map ivn).toArray T (0, 0)) :: R) rows) (hn : xs.length = n) (hx : n ≤ 1000) (hl : l.length ≤ 1000000) :
  Calls Tryz.prog 115 #[v, .slice (some ⟨c, 0, none⟩) n n] w fun e w' => ∃ v', e = .returned v' ∧ Sep w0 w' (yaf' 1 v' ((l ++ xs.flatMap yah').map bv) :: R) rows := by
 obtain ⟨E, hE⟩ := yln' h
 have h1 := Sep.poolCell (K := 1) (n := n) (cs := xs.map ivn) (P := []) (h.up1.poolNew.up1) (by simp [hn]) hx
 obtain ⟨F, hF⟩ := h1.poolGet k_s
 refine (yyi' v _ l xs E F w hE hF hl (by omega)).mono ?_
 rintro e w' ⟨v', D, rfl, ho, hu⟩
 exact ⟨v', rfl, (h.drop.drop).addRow ho hu⟩
def yip' (w0 : World) (l : Bs) (R : List Thing) (rows : List (Value × Bs)) (e : Ending) (w' : World) : Prop :=
 ∃ v, e = .returned v ∧ Sep w0 w' (yaf' 1 v (l.map bv) :: R) rows
def yxf' (w0 : World) (b : Nat) (l0 : Bs) (req : Array Value) (ops : List OpS) (P : List PRow) (R : List Thing) (rows : List (Value × Bs)) (k : Nat) (v3 v21 : Value) (w : World) : Prop :=
 ∃ (i : Nat), i + k = ops.length ∧ v21 = .int .i64 (i : Int) ∧ Sep w0 w (yaf' 1 v3 ((l0 ++ (ops.take i).flatMap opB).map bv) :: yac' b (.cells req 42 (0, 0)) :: yab' w0 P :: R) rows
set_option maxRecDepth 100000 in
set_option maxHeartbeats 4000000 in
theorem ymv' (h : Sep w0 w (yab' w0 P :: R) rows) (hd : DoorN w0) (sess num : Int) (ops : List OpS) (v : Value) (hv : (5, v, ops.flatMap OpS.cells) ∈ P) (hp : ∀ o ∈ ops, o.path.size ≤ 100000) :
  Calls Tryz.prog 117 #[.agg #[.int .i64 sess, .int .i64 num, v]] w (yip' w0 (putR sess num ops) (yab' w0 P :: R) rows) := by
 obtain ⟨E, hE⟩ := h.poolGet hv
 obtain ⟨a, n, c, rfl, hl0, -, -, hne⟩ := ReadRow.some hE
 rw [yav' yak'] at hl0
 obtain rfl : ops.length = n := by omega
 have HNE := Lib.hid hne
 have HV := Lib.hid (show _ ∧ _ from ⟨hv, hp⟩)
 have HX := Lib.hid h
 obtain ⟨bs, hbs⟩ : ∃ bs, putR sess num ops = bs := ⟨_, rfl⟩
 rw [hbs]
 have HBS := Lib.hid hbs
 clear h hE hne hv hp hl0 hbs
 go_enter Tryz.func117, Tryz.ntmps117
 go_wp2_with (first | refine u0 ?_ | (refine uS ?_; clear HX; intro w HX) | (refine uA ?_; clear HX; (first | (have hq := b2; clear hq; intro w b3 HX) | (have hq := b; clear hq; intro w b2 HX) | intro w b HX)))
 refine (yi2' HX.out.up1 hd sess num ops _ HV.out.1 HV.out.2).mono ?_
 obtain ⟨me, hme⟩ : ∃ me, mayS sess num ops = me := ⟨_, rfl⟩
 rw [hme]
 have HME := Lib.hid hme
 rintro e w ⟨rfl, hx⟩
 clear HX hme
 have HX := Lib.hid hx
 clear hx
 by_cases h0 : me = 0
 case neg =>
  have q1 : (me != 0) = true := by rw [bne_iff_ne]; exact h0
  obtain rfl : bs = [] := by rw [← HBS.out]; unfold putR; rw [HME.out, if_pos h0]
  clear h0
  go_wp2_with (first | refine u0 ?_ | (refine uS ?_; clear HX; intro w HX) | (refine uA ?_; clear HX; (first | (have hq := b2; clear hq; intro w b3 HX) | (have hq := b; clear hq; intro w b2 HX) | intro w b HX)))
  go_ret
  exact ⟨_, rfl, HX.out.up1.drop.nilRow 1⟩
 case pos =>
  subst h0
  have hg := ylc' HME.out
  have hn := yob' HME.out
  have HGD := Lib.hid (show _ ∧ _ from ⟨hn.2.2.1, hg⟩)
  clear hn
  have hb0 := HBS.out
  unfold putR at hb0
  rw [HME.out, if_neg (fun hh => hh rfl)] at hb0
  have HB0 := Lib.hid hb0
  clear hb0 hg HBS
  go_wp2_with (first | refine u0 ?_ | (refine uS ?_; clear HX; intro w HX) | (refine uA ?_; clear HX; (first | (have hq := b2; clear hq; intro w b3 HX) | (have hq := b; clear hq; intro w b2 HX) | intro w b HX)))
  refine (ye2' (l := []) (xs := [sess, num, (ops.length : Int)]) (n := 3) ((HX.out.newCell _).nilRow 1) rfl (by omega) (by simp)).mono ?_
  rintro e w ⟨v3, rfl, hx⟩
  rw [List.nil_append] at hx
  obtain ⟨l0, hl0⟩ : ∃ l0, [sess, num, (ops.length : Int)].flatMap yah' = l0 := ⟨_, rfl⟩
  rw [hl0] at hx
  have HL0 := Lib.hid hl0
  have HN0 := Lib.hid (show l0.length = 24 by rw [← hl0]; rfl)
  clear HX hl0
  have HX := Lib.hid hx
  clear hx
  go_wp2_with (first | refine u0 ?_ | (refine uS ?_; clear HX; intro w HX) | (refine uA ?_; clear HX; (first | (have hq := b2; clear hq; intro w b3 HX) | (have hq := b; clear hq; intro w b2 HX) | intro w b HX)))
  have HST := Lib.hid (show yxf' w0 b l0 #[.int .i64 sess, .int .i64 num, .slice a ops.length c] ops P R rows ops.length v3 (.int .i64 (0 : Int)) w from ⟨0, by simp, rfl, by rw [k_g, List.flatMap_nil, List.append_nil]; exact HX.out.pm 3 [0, 2, 1] rfl rfl⟩)
  clear HX
  go_loopg [3, 5, 21] ops.length (fun k v3 _ v21 wr => yxf' w0 b l0 #[.int .i64 sess, .int .i64 num, .slice a ops.length c] ops P R rows k v3 v21 wr)
  case atStart => exact HST.out
  case round =>
   rename World => w
   obtain ⟨i, hik, rfl, hS⟩ := hrel
   clear HST
   have HX := Lib.hid hS
   clear hS
   by_cases hlt : i < ops.length
   case neg =>
    obtain rfl : i = ops.length := by omega
    rw [List.take_length] at HX
    clear hlt hik
    go_wp2_with (first | refine u0 ?_ | (refine uS ?_; clear HX; intro w HX) | (refine uA ?_; clear HX; (first | (have hq := b2; clear hq; intro w b3 HX) | (have hq := b; clear hq; intro w b2 HX) | intro w b HX)))
    go_ret
    refine ⟨_, rfl, ?_⟩
    rw [← HB0.out]
    have e : yah' sess ++ (yah' num ++ (yah' (ops.length : Int) ++ ops.flatMap opB)) = l0 ++ ops.flatMap opB := by rw [← HL0.out]; simp [List.flatMap_cons]
    rw [e]
    exact HX.out.up1.drop
   case pos =>
    obtain ⟨g, off, rfl⟩ := HNE.out (by intro e; have := congrArg List.length e; rw [yav' yak'] at this; simp at this; omega)
    obtain ⟨E, hE⟩ := HX.out.up2.poolGet HV.out.1
    have hl := ycs' (P := Tryz.prog) (f := OpS.cells) (i := i) hE yak' sn_op hlt
    have hgd := HGD.out.2 ops[i] (List.getElem_mem hlt)
    have hbl : (l0 ++ (ops.take i).flatMap opB).length ≤ 20000 := by
     have h1 := ylg' (ops.take i) (fun o ho => HGD.out.2 o (List.mem_of_mem_take ho))
     have h2 := HN0.out
     have h3 := HGD.out.1
     rw [List.length_append]
     rw [List.length_take] at h1
     omega
    have hnx : l0 ++ (ops.take (i + 1)).flatMap opB = (l0 ++ (ops.take i).flatMap opB) ++ opB ops[i] := by
     rw [List.take_succ_eq_append_getElem hlt, List.flatMap_append, List.append_assoc]
     simp
    obtain ⟨bs, hbs⟩ : ∃ bs, l0 ++ (ops.take i).flatMap opB = bs := ⟨_, rfl⟩
    rw [hbs] at HX hbl hnx
    obtain ⟨o, ho⟩ : ∃ o, ops[i] = o := ⟨_, rfl⟩
    rw [ho] at hl hgd hnx
    obtain ⟨hg1, hg2, -, -⟩ := ydm' hgd
    have hg3 := yb8' (yc2' hg1).2.2.1
    have q0 : decide (i < ops.length) = true := decide_eq_true hlt
    have q9 : i ≤ 16 := by have := HGD.out.1; omega
    obtain ⟨kind, path, data, ver, flags⟩ := o
    dsimp only [OpS.p] at hg2 hg3
    have hps : path.size ≤ 200 := by rw [show path.size = path.data.toList.length from (Array.length_toList).symm]; exact hg3
    have HNX := Lib.hid hnx
    have HSZ := Lib.hid (show _ ∧ _ ∧ _ ∧ _ from ⟨hbl, hps, hg2, hg3⟩)
    simp only [OpS.cells] at hl
    clear hE ho hbs hgd hg1 hg2 hg3 hnx hbl hps
    go_wp2_with (first | refine u0 ?_ | (refine uS ?_; clear HX; intro w HX) | (refine uA ?_; clear HX; (first | (have hq := b2; clear hq; intro w b3 HX) | (have hq := b; clear hq; intro w b2 HX) | intro w b HX)) | ((with_reducible apply yau' hl); (· rfl); (· rfl); simp only [Act.put, k_a, k_b, k_c]))
    refine (yix' HX.out.up1 kind (by have := HSZ.out.1; omega)).mono ?_
    rintro e w ⟨v4, rfl, hx⟩
    clear HX hl
    have HX := Lib.hid hx
    clear hx
    go_wp2_with (first | refine u0 ?_ | (refine uS ?_; clear HX; intro w HX) | (refine uA ?_; clear HX; (first | (have hq := b2; clear hq; intro w b3 HX) | (have hq := b; clear hq; intro w b2 HX) | intro w b HX)))
    refine rM (fun W => (∃ Ts, Sep w0 W (yac' b2 (.cells #[.int .i64 kind, .string path, .string data, .int .i64 ver, .int .i64 flags] 89 (0, 0)) :: Ts) rows)) 7 ?_
    intro KEEPX
    replace HX := Lib.hid HX.out.drew
    have hl : ∀ V, (∃ Ts, Sep w0 V (yac' b2 (.cells #[.int .i64 kind, .string path, .string data, .int .i64 ver, .int .i64 flags] 89 (0, 0)) :: Ts) rows) → (Instr.loadAt 9 (.pointer (some ⟨b2, 1, none⟩))).run Tryz.prog V = .ok (.string path) V := by
     rintro V ⟨Ts, hV⟩
     exact yae' (by kernel_rfl) (yaa' hV.blk 1 rfl)
    have hl2 : ∀ V, (∃ Ts, Sep w0 V (yac' b2 (.cells #[.int .i64 kind, .string path, .string data, .int .i64 ver, .int .i64 flags] 89 (0, 0)) :: Ts) rows) → (Instr.loadAt 9 (.pointer (some ⟨b2, 2, none⟩))).run Tryz.prog V = .ok (.string data) V := by
     rintro V ⟨Ts, hV⟩
     exact yae' (by kernel_rfl) (yaa' hV.blk 2 rfl)
    refine rT [(0, false), (1, false), (2, true), (4, false), (5, true)] 3 ?_
    apply Exists.intro; refine ⟨?_, ⟨_, HX.out.up1⟩, ?_⟩
    ·iterate 5 (refine xE ?_)
     exact rfl
    clear hl hl2
    refine r1 2 3 fun K hK => ?_
    go_wp2_with fail
    refine (ylq' HX.out path (by have := HSZ.out.1; rw [List.length_append, yar']; omega) (by have := HSZ.out.2.1; omega)).mono ?_
    rintro e w ⟨v5, rfl, hx⟩
    replace HX := Lib.hid hx
    clear hx
    go_wp2_with fail
    refine hK _ _ ⟨_, HX.out.up1⟩ ?_
    clear hK
    refine r1 1 6 fun K hK => ?_
    go_wp2_with fail
    refine (ylq' HX.out data (by have := HSZ.out.1; have := HSZ.out.2.2.2; unfold yd2'; simp only [List.length_append, yar']; omega) (by have := HSZ.out.2.2.1; omega)).mono ?_
    rintro e w ⟨v6, rfl, hx⟩
    replace HX := Lib.hid hx
    clear hx
    go_wp2_with fail
    refine hK _ _ ⟨_, HX.out.up1⟩ ?_
    clear hK
    refine rL [7] 0 ?_
    simp only [List.filterMap_cons, List.filterMap_nil, k_i, k_j, k_k]
    go_wp2_with (first | refine u0 ?_ | (refine uS ?_; clear HX; intro w HX) | (refine uA ?_; clear HX; (first | (have hq := b2; clear hq; intro w b3 HX) | (have hq := b; clear hq; intro w b2 HX) | intro w b HX)))
    refine (ye2' (xs := [ver, flags]) (n := 2) ((HX.out.newCell _).up1) rfl (by omega) (by have := HSZ.out.1; have := HSZ.out.2.2.2; have h3 : data.data.toList.length ≤ 1000 := HSZ.out.2.2.1; unfold yd2'; simp only [List.length_append, yar']; omega)).mono ?_
    rintro e w ⟨v7, rfl, hx⟩
    have e7 : bs ++ opB ⟨kind, path, data, ver, flags⟩ = (bs ++ yah' kind ++ yd2' path.data.toList ++ yd2' data.data.toList) ++ [ver, flags].flatMap yah' := by
     unfold opB OpS.p
     simp [List.flatMap_cons, List.append_assoc]
    rw [← e7, ← HNX.out] at hx
    replace HX := Lib.hid hx
    clear hx e7
    go_wp2_with (first | refine u0 ?_ | (refine uS ?_; clear HX; intro w HX) | (refine uA ?_; clear HX; (first | (have hq := b2; clear hq; intro w b3 HX) | (have hq := b; clear hq; intro w b2 HX) | intro w b HX)))
    go_roundg (ops.length - (i + 1))
    case rel => exact ⟨i + 1, by omega, by go_num, HX.out.pm 4 [0, 2, 3] rfl rfl⟩
    case measure => omega
end
end Go.Proofs.YtcnkifbjlihaoaaGreatDoor

namespace Go.Proofs.YtcnkifbjlihaoaaGreatDoor
open Go.RowKit Go.Av
section
variable {w0 w : World} {P P' : List PRow} {R : List Thing} {rows : List (Value × Bs)}
theorem ym4' (h : Sep w0 w (yab' w0 P :: R) rows) (v : Value) (l : Bs) (hv : (1, v, l.map bv) ∈ P) (hl : l.length ≤ 1000000) :
  Calls Tryz.prog 101 #[v] w fun e w' => ∃ r, e = .returned (.pointer (some ⟨r, 0, none⟩)) ∧ Sep w0 w' (ydy' r (l, false) :: yab' w0 P :: R) rows := by
 obtain ⟨E, hE⟩ := h.poolGet hv
 refine (yzo' v l E w hE (by omega)).mono ?_
 rintro e w' ⟨r, D, rfl, hr, hu⟩
 exact ⟨r, rfl, h.add hu hr⟩
def yuu' (w0 : World) (o : Option (Int × Int × List OpS)) (P : List PRow) (R : List Thing) (rows : List (Value × Bs)) (e : Ending) (w' : World) : Prop :=
 ∃ vs P', e = .returned (.tuple #[.agg #[.int .i64 (o.getD (0, 0, [])).1, .int .i64 (o.getD (0, 0, [])).2.1, vs], .int .i64 (if o.isSome = true then 0 else 3)]) ∧ (∀ q ∈ P, q ∈ P') ∧ (5, vs, (o.getD (0, 0, [])).2.2.flatMap OpS.cells) ∈ P' ∧ Sep w0 w' (yab' w0 P' :: R) rows
def yxe' (w0 : World) (r b b2 : Nat) (s n : Int) (K : Nat) (d : Rd) (P : List PRow) (R : List Thing) (rows : List (Value × Bs)) (k : Nat) (v17 : Value) (w : World) : Prop :=
 ∃ (i : Nat) (a : Option Addr) (n' c' : Nat), i + k = K ∧ v17 = .int .i64 (i : Int) ∧ Sep w0 w (ydy' r (opsR i d).2 :: yac' b2 (.cells #[.int .i64 s, .int .i64 n, .slice a n' c'] 42 (0, 0)) :: yaf' 5 (.slice a n' c') ((opsR i d).1.flatMap OpS.cells) ::
  yac' b (.cells #[.int .i64 0, .int .i64 0, .slice none 0 0] 42 (0, 0)) :: yab' w0 P :: R) rows
theorem ynm' (most : Int) (d : Rd) (hm : 0 ≤ most) : ((ybq' most d).1.length : Int) ≤ most := by
 have h := yis' hm d
 unfold ybq'
 split
 ·simpa using hm
 ·simp only [List.length_take]
  omega
theorem yht' : ∀ (n : Nat) (d : Rd), ∀ o ∈ (opsR n d).1, o.path.size ≤ 20000
 | 0, d, o, h => by cases h
 | n + 1, d, o, h => by
  rw [yel'] at h
  rcases List.mem_cons.1 h with rfl | h
  ·obtain ⟨⟨k1, e1⟩, g1⟩ : ∃ x, i64R d = x := ⟨_, rfl⟩
   obtain ⟨⟨t2, e2⟩, g2⟩ : ∃ x, ybq' 20000 e1 = x := ⟨_, rfl⟩
   have hl := ynm' 20000 e1 (by omega)
   rw [g2] at hl
   unfold opR
   rw [g1]
   dsimp only
   rw [g2]
   dsimp only at hl ⊢
   show (⟨t2.toArray⟩ : ByteArray).size ≤ 20000
   have : (⟨t2.toArray⟩ : ByteArray).size = t2.length := by show t2.toArray.size = _; simp
   omega
  ·exact yht' n _ o h
set_option maxRecDepth 100000 in
set_option maxHeartbeats 4000000 in
theorem ys8' (h : Sep w0 w (yab' w0 P :: R) rows) (hd : DoorN w0) (v : Value) (l : Bs) (hv : (1, v, l.map bv) ∈ P) (hl : l.length ≤ 1000000) :
  Calls Tryz.prog 167 #[v] w (yuu' w0 (getR l) P R rows) := by
 have HV := Lib.hid (show _ ∧ _ from ⟨hv, hl⟩)
 have HX := Lib.hid h
 obtain ⟨o, ho⟩ : ∃ o, getR l = o := ⟨_, rfl⟩
 rw [ho]
 have HO := Lib.hid ho
 clear h hv hl ho
 obtain ⟨⟨s, d1⟩, h1⟩ : ∃ x, i64R (l, false) = x := ⟨_, rfl⟩
 obtain ⟨⟨n, d2⟩, h2⟩ : ∃ x, i64R d1 = x := ⟨_, rfl⟩
 obtain ⟨⟨kk, d3⟩, h3⟩ : ∃ x, cntR 16 d2 = x := ⟨_, rfl⟩
 have hb3 := yis' (most := 16) (by omega) d2
 rw [h3] at hb3
 dsimp only at hb3
 obtain ⟨K, rfl⟩ : ∃ K : Nat, kk = (K : Int) := ⟨kk.toNat, by omega⟩
 have HD := Lib.hid (show rawR l = ((s, n, (opsR K d3).1), (opsR K d3).2) by unfold rawR; rw [h1]; dsimp only; rw [h2]; dsimp only; rw [h3]; dsimp only; rw [Int.toNat_natCast])
 have H1 := Lib.hid h1
 have H2 := Lib.hid h2
 have H3 := Lib.hid h3
 have HK := Lib.hid (show K ≤ 16 by omega)
 clear h1 h2 h3 hb3
 go_enter Tryz.func167, Tryz.ntmps167
 go_wp2_with (first | refine u0 ?_ | (refine uS ?_; clear HX; intro w HX) | (refine uA ?_; clear HX; (first | (have hq := b2; clear hq; intro w b3 HX) | (have hq := b; clear hq; intro w b2 HX) | intro w b HX)) | (refine uP ?_; clear HX; intro w av nv cv HX))
 refine (ym4' HX.out.up1 v l HV.out.1 HV.out.2).mono ?_
 rintro e w ⟨r, rfl, hx⟩
 replace HX := Lib.hid hx
 clear hx
 go_wp2_with (first | refine u0 ?_ | (refine uS ?_; clear HX; intro w HX) | (refine uA ?_; clear HX; (first | (have hq := b2; clear hq; intro w b3 HX) | (have hq := b; clear hq; intro w b2 HX) | intro w b HX)) | (refine uP ?_; clear HX; intro w av nv cv HX))
 refine (ycf' HX.out).mono ?_
 rw [H1.out]
 rintro e w ⟨rfl, hx⟩
 replace HX := Lib.hid hx
 clear hx
 go_wp2_with (first | refine u0 ?_ | (refine uS ?_; clear HX; intro w HX) | (refine uA ?_; clear HX; (first | (have hq := b2; clear hq; intro w b3 HX) | (have hq := b; clear hq; intro w b2 HX) | intro w b HX)) | (refine uP ?_; clear HX; intro w av nv cv HX))
 refine (ycf' HX.out.up1).mono ?_
 rw [H2.out]
 rintro e w ⟨rfl, hx⟩
 replace HX := Lib.hid hx
 clear hx
 go_wp2_with (first | refine u0 ?_ | (refine uS ?_; clear HX; intro w HX) | (refine uA ?_; clear HX; (first | (have hq := b2; clear hq; intro w b3 HX) | (have hq := b; clear hq; intro w b2 HX) | intro w b HX)) | (refine uP ?_; clear HX; intro w av nv cv HX))
 refine (ycn' HX.out 16 (by omega)).mono ?_
 rw [H3.out]
 rintro e w ⟨rfl, hx⟩
 replace HX := Lib.hid hx
 clear hx
 go_wp2_with (first | refine u0 ?_ | (refine uS ?_; clear HX; intro w HX) | (refine uA ?_; clear HX; (first | (have hq := b2; clear hq; intro w b3 HX) | (have hq := b; clear hq; intro w b2 HX) | intro w b HX)) | (refine uP ?_; clear HX; intro w av nv cv HX))
 have HST := Lib.hid (show yxe' w0 r b b2 s n K d3 P R rows K (.int .i64 (0 : Int)) w from ⟨0, none, 0, 0, by omega, rfl, (HX.out.nilRow 5).pm 5 [1, 2, 0, 4, 3] rfl rfl⟩)
 clear HX
 go_loopg [6, 17] K (fun k _ v17 wr => yxe' w0 r b b2 s n K d3 P R rows k v17 wr)
 case atStart => exact HST.out
 case round =>
  rename World => w
  obtain ⟨i, a, n', c', hik, rfl, hS⟩ := hrel
  clear HST
  have HX := Lib.hid hS
  clear hS
  by_cases hlt : i < K
  case neg =>
   obtain rfl : i = K := by omega
   have q0 : decide ((i : Int) < (i : Int)) = false := decide_eq_false (by omega)
   have q1 : decide (i < i) = false := decide_eq_false (by omega)
   clear hlt hik
   have HPS := Lib.hid (yht' i d3)
   obtain ⟨⟨os, dd⟩, hod⟩ : ∃ x, opsR i d3 = x := ⟨_, rfl⟩
   rw [hod] at HX HPS HD
   have hgo : o = if endR dd = true ∧ mayS s n os = 0 then some (s, n, os) else none := by
    rw [← HO.out]
    unfold getR
    rw [HD.out]
   have HGO := Lib.hid hgo
   clear hgo hod HO
   go_wp2_with (first | refine u0 ?_ | (refine uS ?_; clear HX; intro w HX) | (refine uA ?_; clear HX; (first | (have hq := b2; clear hq; intro w b3 HX) | (have hq := b; clear hq; intro w b2 HX) | intro w b HX)) | (refine uP ?_; clear HX; intro w av nv cv HX))
   refine (ykf' HX.out).mono ?_
   obtain ⟨ze, hze⟩ : ∃ z, endR dd = z := ⟨_, rfl⟩
   have hze2 : (!dd.2 && dd.1.isEmpty) = ze := hze
   rw [hze2]
   rintro e w ⟨rfl, rfl⟩
   clear hze2
   rw [hze] at HGO
   cases ze with
   | false =>
    obtain rfl : o = none := HGO.out.trans (if_neg (by simp))
    go_wp2_with (first | refine u0 ?_ | (refine uS ?_; clear HX; intro w HX) | (refine uA ?_; clear HX; (first | (have hq := b2; clear hq; intro w b3 HX) | (have hq := b; clear hq; intro w b2 HX) | intro w b HX)) | (refine uP ?_; clear HX; intro w av nv cv HX))
    refine ydx' HX rfl rfl (by (repeat (first | (with_reducible exact k_s) | (with_reducible apply k_m)))) (by kernel_rfl) ?_
    exact ⟨.slice none 0 0, (5, .slice none 0 0, []) :: P, rfl, fun q hq => k_n _ hq, k_s, HX.out.drop.drop.drop.drop.poolNil 5⟩
   | true =>
    have hx := (HX.out.pm 5 [2, 4, 0, 1, 3] rfl rfl : Sep w0 _ (yaf' 5 (.slice a n' c') (os.flatMap OpS.cells) :: yab' w0 P :: ydy' r dd :: yac' b2 (.cells #[.int .i64 s, .int .i64 n, .slice a n' c'] 42 (0, 0)) :: yac' b (.cells #[.int .i64 0, .int .i64 0, .slice none 0 0] 42 (0, 0)) :: R) rows).poolRow
    replace HX := Lib.hid hx
    clear hx
    obtain ⟨me, hme⟩ : ∃ me, mayS s n os = me := ⟨_, rfl⟩
    rw [hme] at HGO
    go_wp2_with (first | refine u0 ?_ | (refine uS ?_; clear HX; intro w HX) | (refine uA ?_; clear HX; (first | (have hq := b2; clear hq; intro w b3 HX) | (have hq := b; clear hq; intro w b2 HX) | intro w b HX)) | (refine uP ?_; clear HX; intro w av nv cv HX))
    refine (yi2' HX.out hd s n os _ k_s (fun q hq => by have := HPS.out q hq; omega)).mono ?_
    rw [hme]
    rintro e w ⟨rfl, hx⟩
    replace HX := Lib.hid hx
    clear hx
    by_cases h0 : me = 0
    case neg =>
     have q3 : (me != 0) = true := by rw [bne_iff_ne]; exact h0
     obtain rfl : o = none := HGO.out.trans (if_neg (fun hh => h0 hh.2))
     clear h0
     go_wp2_with (first | refine u0 ?_ | (refine uS ?_; clear HX; intro w HX) | (refine uA ?_; clear HX; (first | (have hq := b2; clear hq; intro w b3 HX) | (have hq := b; clear hq; intro w b2 HX) | intro w b HX)) | (refine uP ?_; clear HX; intro w av nv cv HX))
     refine ydx' HX rfl rfl (by (repeat (first | (with_reducible exact k_s) | (with_reducible apply k_m)))) (by kernel_rfl) ?_
     exact ⟨.slice none 0 0, (5, .slice none 0 0, []) :: _, rfl, fun q hq => k_n _ (k_n _ hq), k_s, (HX.out.poolNil 5) |> fun h => h.up1.drop.up1.drop.up1.drop⟩
    case pos =>
     subst h0
     obtain rfl : o = some (s, n, os) := HGO.out.trans (by simp)
     go_wp2_with (first | refine u0 ?_ | (refine uS ?_; clear HX; intro w HX) | (refine uA ?_; clear HX; (first | (have hq := b2; clear hq; intro w b3 HX) | (have hq := b; clear hq; intro w b2 HX) | intro w b HX)) | (refine uP ?_; clear HX; intro w av nv cv HX))
     refine ydx' HX rfl rfl (by (repeat (first | (with_reducible exact k_s) | (with_reducible apply k_m)))) (by kernel_rfl) ?_
     exact ⟨.slice a n' c', _, rfl, fun q hq => k_n _ hq, k_s, HX.out.up1.drop.up1.drop.up1.drop⟩
  case pos =>
   have q0 : decide (i < K) = true := decide_eq_true hlt
   have q1 : decide ((i : Int) < (K : Int)) = true := decide_eq_true (by omega)
   have q9 : i ≤ 16 := by have := HK.out; omega
   have hnx := ymw' i d3
   have hlen := ypk' i d3
   obtain ⟨⟨os, dd⟩, hod⟩ : ∃ x, opsR i d3 = x := ⟨_, rfl⟩
   rw [hod] at HX hnx hlen
   dsimp only at HX hnx hlen
   obtain ⟨⟨k1, e1⟩, g1⟩ : ∃ x, i64R dd = x := ⟨_, rfl⟩
   obtain ⟨⟨t2, e2⟩, g2⟩ : ∃ x, ybq' 20000 e1 = x := ⟨_, rfl⟩
   obtain ⟨⟨t3, e3⟩, g3⟩ : ∃ x, ybq' 20000 e2 = x := ⟨_, rfl⟩
   obtain ⟨⟨k4, e4⟩, g4⟩ : ∃ x, i64R e3 = x := ⟨_, rfl⟩
   obtain ⟨⟨k5, e5⟩, g5⟩ : ∃ x, i64R e4 = x := ⟨_, rfl⟩
   have hop : opR dd = (⟨k1, ⟨t2.toArray⟩, ⟨t3.toArray⟩, k4, k5⟩, e5) := by
    unfold opR
    rw [g1]; dsimp only
    rw [g2]; dsimp only
    rw [g3]; dsimp only
    rw [g4]; dsimp only
    rw [g5]
   rw [hop] at hnx
   have HNX := Lib.hid hnx
   have HG := Lib.hid (show _ ∧ _ ∧ _ ∧ _ ∧ _ from ⟨g1, g2, g3, g4, g5⟩)
   have HLEN := Lib.hid (show (os.flatMap OpS.cells).length = i * 5 by rw [yav' yak', hlen])
   have HBD := Lib.hid (show ∀ n, (os.flatMap OpS.cells).length = n * 5 → n + 1 ≤ 140737488355328 ∧ (n + 1) * 56 ≤ 140737488355328 from fun n hn => by have := HLEN.out; omega)
   clear hnx hop g1 g2 g3 g4 g5 hod hlen
   go_wp2_with (first | refine u0 ?_ | (refine uS ?_; clear HX; intro w HX) | (refine uA ?_; clear HX; (first | (have hq := b2; clear hq; intro w b3 HX) | (have hq := b; clear hq; intro w b2 HX) | intro w b HX)) | (refine uP ?_; clear HX; intro w av nv cv HX))
   refine (ycf' HX.out).mono ?_
   rw [HG.out.1]
   rintro e w ⟨rfl, hx⟩
   replace HX := Lib.hid hx
   clear hx
   go_wp2_with (first | refine u0 ?_ | (refine uS ?_; clear HX; intro w HX) | (refine uA ?_; clear HX; (first | (have hq := b2; clear hq; intro w b3 HX) | (have hq := b; clear hq; intro w b2 HX) | intro w b HX)) | (refine uP ?_; clear HX; intro w av nv cv HX))
   refine (ygb' HX.out.up1 20000 (by omega)).mono ?_
   rw [HG.out.2.1]
   rintro e w ⟨rfl, hx⟩
   replace HX := Lib.hid hx
   clear hx
   unfold sv
   go_wp2_with (first | refine u0 ?_ | (refine uS ?_; clear HX; intro w HX) | (refine uA ?_; clear HX; (first | (have hq := b2; clear hq; intro w b3 HX) | (have hq := b; clear hq; intro w b2 HX) | intro w b HX)) | (refine uP ?_; clear HX; intro w av nv cv HX))
   refine (ygb' HX.out 20000 (by omega)).mono ?_
   rw [HG.out.2.2.1]
   rintro e w ⟨rfl, hx⟩
   replace HX := Lib.hid hx
   clear hx
   unfold sv
   go_wp2_with (first | refine u0 ?_ | (refine uS ?_; clear HX; intro w HX) | (refine uA ?_; clear HX; (first | (have hq := b2; clear hq; intro w b3 HX) | (have hq := b; clear hq; intro w b2 HX) | intro w b HX)) | (refine uP ?_; clear HX; intro w av nv cv HX))
   refine (ycf' HX.out).mono ?_
   rw [HG.out.2.2.2.1]
   rintro e w ⟨rfl, hx⟩
   replace HX := Lib.hid hx
   clear hx
   go_wp2_with (first | refine u0 ?_ | (refine uS ?_; clear HX; intro w HX) | (refine uA ?_; clear HX; (first | (have hq := b2; clear hq; intro w b3 HX) | (have hq := b; clear hq; intro w b2 HX) | intro w b HX)) | (refine uP ?_; clear HX; intro w av nv cv HX))
   refine (ycf' HX.out).mono ?_
   rw [HG.out.2.2.2.2]
   rintro e w ⟨rfl, hx⟩
   replace HX := Lib.hid hx
   clear hx
   go_wp2_with (first | refine u0 ?_ | (refine uS ?_; clear HX; intro w HX) | (refine uA ?_; clear HX; (first | (have hq := b2; clear hq; intro w b3 HX) | (have hq := b; clear hq; intro w b2 HX) | intro w b HX)) | (refine uP ?_; clear HX; intro w av nv cv HX))
   go_roundg (K - (i + 1))
   case rel =>
    refine ⟨i + 1, av, nv, cv, by omega, by go_num, ?_⟩
    rw [HNX.out]
    dsimp only
    rw [List.flatMap_append]
    exact HX.out.pm 7 [2, 4, 0, 5, 6] rfl rfl
   case measure => omega
end
end Go.Proofs.YtcnkifbjlihaoaaGreatDoor

namespace Go.Proofs.YtcnkifbjlihaoaaGreatDoor
open Go.RowKit Go.Av
theorem sn_x4 : StructN Tryz.prog 180 2 := ⟨by kernel_rfl⟩
theorem sn_x5 : StructN Tryz.prog 70 9 := ⟨by kernel_rfl⟩
theorem z_x5 : ydh' Tryz.prog 70 #[.int .i64 0, .int .i64 0, .int .i64 0, .int .i64 0, .int .i64 0, .slice none 0 0, .slice none 0 0, .int .i64 0, .bool false] := by unfold ydh'; kernel_rfl
section
variable {w0 w : World} {P P' : List PRow} {R : List Thing} {rows : List (Value × Bs)}
set_option maxRecDepth 100000 in
theorem yry' (y : Bool) (w : World) : Calls Tryz.prog 120 #[.bool y] w fun e w' => e = .returned (.int .i64 (bitI y)) ∧ w' = w := by
 cases y with
 | true =>
  go_enter Tryz.func120, Tryz.ntmps120
  go_wp2_with fail
  go_ret
  exact ⟨rfl, rfl⟩
 | false =>
  go_enter Tryz.func120, Tryz.ntmps120
  go_wp2_with fail
  go_ret
  exact ⟨rfl, rfl⟩
def yxj' (w0 : World) (l : Bs) (xs : List Int) (P : List PRow) (R : List Thing) (rows : List (Value × Bs)) (k : Nat) (v0 v13 : Value) (w : World) : Prop :=
 ∃ (i : Nat), i + k = xs.length ∧ v13 = .int .i64 (i : Int) ∧ Sep w0 w (yaf' 1 v0 ((l ++ (yah' (xs.length : Int) ++ (xs.take i).flatMap yah')).map bv) :: yab' w0 P :: R) rows
set_option maxRecDepth 100000 in
set_option maxHeartbeats 4000000 in
theorem yhx' (v : Value) (l : Bs) (h : Sep w0 w (yaf' 1 v (l.map bv) :: yab' w0 P :: R) rows) (vs : Value) (xs : List Int) (hv : (1, vs, xs.map ivn) ∈ P) (hl : l.length ≤ 100000) (hx : xs.length ≤ 1000) :
  Calls Tryz.prog 118 #[v, vs] w (yip' w0 (l ++ shB xs) (yab' w0 P :: R) rows) := by
 obtain ⟨E, hE⟩ := h.up1.poolGet hv
 obtain ⟨a, n, c, rfl, hl0, -, -, hne⟩ := ReadRow.some hE
 rw [List.length_map, Nat.mul_one] at hl0
 subst hl0
 have HNE := Lib.hid hne
 have HV := Lib.hid (show _ ∧ _ ∧ _ from ⟨hv, hl, hx⟩)
 have HX := Lib.hid h
 clear h hE hne hv hl hx
 go_enter Tryz.func118, Tryz.ntmps118
 go_wp2_with (first | refine u0 ?_ | (refine uS ?_; clear HX; intro w HX) | (refine uA ?_; clear HX; (first | (have hq := b; clear hq; intro w b2 HX) | intro w b HX)))
 refine (yix' HX.out (xs.length : Int) (by have := HV.out.2.1; omega)).mono ?_
 rintro e w ⟨v0, rfl, hx⟩
 replace HX := Lib.hid hx
 clear hx
 go_wp2_with (first | refine u0 ?_ | (refine uS ?_; clear HX; intro w HX) | (refine uA ?_; clear HX; (first | (have hq := b; clear hq; intro w b2 HX) | intro w b HX)))
 have HST := Lib.hid (show yxj' w0 l xs P R rows xs.length v0 (.int .i64 (0 : Int)) w from ⟨0, by simp, rfl, by rw [k_g, List.flatMap_nil, List.append_nil]; exact HX.out⟩)
 clear HX
 go_loopg [0, 6, 13] xs.length (fun k v0 _ v13 wr => yxj' w0 l xs P R rows k v0 v13 wr)
 case atStart => exact HST.out
 case round =>
  rename World => w
  obtain ⟨i, hik, rfl, hS⟩ := hrel
  clear HST
  have HX := Lib.hid hS
  clear hS
  by_cases hlt : i < xs.length
  case neg =>
   obtain rfl : i = xs.length := by omega
   rw [List.take_length] at HX
   clear hlt hik
   go_wp2_with (first | refine u0 ?_ | (refine uS ?_; clear HX; intro w HX) | (refine uA ?_; clear HX; (first | (have hq := b; clear hq; intro w b2 HX) | intro w b HX)))
   go_ret
   exact ⟨_, rfl, HX.out⟩
  case pos =>
   obtain ⟨g, off, rfl⟩ := HNE.out (by intro e; rw [List.map_eq_nil_iff] at e; rw [e] at hlt; simp at hlt)
   obtain ⟨E, hE⟩ := HX.out.up1.poolGet HV.out.1
   have hl := ybz' (P := Tryz.prog) (ty := 3) (i := i) (v := .int .i64 xs[i]) hE (by kernel_rfl) (by simp [hlt]; rfl)
   have hnx : l ++ (yah' (xs.length : Int) ++ (xs.take (i + 1)).flatMap yah') = (l ++ (yah' (xs.length : Int) ++ (xs.take i).flatMap yah')) ++ yah' xs[i] := by
    rw [List.take_succ_eq_append_getElem hlt, List.flatMap_append]
    simp
   have hln : (l ++ (yah' (xs.length : Int) ++ (xs.take i).flatMap yah')).length ≤ 200000 := by
    have h1 := HV.out.2.1
    have h2 := HV.out.2.2
    rw [List.length_append, List.length_append, yar', ydl', List.length_take]
    omega
   obtain ⟨x, hxx⟩ : ∃ x, xs[i] = x := ⟨_, rfl⟩
   rw [hxx] at hl hnx
   have HNX := Lib.hid (show _ ∧ _ from ⟨hnx, hln⟩)
   have q0 : decide (i < xs.length) = true := decide_eq_true hlt
   have q9 : i ≤ 1000 := by have := HV.out.2.2; omega
   clear hE hnx hln hxx
   go_wp2_with (first | refine u0 ?_ | (refine uS ?_; clear HX; intro w HX) | (refine uA ?_; clear HX; (first | (have hq := b; clear hq; intro w b2 HX) | intro w b HX)) | ((with_reducible apply yau' hl); (· rfl); (· rfl); simp only [Act.put, k_a, k_b, k_c]))
   refine (yix' HX.out x (by have := HNX.out.2; omega)).mono ?_
   rintro e w ⟨v4, rfl, hx⟩
   rw [← HNX.out.1] at hx
   clear hl
   replace HX := Lib.hid hx
   clear hx
   go_wp2_with (first | refine u0 ?_ | (refine uS ?_; clear HX; intro w HX) | (refine uA ?_; clear HX; (first | (have hq := b; clear hq; intro w b2 HX) | intro w b HX)))
   go_roundg (xs.length - (i + 1))
   case rel => exact ⟨i + 1, by omega, by go_num, HX.out⟩
   case measure => omega
def yye' (w0 : World) (r q : Nat) (bad : Bool) (x : List Int × Rd) (P : List PRow) (R : List Thing) (rows : List (Value × Bs)) (e : Ending) (w' : World) : Prop :=
 ∃ v P', e = .returned v ∧ (∀ z ∈ P, z ∈ P') ∧ (1, v, x.1.map ivn) ∈ P' ∧ Sep w0 w' (ydy' r x.2 :: yac' q (.cells #[.pointer (some ⟨r, 0, none⟩), .bool bad] 180 (0, 0)) :: yab' w0 P' :: R) rows
set_option maxRecDepth 100000 in
theorem ym3' {r q : Nat} {bad : Bool} {d : Rd} (h : Sep w0 w (ydy' r d :: yac' q (.cells #[.pointer (some ⟨r, 0, none⟩), .bool bad] 180 (0, 0)) :: R) rows) :
  Calls Tryz.prog 105 #[.pointer (some ⟨q, 0, none⟩)] w fun e w' => e = .returned (.bool ((cntR 1 d).1 == 1)) ∧ Sep w0 w' (ydy' r (cntR 1 d).2 :: yac' q (.cells #[.pointer (some ⟨r, 0, none⟩), .bool bad] 180 (0, 0)) :: R) rows := by
 have HX := Lib.hid h
 clear h
 go_enter Tryz.func105, Tryz.ntmps105
 go_wp2_with (first | refine u0 ?_ | (refine uS ?_; clear HX; intro w HX) | (refine uA ?_; clear HX; (first | (have hq := b; clear hq; intro w b2 HX) | intro w b HX)))
 refine (ycn' HX.out 1 (by omega)).mono ?_
 rintro e w ⟨rfl, hx⟩
 replace HX := Lib.hid hx
 clear hx
 go_wp2_with (first | refine u0 ?_ | (refine uS ?_; clear HX; intro w HX) | (refine uA ?_; clear HX; (first | (have hq := b; clear hq; intro w b2 HX) | intro w b HX)))
 go_ret
 exact ⟨rfl, HX.out⟩
end
end Go.Proofs.YtcnkifbjlihaoaaGreatDoor

namespace Go.Av
open Go.RowKit
section
variable {P : Program} {ops : Array Oper} {Q : Exit → Act → World → Prop} {a : Act} {w w0 : World} {rest : List Oper} {R : List Thing} {rows : List (Value × Bs)} {dst : Option Tmp} {tyy src tt e : TypeId} {pos : String} {aft : Array Edge} {g : Option (Nat × Bool)} {Pl : List PRow}
theorem Sep.conv (h : Sep w0 w (yab' w0 Pl :: R) rows) (e : TypeId) (s : ByteArray) (hs : s.size ≤ maxLen) :
  Sep w0 (Lib.bytesWorld w e s) (yab' w0 ((1, .slice (some ⟨w.heap.size, 0, none⟩) s.size (grownCap w s.size 0 e), s.data.toList.map bv) :: Pl) :: R) rows := by
 have hsz : s.data.toList.length = s.size := Array.length_toList
 refine h.poolRead (E := [w.heap.size]) ?_ (by simp) ?_
 ·refine ⟨_, _, _, rfl, by rw [List.length_map, hsz, Nat.mul_one], grownCap_ge w s.size 0 e, grownCap_le_maxLen w s.size 0 e hs, (fun h => by cases h), .inr ⟨w.heap.size, 0, rfl, rfl, by rw [Lib.bytesWorld_size]; omega, fun i v hv => ?_⟩⟩
  rw [List.getElem?_map] at hv
  obtain ⟨c, hc, rfl⟩ := Option.map_eq_some_iff.1 hv
  have hi := (List.getElem?_eq_some_iff.1 hc).1
  rw [Nat.zero_add, Lib.bytesWorld_cell w e s i (by omega), List.getD, hc]
  rfl
 ·refine ⟨?_, ?_, ?_, by rw [Lib.bytesWorld_size]; omega, fun b hb _ => Lib.bytesWorld_at_old w e s b hb, by simp⟩
  ·rfl
  ·rfl
  ·rfl
theorem yzx' {x : Operand} {s : ByteArray} (H : Hid (Sep w0 w (yab' w0 Pl :: R) rows)) (hs : P.underlying src = some .string) (hd : P.underlying tt = some (.slice e)) (he : P.underlying e = some (.int .u8)) (hx : a.eval x = .string s) (hz : s.size ≤ maxLen)
  (hw : Region.wanted ⟨dst, .convert src tt x, tyy, pos, aft, g⟩ (yielded ops a.tmps) = true)
  (k : ∀ w' b c, Hid (Sep w0 w' (yab' w0 ((1, .slice (some ⟨b, 0, none⟩) s.size c, s.data.toList.map bv) :: Pl) :: R) rows) → wpList P ops Q rest (a.put dst (.slice (some ⟨b, 0, none⟩) s.size c)) w') : wpList P ops Q (⟨dst, .convert src tt x, tyy, pos, aft, g⟩ :: rest) a w := by
 refine yb9' hw ?_ (k _ _ _ (Lib.hid (H.out.conv e s hz)))
 unfold execOp
 dsimp only
 rw [hx]
 exact ycl' (Lib.run_convert_string_bytes w src tt e s hs hd he)
theorem yxz' {x : Operand} {v : Value} {l : Bs} (H : Hid (Sep w0 w (yaf' 1 v (l.map bv) :: R) rows)) (hs : P.underlying src = some (.slice e)) (he : P.underlying e = some (.int .u8)) (hd : P.underlying tt = some .string) (hx : a.eval x = v)
  (hw : Region.wanted ⟨dst, .convert src tt x, tyy, pos, aft, g⟩ (yielded ops a.tmps) = true)
  (k : wpList P ops Q rest (a.put dst (.string ⟨l.toArray⟩)) w) : wpList P ops Q (⟨dst, .convert src tt x, tyy, pos, aft, g⟩ :: rest) a w := by
 refine yb9' hw ?_ k
 unfold execOp
 dsimp only
 rw [hx]
 obtain ⟨D, hD⟩ := H.out.fst
 obtain ⟨E, hE, -⟩ := OwnRow.read hD
 exact ycl' (Go.Av.conv_str hs he hd hE w (fun _ _ => rfl))
end
end Go.Av

namespace Go.Proofs.YtcnkifbjlihaoaaGreatDoor
open Go.RowKit Go.Av
theorem sl_x2 : SliceN Tryz.prog 68 3 1 8 := .of Tryz.underlying68 (by kernel_rfl)
section
variable {w0 w : World} {P P' : List PRow} {R : List Thing} {rows : List (Value × Bs)}
def shR (d : Rd) : List Int × Rd := cntN 3 (cntR 4 d).1.toNat (cntR 4 d).2
def yxi' (w0 : World) (r q : Nat) (bad : Bool) (K : Nat) (d : Rd) (P : List PRow) (R : List Thing) (rows : List (Value × Bs)) (k : Nat) (v3 v9 : Value) (w : World) : Prop :=
 ∃ (i : Nat) (a : Option Addr) (n c : Nat), i + k = K ∧ v3 = .slice a n c ∧ v9 = .int .i64 (i : Int) ∧ Sep w0 w (ydy' r (cntN 3 i d).2 :: yac' q (.cells #[.pointer (some ⟨r, 0, none⟩), .bool bad] 180 (0, 0)) :: yaf' 1 (.slice a n c) ((cntN 3 i d).1.map ivn) :: yab' w0 P :: R) rows
set_option maxRecDepth 100000 in
set_option maxHeartbeats 4000000 in
theorem yfc' {r q : Nat} {bad : Bool} {d : Rd} (h : Sep w0 w (ydy' r d :: yac' q (.cells #[.pointer (some ⟨r, 0, none⟩), .bool bad] 180 (0, 0)) :: yab' w0 P :: R) rows) :
  Calls Tryz.prog 104 #[.pointer (some ⟨q, 0, none⟩)] w (yye' w0 r q bad (shR d) P R rows) := by
 have HX := Lib.hid h
 clear h
 obtain ⟨⟨kk, d1⟩, h1⟩ : ∃ x, cntR 4 d = x := ⟨_, rfl⟩
 have hb := yis' (most := 4) (by omega) d
 rw [h1] at hb
 dsimp only at hb
 obtain ⟨K, rfl⟩ : ∃ K : Nat, kk = (K : Int) := ⟨kk.toNat, by omega⟩
 have HK := Lib.hid (show K ≤ 4 by omega)
 have HD := Lib.hid (show shR d = cntN 3 K d1 by unfold shR; rw [h1]; dsimp only; rw [Int.toNat_natCast])
 have H1 := Lib.hid h1
 clear hb h1
 go_enter Tryz.func104, Tryz.ntmps104
 go_wp2_with (first | refine u0 ?_ | (refine uS ?_; clear HX; intro w HX) | (refine tWA ?_; clear HX; (first | (have hq := b; clear hq; intro w b2 HX) | intro w b HX); simp only [Act.put, k_a, k_b, k_c]) | (refine uP ?_; clear HX; intro w av nv cv HX))
 refine (ycn' HX.out 4 (by omega)).mono ?_
 rw [H1.out]
 rintro e w ⟨rfl, hx⟩
 replace HX := Lib.hid hx
 clear hx
 go_wp2_with (first | refine u0 ?_ | (refine uS ?_; clear HX; intro w HX) | (refine tWA ?_; clear HX; (first | (have hq := b; clear hq; intro w b2 HX) | intro w b HX); simp only [Act.put, k_a, k_b, k_c]) | (refine uP ?_; clear HX; intro w av nv cv HX))
 have HST := Lib.hid (show yxi' w0 r q bad K d1 P R rows K (.slice none 0 0) (.int .i64 (0 : Int)) w from ⟨0, none, 0, 0, by omega, rfl, rfl, (HX.out.nilRow 1).pm 4 [1, 2, 0, 3] rfl rfl⟩)
 clear HX
 go_loopg [3, 9] K (fun k v3 v9 wr => yxi' w0 r q bad K d1 P R rows k v3 v9 wr)
 case atStart => exact HST.out
 case round =>
  rename World => w
  obtain ⟨i, a, n, c, hik, rfl, rfl, hS⟩ := hrel
  clear HST
  have HX := Lib.hid hS
  clear hS
  by_cases hlt : i < K
  case neg =>
   obtain rfl : i = K := by omega
   have q0 : decide ((i : Int) < (i : Int)) = false := decide_eq_false (by omega)
   have q1 : decide (i < i) = false := decide_eq_false (by omega)
   clear hlt hik
   go_wp2_with (first | refine u0 ?_ | (refine uS ?_; clear HX; intro w HX) | (refine tWA ?_; clear HX; (first | (have hq := b; clear hq; intro w b2 HX) | intro w b HX); simp only [Act.put, k_a, k_b, k_c]) | (refine uP ?_; clear HX; intro w av nv cv HX))
   go_ret
   refine ⟨_, (1, .slice a n c, (cntN 3 i d1).1.map ivn) :: P, rfl, fun z hz => k_n _ hz, by rw [HD.out]; exact k_s, ?_⟩
   rw [HD.out]
   exact (HX.out.pm 4 [2, 3, 0, 1] rfl rfl : Sep w0 _ (yaf' 1 (.slice a n c) ((cntN 3 i d1).1.map ivn) :: yab' w0 P :: ydy' r (cntN 3 i d1).2 :: yac' q (.cells #[.pointer (some ⟨r, 0, none⟩), .bool bad] 180 (0, 0)) :: R) rows).poolRow.pm 3 [1, 2, 0] rfl rfl
  case pos =>
   have q0 : decide (i < K) = true := decide_eq_true hlt
   have q1 : decide ((i : Int) < (K : Int)) = true := decide_eq_true (by omega)
   have q9 : i ≤ 4 := by have := HK.out; omega
   have hnx := yl2' 3 i d1
   have hlen := yk2' 3 i d1
   obtain ⟨⟨os, dd⟩, hod⟩ : ∃ x, cntN 3 i d1 = x := ⟨_, rfl⟩
   rw [hod] at HX hnx hlen
   dsimp only at HX hnx hlen
   obtain ⟨⟨k1, e1⟩, g1⟩ : ∃ x, cntR 3 dd = x := ⟨_, rfl⟩
   rw [g1] at hnx
   have HNX := Lib.hid hnx
   have HG := Lib.hid g1
   have HBD := Lib.hid (show ∀ n, (os.map ivn).length = n * 1 → n + 1 ≤ 140737488355328 ∧ (n + 1) * 8 ≤ 140737488355328 from fun n hn => by rw [List.length_map, hlen] at hn; omega)
   clear hnx g1 hod hlen
   go_wp2_with (first | refine u0 ?_ | (refine uS ?_; clear HX; intro w HX) | (refine tWA ?_; clear HX; (first | (have hq := b; clear hq; intro w b2 HX) | intro w b HX); simp only [Act.put, k_a, k_b, k_c]) | (refine uP ?_; clear HX; intro w av nv cv HX))
   refine (ycn' HX.out 3 (by omega)).mono ?_
   rw [HG.out]
   rintro e w ⟨rfl, hx⟩
   replace HX := Lib.hid hx
   clear hx
   go_wp2_with (first | refine u0 ?_ | (refine uS ?_; clear HX; intro w HX) | (refine tWA ?_; clear HX; (first | (have hq := b; clear hq; intro w b2 HX) | intro w b HX); simp only [Act.put, k_a, k_b, k_c]) | (refine uP ?_; clear HX; intro w av nv cv HX))
   go_roundg (K - (i + 1))
   case rel => exact ⟨i + 1, av, nv, cv, by omega, rfl, by go_num, by rw [HNX.out]; dsimp only; rw [List.map_append]; exact HX.out.pm 5 [2, 3, 0, 4] rfl rfl⟩
   case measure => omega
def ydf' (t : Bs) : Int × Int × List OpS := (getR t).getD (0, 0, [])
def yiq' (w0 : World) (r q : Nat) (bad : Bool) (d : Rd) (P : List PRow) (R : List Thing) (rows : List (Value × Bs)) (e : Ending) (w' : World) : Prop :=
 ∃ v P', e = .returned (.agg #[.int .i64 (ydf' (ybq' 40000 d).1).1, .int .i64 (ydf' (ybq' 40000 d).1).2.1, v]) ∧ (∀ z ∈ P, z ∈ P') ∧ (5, v, (ydf' (ybq' 40000 d).1).2.2.flatMap OpS.cells) ∈ P' ∧
  Sep w0 w' (ydy' r (ybq' 40000 d).2 :: yac' q (.cells #[.pointer (some ⟨r, 0, none⟩), .bool (bad || (getR (ybq' 40000 d).1).isNone)] 180 (0, 0)) :: yab' w0 P' :: R) rows
set_option maxRecDepth 100000 in
set_option maxHeartbeats 4000000 in
theorem ykg' {r q : Nat} {bad : Bool} {d : Rd} (h : Sep w0 w (ydy' r d :: yac' q (.cells #[.pointer (some ⟨r, 0, none⟩), .bool bad] 180 (0, 0)) :: yab' w0 P :: R) rows) (hd : DoorN w0) :
  Calls Tryz.prog 103 #[.pointer (some ⟨q, 0, none⟩)] w (yiq' w0 r q bad d P R rows) := by
 have HX := Lib.hid h
 clear h
 obtain ⟨⟨t, d1⟩, h1⟩ : ∃ x, ybq' 40000 d = x := ⟨_, rfl⟩
 have htl := ynm' 40000 d (by omega)
 rw [h1] at htl
 dsimp only at htl
 have H1 := Lib.hid (show _ ∧ _ from ⟨h1, htl⟩)
 clear h1 htl
 go_enter Tryz.func103, Tryz.ntmps103
 go_wp2_with (first | refine u0 ?_ | (refine uS ?_; clear HX; intro w HX) | (refine tWA ?_; clear HX; (first | (have hq := b; clear hq; intro w b2 HX) | intro w b HX); simp only [Act.put, k_a, k_b, k_c]))
 refine (ygb' HX.out.up1 40000 (by omega)).mono ?_
 rw [H1.out.1]
 rintro e w ⟨rfl, hx⟩
 replace HX := Lib.hid hx
 clear hx
 unfold sv
 have hz : (⟨t.toArray⟩ : ByteArray).size ≤ maxLen := by
  have h2 := H1.out.2
  have : (⟨t.toArray⟩ : ByteArray).size = t.length := by show t.toArray.size = _; simp
  unfold maxLen
  omega
 go_wp2_with (first | refine u0 ?_ | (refine uS ?_; clear HX; intro w HX) | (refine tWA ?_; clear HX; (first | (have hq := b; clear hq; intro w b2 HX) | intro w b HX); simp only [Act.put, k_a, k_b, k_c]) | (refine yzx' (Lib.hid HX.out.up3) Tryz.underlying9 Tryz.underlying71 Tryz.underlying5 rfl hz rfl ?_; clear HX; intro w b9 c9 HX; simp only [Act.put, k_a, k_b, k_c]))
 refine (ys8' HX.out hd _ t k_s (by have := H1.out.2; omega)).mono ?_
 obtain ⟨o, ho⟩ : ∃ o, getR t = o := ⟨_, rfl⟩
 rw [ho]
 rintro e w ⟨vs, P', rfl, hP', hvs, hx⟩
 have HO := Lib.hid (show _ ∧ (∀ z ∈ P, z ∈ P') ∧ _ from ⟨ho, fun z hz => hP' z (k_n _ hz), hvs⟩)
 replace HX := Lib.hid hx
 clear hx
 clear ho hP' hvs hz
 obtain ⟨va, vn, vc, rfl⟩ : ∃ va vn vc, vs = .slice va vn vc := by
  obtain ⟨E, hE⟩ := HX.out.poolGet HO.out.2.2
  obtain ⟨a, n, c, e, -⟩ := hE
  exact ⟨a, n, c, e⟩
 have e3 : (ybq' 40000 d).2 = d1 := by rw [H1.out.1]
 have e1 : ydf' (ybq' 40000 d).1 = o.getD (0, 0, []) := by rw [H1.out.1]; unfold ydf'; dsimp only; rw [HO.out.1]
 have e2 : (getR (ybq' 40000 d).1).isNone = o.isNone := by rw [H1.out.1]; dsimp only; rw [HO.out.1]
 have HE := Lib.hid (show _ ∧ _ ∧ _ from ⟨e1, e2, e3⟩)
 clear e1 e2 e3
 cases o with
 | none =>
  cases bad with
  | true =>
   dsimp only [Option.getD, Option.isSome] at HX HO ⊢
   go_wp2_with (first | refine u0 ?_ | (refine uS ?_; clear HX; intro w HX) | (refine tWA ?_; clear HX; (first | (have hq := b; clear hq; intro w b2 HX) | intro w b HX); simp only [Act.put, k_a, k_b, k_c]))
   refine ya9' HX rfl rfl (by (repeat (first | (with_reducible exact k_s) | (with_reducible apply k_m)))) (by kernel_rfl) ?_
   unfold yiq'
   rw [HE.out.1, HE.out.2.1, HE.out.2.2]
   exact ⟨.slice va vn vc, P', rfl, HO.out.2.1, HO.out.2.2, HX.out.pm 5 [2, 4, 1] rfl rfl⟩
  | false =>
   dsimp only [Option.getD, Option.isSome] at HX HO ⊢
   go_wp2_with (first | refine u0 ?_ | (refine uS ?_; clear HX; intro w HX) | (refine tWA ?_; clear HX; (first | (have hq := b; clear hq; intro w b2 HX) | intro w b HX); simp only [Act.put, k_a, k_b, k_c]))
   refine ya9' HX rfl rfl (by (repeat (first | (with_reducible exact k_s) | (with_reducible apply k_m)))) (by kernel_rfl) ?_
   unfold yiq'
   rw [HE.out.1, HE.out.2.1, HE.out.2.2]
   exact ⟨.slice va vn vc, P', rfl, HO.out.2.1, HO.out.2.2, HX.out.pm 5 [2, 4, 1] rfl rfl⟩
 | some o =>
  obtain ⟨os, on, ol⟩ := o
  cases bad with
  | true =>
   dsimp only [Option.getD, Option.isSome] at HX HO ⊢
   go_wp2_with (first | refine u0 ?_ | (refine uS ?_; clear HX; intro w HX) | (refine tWA ?_; clear HX; (first | (have hq := b; clear hq; intro w b2 HX) | intro w b HX); simp only [Act.put, k_a, k_b, k_c]))
   refine ya9' HX rfl rfl (by (repeat (first | (with_reducible exact k_s) | (with_reducible apply k_m)))) (by kernel_rfl) ?_
   unfold yiq'
   rw [HE.out.1, HE.out.2.1, HE.out.2.2]
   exact ⟨.slice va vn vc, P', rfl, HO.out.2.1, HO.out.2.2, HX.out.pm 5 [2, 4, 1] rfl rfl⟩
  | false =>
   dsimp only [Option.getD, Option.isSome] at HX HO ⊢
   go_wp2_with (first | refine u0 ?_ | (refine uS ?_; clear HX; intro w HX) | (refine tWA ?_; clear HX; (first | (have hq := b; clear hq; intro w b2 HX) | intro w b HX); simp only [Act.put, k_a, k_b, k_c]))
   refine ya9' HX rfl rfl (by (repeat (first | (with_reducible exact k_s) | (with_reducible apply k_m)))) (by kernel_rfl) ?_
   unfold yiq'
   rw [HE.out.1, HE.out.2.1, HE.out.2.2]
   exact ⟨.slice va vn vc, P', rfl, HO.out.2.1, HO.out.2.2, HX.out.pm 5 [2, 4, 1] rfl rfl⟩
end
end Go.Proofs.YtcnkifbjlihaoaaGreatDoor

namespace Go.Av
def LexK (K : Nat → Int) (x y : Nat) : Prop := K x < K y ∨ K x = K y ∧ x < y
def SortF (K : Nat → Int) (σ : Nat → Nat) (a b : Nat) : Prop := ∀ i j, a ≤ i → i < j → j < b → LexK K (σ i) (σ j)
def yh1' (σ : Nat → Nat) (i j k : Nat) : Nat := if k = i then σ j else if k = j then σ i else σ k
structure PermF (a b : Nat) (σ σ' : Nat → Nat) : Prop where
 out : ∀ i, i < a ∨ b ≤ i → σ' i = σ i
 into : ∀ i, a ≤ i → i < b → ∃ j, a ≤ j ∧ j < b ∧ σ' i = σ j
 all : ∀ n, b ≤ n → ((List.range n).map σ').Perm ((List.range n).map σ)
theorem LexK.trans {K : Nat → Int} {x y z : Nat} (h1 : LexK K x y) (h2 : LexK K y z) : LexK K x z := by
 unfold LexK at *
 omega
theorem PermF.refl (a b : Nat) (σ : Nat → Nat) : PermF a b σ σ := ⟨fun _ _ => rfl, fun i h1 h2 => ⟨i, h1, h2, rfl⟩, fun _ _ => .refl _⟩
theorem PermF.trans {a b : Nat} {σ σ1 σ2 : Nat → Nat} (h : PermF a b σ σ1) (h' : PermF a b σ1 σ2) : PermF a b σ σ2 :=
 ⟨fun i hi => (h'.out i hi).trans (h.out i hi), fun i h1 h2 => by
  obtain ⟨j, h3, h4, h5⟩ := h'.into i h1 h2
  obtain ⟨k, h6, h7, h8⟩ := h.into j h3 h4
  exact ⟨k, h6, h7, h5.trans h8⟩, fun n hn => (h'.all n hn).trans (h.all n hn)⟩
theorem PermF.wide {a b c d : Nat} {σ σ' : Nat → Nat} (h : PermF a b σ σ') (h1 : c ≤ a) (h2 : b ≤ d) : PermF c d σ σ' :=
 ⟨fun i hi => h.out i (by omega), fun i h3 h4 => by
  by_cases hi : a ≤ i ∧ i < b
  ·obtain ⟨j, h5, h6, h7⟩ := h.into i hi.1 hi.2
   exact ⟨j, by omega, by omega, h7⟩
  ·exact ⟨i, h3, h4, h.out i (by omega)⟩, fun n hn => h.all n (by omega)⟩
theorem yrd' (σ : Nat → Nat) (n i j : Nat) :
  (List.range n).map (yh1' σ i j) = (((List.range n).map σ).set i (σ j)).set j (σ i) := by
 apply List.ext_getElem
 ·simp
 ·intro k h1 h2
  simp only [List.getElem_map, List.getElem_range, List.getElem_set, yh1']
  repeat' split
  all_goals first | rfl | (exfalso; omega) | (congr 1; omega)
theorem PermF.swap (σ : Nat → Nat) {a b i j : Nat} (hi : a ≤ i ∧ i < b) (hj : a ≤ j ∧ j < b) : PermF a b σ (yh1' σ i j) :=
 ⟨fun k hk => by unfold yh1'; rw [if_neg (by omega), if_neg (by omega)], fun k h1 h2 => by
  unfold yh1'
  by_cases h3 : k = i
  ·exact ⟨j, hj.1, hj.2, by rw [if_pos h3]⟩
  ·by_cases h4 : k = j
   ·exact ⟨i, hi.1, hi.2, by rw [if_neg h3, if_pos h4]⟩
   ·exact ⟨k, h1, h2, by rw [if_neg h3, if_neg h4]⟩, fun n hn => by
  rw [yrd' σ n i j]
  have h1 := @List.set_set_perm _ ((List.range n).map σ) i j (by simp; omega) (by simp; omega)
  simpa using h1⟩
def yfy' (σ : Nat → Nat) (a b n k : Nat) : Nat := if a ≤ k ∧ k < a + n then σ (k - a + b) else if b ≤ k ∧ k < b + n then σ (k - b + a) else σ k
theorem ykr' (σ : Nat → Nat) (a b : Nat) : yfy' σ a b 0 = σ := by
 funext k
 unfold yfy'
 repeat' split
 all_goals first | rfl | (exfalso; omega) | (congr 1; omega)
theorem ykq' (σ : Nat → Nat) {a b n i : Nat} (h : a + n ≤ b) (hi : i < n) : yh1' (yfy' σ a b i) (a + i) (b + i) = yfy' σ a b (i + 1) := by
 funext k
 unfold yh1' yfy'
 repeat' split
 all_goals first | rfl | (exfalso; omega) | (congr 1; omega)
theorem yh2' (σ : Nat → Nat) {a b n lo hi : Nat} (h : a + n ≤ b) (h1 : lo ≤ a) (h2 : b + n ≤ hi) : PermF lo hi σ (yfy' σ a b n) := by
 have : ∀ i, i ≤ n → PermF lo hi σ (yfy' σ a b i) := by
  intro i
  induction i with
  | zero => intro _; rw [ykr']; exact .refl _ _ _
  | succ i ih =>
   intro hi'
   rw [← ykq' σ h (by omega)]
   exact (ih (by omega)).trans (.swap _ (by omega) (by omega))
 exact this n (Nat.le_refl _)
def rotF (σ : Nat → Nat) (a m b k : Nat) : Nat := if a ≤ k ∧ k < a + (b - m) then σ (k - a + m) else if a + (b - m) ≤ k ∧ k < b then σ (k - (b - m)) else σ k
theorem ym8' (σ : Nat → Nat) {m i : Nat} (h : i ≤ m) : yfy' σ (m - i) m i = rotF σ (m - i) m (m + i) := by
 funext k
 unfold yfy' rotF
 repeat' split
 all_goals first | rfl | (exfalso; omega) | (congr 1; omega)
theorem ym7' (σ : Nat → Nat) {m i j : Nat} (h : i ≤ m) (h2 : j < i) : rotF (yfy' σ (m - i) m j) (m - (i - j)) m (m + j) = rotF σ (m - i) m (m + j) := by
 funext k
 unfold rotF yfy'
 repeat' split
 all_goals first | rfl | (exfalso; omega) | (congr 1; omega)
theorem ykh' (σ : Nat → Nat) {m i j : Nat} (h : i ≤ m) (h2 : i < j) : rotF (yfy' σ (m - i) (m + j - i) i) (m - i) m (m + (j - i)) = rotF σ (m - i) m (m + j) := by
 funext k
 unfold rotF yfy'
 repeat' split
 all_goals first | rfl | (exfalso; omega) | (congr 1; omega)
theorem yhv' (σ : Nat → Nat) {m b : Nat} (h : m ≤ b) : rotF σ m m b = σ := by
 funext k
 unfold rotF
 repeat' split
 all_goals first | rfl | (exfalso; omega) | (congr 1; omega)
theorem yhw' (σ : Nat → Nat) (a m : Nat) : rotF σ a m m = σ := by
 funext k
 unfold rotF
 repeat' split
 all_goals first | rfl | (exfalso; omega) | (congr 1; omega)
def movU (σ : Nat → Nat) (a k j : Nat) : Nat := if a ≤ j ∧ j < k then σ (j + 1) else if j = k then σ a else σ j
def movD (σ : Nat → Nat) (m k j : Nat) : Nat := if k < j ∧ j ≤ m then σ (j - 1) else if j = k then σ m else σ j
theorem ymq' (σ : Nat → Nat) (a : Nat) : movU σ a a = σ := by
 funext k
 unfold movU
 repeat' split
 all_goals first | rfl | (exfalso; omega) | (congr 1; omega)
theorem ygr' (σ : Nat → Nat) (m : Nat) : movD σ m m = σ := by
 funext k
 unfold movD
 repeat' split
 all_goals first | rfl | (exfalso; omega) | (congr 1; omega)
theorem ymp' (σ : Nat → Nat) {a k : Nat} (h : a ≤ k) : yh1' (movU σ a k) k (k + 1) = movU σ a (k + 1) := by
 funext k
 unfold yh1' movU
 repeat' split
 all_goals first | rfl | (exfalso; omega) | (congr 1; omega)
theorem yi5' (σ : Nat → Nat) {m k : Nat} (h : k + 1 ≤ m) : yh1' (movD σ m (k + 1)) (k + 1) k = movD σ m k := by
 funext k
 unfold yh1' movD
 repeat' split
 all_goals first | rfl | (exfalso; omega) | (congr 1; omega)
theorem ys1' (σ : Nat → Nat) {a k lo hi : Nat} (h : a ≤ k) (h1 : lo ≤ a) (h2 : k < hi) : PermF lo hi σ (movU σ a k) := by
 obtain ⟨d, rfl⟩ : ∃ d, k = a + d := ⟨k - a, by omega⟩
 induction d with
 | zero => rw [Nat.add_zero, ymq']; exact .refl _ _ _
 | succ d ih =>
  rw [← Nat.add_assoc, ← ymp' σ (by omega : a ≤ a + d)]
  exact (ih (by omega) (by omega)).trans (.swap _ (by omega) (by omega))
theorem yi4' (σ : Nat → Nat) {m k lo hi : Nat} (h : k ≤ m) (h1 : lo ≤ k) (h2 : m < hi) : PermF lo hi σ (movD σ m k) := by
 obtain ⟨d, rfl⟩ : ∃ d, m = k + d := ⟨m - k, by omega⟩
 suffices ∀ e, e ≤ d → PermF lo hi σ (movD σ (k + d) (k + d - e)) by
  have := this d (Nat.le_refl _)
  rwa [show k + d - d = k by omega] at this
 intro e
 induction e with
 | zero => intro _; rw [Nat.sub_zero, ygr']; exact .refl _ _ _
 | succ e ih =>
  intro he
  have hs := yi5' σ (m := k + d) (k := k + d - (e + 1)) (by omega)
  rw [show k + d - (e + 1) + 1 = k + d - e by omega] at hs
  rw [← hs]
  exact (ih (by omega)).trans (.swap _ (by omega) (by omega))
theorem yjb' : ∀ (f : Nat) (σ : Nat → Nat) (m i j lo hi : Nat), i + j ≤ f → 0 < i → 0 < j → i ≤ m → lo ≤ m - i → m + j ≤ hi → PermF lo hi σ (rotF σ (m - i) m (m + j))
 | 0, _, _, i, j, _, _, h, h1, h2, _, _, _ => by omega
 | f + 1, σ, m, i, j, lo, hi, h, h1, h2, h3, h4, h5 => by
  rcases Nat.lt_trichotomy i j with h6 | h6 | h6
  ·rw [← ykh' σ h3 h6]
   exact (yh2' σ (a := m - i) (b := m + j - i) (n := i) (by omega) h4 (by omega)).trans (yjb' f _ m i (j - i) lo hi (by omega) h1 (by omega) h3 h4 (by omega))
  ·subst h6
   rw [← ym8' σ h3]
   exact yh2' σ (by omega) h4 h5
  ·rw [← ym7' σ h3 h6]
   exact (yh2' σ (a := m - i) (b := m) (n := j) (by omega) h4 h5).trans (yjb' f _ m (i - j) j lo hi (by omega) (by omega) h2 (by omega) (by omega) h5)
structure MergIn (K : Nat → Int) (σ : Nat → Nat) (a m b : Nat) : Prop where
 am : a < m
 mb : m < b
 left : SortF K σ a m
 right : SortF K σ m b
 tags : ∀ i j, a ≤ i → i < m → m ≤ j → j < b → σ i < σ j
def ybi' (K : Nat → Int) (σ σ' : Nat → Nat) (a b : Nat) : Prop := PermF a b σ σ' ∧ SortF K σ' a b
theorem ys0' {K : Nat → Int} {σ : Nat → Nat} {a b i : Nat} (h : MergIn K σ a (a + 1) b) (h1 : a + 1 ≤ i) (h2 : i ≤ b) (h3 : ∀ x, a + 1 ≤ x → x < i → K (σ x) < K (σ a)) (h4 : ∀ x, i ≤ x → x < b → K (σ a) ≤ K (σ x)) :
  ybi' K σ (movU σ a (i - 1)) a b := by
 refine ⟨ys1' σ (by omega) (Nat.le_refl _) (by omega), fun x y h5 h6 h7 => ?_⟩
 have ht := h.tags
 have hr := h.right
 unfold movU
 by_cases hx : x < i - 1
 ·rw [if_pos (by omega)]
  by_cases hy : y < i - 1
  ·rw [if_pos (by omega)]; exact hr _ _ (by omega) (by omega) (by omega)
  ·rw [if_neg (by omega)]
   by_cases hy2 : y = i - 1
   ·rw [if_pos hy2]; exact .inl (h3 _ (by omega) (by omega))
   ·rw [if_neg hy2]; exact hr _ _ (by omega) (by omega) (by omega)
 ·rw [if_neg (by omega), if_neg (c := a ≤ y ∧ y < i - 1) (by omega), if_neg (c := y = i - 1) (by omega)]
  by_cases hx2 : x = i - 1
  ·rw [if_pos hx2]
   have h8 := h4 y (by omega) h7
   have h9 := ht a y (by omega) (by omega) (by omega) h7
   unfold LexK; omega
  ·rw [if_neg hx2]; exact hr _ _ (by omega) h6 h7
theorem ymn' {K : Nat → Int} {σ : Nat → Nat} {a m i : Nat} (h : MergIn K σ a m (m + 1)) (h1 : a ≤ i) (h2 : i ≤ m) (h3 : ∀ x, a ≤ x → x < i → K (σ x) ≤ K (σ m)) (h4 : ∀ x, i ≤ x → x < m → K (σ m) < K (σ x)) :
  ybi' K σ (movD σ m i) a (m + 1) := by
 refine ⟨yi4' σ h2 h1 (by omega), fun x y h5 h6 h7 => ?_⟩
 have ht := h.tags
 have hr := h.left
 unfold movD
 by_cases hx : x < i
 ·rw [if_neg (by omega), if_neg (c := x = i) (by omega)]
  by_cases hy : i < y
  ·rw [if_pos (by omega)]; exact hr _ _ (by omega) (by omega) (by omega)
  ·rw [if_neg (by omega)]
   by_cases hy2 : y = i
   ·rw [if_pos hy2]
    have h8 := h3 x h5 hx
    have h9 := ht x m h5 (by omega) (by omega) (by omega)
    unfold LexK; omega
   ·rw [if_neg hy2]; exact hr _ _ (by omega) (by omega) (by omega)
 ·rw [if_pos (c := i < y ∧ y ≤ m) (by omega)]
  by_cases hx2 : x = i
  ·rw [if_neg (by omega), if_pos hx2]; exact .inl (h4 _ (by omega) (by omega))
  ·rw [if_pos (by omega)]; exact hr _ _ (by omega) (by omega) (by omega)
structure CutOk (K : Nat → Int) (σ : Nat → Nat) (a m b mid s e : Nat) : Prop where
 as_ : a ≤ s
 sm : s ≤ m
 smid : s ≤ mid
 me : m ≤ e
 eb : e ≤ b
 mide : mid ≤ e
 amid : a < mid
 midb : mid < b
 sum : s + e = mid + m
 cross1 : ∀ i j, a ≤ i → i < s → e ≤ j → j < b → K (σ i) ≤ K (σ j)
 cross2 : ∀ i j, s ≤ i → i < m → m ≤ j → j < e → K (σ j) < K (σ i)
theorem SortF.le {K : Nat → Int} {σ : Nat → Nat} {a b i j : Nat} (h : SortF K σ a b) (h1 : a ≤ i) (h2 : i ≤ j) (h3 : j < b) : K (σ i) ≤ K (σ j) := by
 rcases Nat.lt_or_ge i j with h4 | h4
 ·have := h i j h1 h4 h3
  unfold LexK at this
  omega
 ·obtain rfl : i = j := by omega
  exact Int.le_refl _
theorem yxn' {K : Nat → Int} {σ : Nat → Nat} {a m b mid s s0 r0 : Nat} (h : MergIn K σ a m b) (hmid : mid = (a + b) / 2) (h0 : m > mid → s0 + b = mid + m ∧ r0 = mid) (h0' : ¬ m > mid → s0 = a ∧ r0 = m) (h1 : s0 ≤ s) (h2 : s ≤ r0)
  (h3 : ∀ c, s0 ≤ c → c < s → K (σ c) ≤ K (σ (mid + m - 1 - c))) (h4 : ∀ c, s ≤ c → c < r0 → K (σ (mid + m - 1 - c)) < K (σ c)) (h5 : a + 2 ≤ b) : CutOk K σ a m b mid s (mid + m - s) := by
 have ham := h.am
 have hmb := h.mb
 have hl := h.left
 have hr := h.right
 by_cases hm : m > mid
 ·obtain ⟨e1, e2⟩ := h0 hm
  refine ⟨by omega, by omega, by omega, by omega, by omega, by omega, by omega, by omega, by omega, fun i j g1 g2 g3 g4 => ?_, fun i j g1 g2 g3 g4 => ?_⟩
  ·have k1 := h3 (s - 1) (by omega) (by omega)
   have k2 := hl.le (i := i) (j := s - 1) g1 (by omega) (by omega)
   have k3 := hr.le (i := mid + m - 1 - (s - 1)) (j := j) (by omega) (by omega) g4
   omega
  ·have k1 := h4 s (by omega) (by omega)
   have k2 := hl.le (i := s) (j := i) (by omega) (by omega) g2
   have k3 := hr.le (i := j) (j := mid + m - 1 - s) g3 (by omega) (by omega)
   omega
 ·obtain ⟨e1, e2⟩ := h0' hm
  refine ⟨by omega, by omega, by omega, by omega, by omega, by omega, by omega, by omega, by omega, fun i j g1 g2 g3 g4 => ?_, fun i j g1 g2 g3 g4 => ?_⟩
  ·have k1 := h3 (s - 1) (by omega) (by omega)
   have k2 := hl.le (i := i) (j := s - 1) g1 (by omega) (by omega)
   have k3 := hr.le (i := mid + m - 1 - (s - 1)) (j := j) (by omega) (by omega) g4
   omega
  ·have k1 := h4 s (by omega) (by omega)
   have k2 := hl.le (i := s) (j := i) (by omega) (by omega) g2
   have k3 := hr.le (i := j) (j := mid + m - 1 - s) g3 (by omega) (by omega)
   omega
section
variable {K : Nat → Int} {σ σ2 σ3 : Nat → Nat} {a m b mid s e : Nat}
theorem CutOk.rot (h : MergIn K σ a m b) (c : CutOk K σ a m b mid s e) : PermF a b σ (rotF σ s m e) := by
 have := c.as_; have := c.sm; have := c.me; have := c.eb
 by_cases h1 : s = m
 ·subst h1; rw [yhv' σ c.me]; exact .refl _ _ _
 ·by_cases h2 : m = e
  ·subst h2; rw [yhw' σ s m]; exact .refl _ _ _
  ·have := yjb' (m - s + (e - m)) σ m (m - s) (e - m) a b (Nat.le_refl _) (by omega) (by omega) (by omega) (by omega) (by omega)
   rwa [show m - (m - s) = s by omega, show m + (e - m) = e by omega] at this
theorem CutOk.rot_at (c : CutOk K σ a m b mid s e) (k : Nat) : rotF σ s m e k = if s ≤ k ∧ k < mid then σ (k - s + m) else if mid ≤ k ∧ k < e then σ (k - mid + s) else σ k := by
 have := c.sum; have := c.smid; have := c.me; have := c.sm
 unfold rotF
 rw [show s + (e - m) = mid by omega]
 split
 ·rfl
 ·split
  ·congr 1; omega
  ·rfl
theorem CutOk.in1 (h : MergIn K σ a m b) (c : CutOk K σ a m b mid s e) (h1 : a < s) (h2 : s < mid) : MergIn K (rotF σ s m e) a s mid := by
 have := c.sum; have := c.eb; have := c.me; have := c.sm; have := c.mide
 refine ⟨h1, h2, fun i j g1 g2 g3 => ?_, fun i j g1 g2 g3 => ?_, fun i j g1 g2 g3 g4 => ?_⟩
 ·rw [c.rot_at, c.rot_at, if_neg (by omega), if_neg (by omega), if_neg (by omega), if_neg (by omega)]
  exact h.left _ _ g1 g2 (by omega)
 ·rw [c.rot_at, c.rot_at, if_pos (by omega), if_pos (by omega)]
  exact h.right _ _ (by omega) (by omega) (by omega)
 ·rw [c.rot_at, c.rot_at, if_neg (by omega), if_neg (by omega), if_pos (by omega)]
  exact h.tags _ _ g1 (by omega) (by omega) (by omega)
theorem CutOk.in2 (h : MergIn K σ a m b) (c : CutOk K σ a m b mid s e) (hp : PermF a mid (rotF σ s m e) σ2) (h1 : mid < e) (h2 : e < b) : MergIn K σ2 mid e b := by
 have := c.sum; have := c.eb; have := c.me; have := c.sm; have := c.smid; have := c.as_
 refine ⟨h1, h2, fun i j g1 g2 g3 => ?_, fun i j g1 g2 g3 => ?_, fun i j g1 g2 g3 g4 => ?_⟩
 ·rw [hp.out _ (.inr g1), hp.out _ (.inr (by omega)), c.rot_at, c.rot_at, if_neg (by omega), if_neg (c := s ≤ j ∧ j < mid) (by omega), if_pos (by omega), if_pos (by omega)]
  exact h.left _ _ (by omega) (by omega) (by omega)
 ·rw [hp.out _ (.inr (by omega)), hp.out _ (.inr (by omega)), c.rot_at, c.rot_at, if_neg (by omega), if_neg (by omega), if_neg (c := s ≤ j ∧ j < mid) (by omega), if_neg (c := mid ≤ j ∧ j < e) (by omega)]
  exact h.right _ _ (by omega) g2 g3
 ·rw [hp.out _ (.inr g1), hp.out _ (.inr (by omega)), c.rot_at, c.rot_at, if_neg (by omega), if_pos (by omega), if_neg (c := s ≤ j ∧ j < mid) (by omega), if_neg (c := mid ≤ j ∧ j < e) (by omega)]
  exact h.tags _ _ (by omega) (by omega) (by omega) g4
theorem CutOk.done (h : MergIn K σ a m b) (c : CutOk K σ a m b mid s e) (h1 : a < s ∧ s < mid → ybi' K (rotF σ s m e) σ2 a mid) (h1' : ¬ (a < s ∧ s < mid) → σ2 = rotF σ s m e)
  (h2 : mid < e ∧ e < b → ybi' K σ2 σ3 mid b) (h2' : ¬ (mid < e ∧ e < b) → σ3 = σ2) : ybi' K σ σ3 a b := by
 have q1 := c.sum; have q2 := c.eb; have q3 := c.me; have q4 := c.sm; have q5 := c.smid; have q6 := c.as_; have q7 := c.mide; have q8 := c.amid; have q9 := c.midb
 have p1 : PermF a mid (rotF σ s m e) σ2 := by
  by_cases hh : a < s ∧ s < mid
  ·exact (h1 hh).1
  ·rw [h1' hh]; exact .refl _ _ _
 have p2 : PermF mid b σ2 σ3 := by
  by_cases hh : mid < e ∧ e < b
  ·exact (h2 hh).1
  ·rw [h2' hh]; exact .refl _ _ _
 have s1 : SortF K σ2 a mid := by
  by_cases hh : a < s ∧ s < mid
  ·exact (h1 hh).2
  ·rw [h1' hh]
   intro i j g1 g2 g3
   rw [c.rot_at, c.rot_at]
   by_cases k1 : s = mid
   ·rw [if_neg (by omega), if_neg (by omega), if_neg (by omega), if_neg (by omega)]
    exact h.left _ _ g1 g2 (by omega)
   ·rw [if_pos (by omega), if_pos (by omega)]
    exact h.right _ _ (by omega) (by omega) (by omega)
 have s2 : SortF K σ3 mid b := by
  by_cases hh : mid < e ∧ e < b
  ·exact (h2 hh).2
  ·rw [h2' hh]
   intro i j g1 g2 g3
   rw [p1.out _ (.inr g1), p1.out _ (.inr (by omega)), c.rot_at, c.rot_at, if_neg (by omega), if_neg (c := s ≤ j ∧ j < mid) (by omega)]
   by_cases k1 : mid = e
   ·rw [if_neg (by omega), if_neg (by omega)]
    exact h.right _ _ (by omega) g2 g3
   ·rw [if_pos (by omega), if_pos (by omega)]
    exact h.left _ _ (by omega) (by omega) (by omega)
 have cr : ∀ i j, a ≤ i → i < mid → mid ≤ j → j < b → LexK K (rotF σ s m e i) (rotF σ s m e j) := by
  intro i j g1 g2 g3 g4
  rw [c.rot_at, c.rot_at, if_neg (c := s ≤ j ∧ j < mid) (by omega)]
  by_cases k1 : i < s
  ·rw [if_neg (by omega), if_neg (by omega)]
   by_cases k2 : j < e
   ·rw [if_pos (by omega)]; exact h.left _ _ g1 (by omega) (by omega)
   ·rw [if_neg (by omega)]
    have z1 := c.cross1 i j g1 k1 (by omega) g4
    have z2 := h.tags i j g1 (by omega) (by omega) g4
    unfold LexK; omega
  ·rw [if_pos (by omega)]
   by_cases k2 : j < e
   ·rw [if_pos (by omega)]; exact .inl (c.cross2 _ _ (by omega) (by omega) (by omega) (by omega))
   ·rw [if_neg (by omega)]; exact h.right _ _ (by omega) (by omega) g4
 refine ⟨((CutOk.rot h c).trans (p1.wide (Nat.le_refl _) (by omega))).trans (p2.wide (by omega) (Nat.le_refl _)), fun i j g1 g2 g3 => ?_⟩
 by_cases k1 : j < mid
 ·rw [p2.out _ (.inl (by omega)), p2.out _ (.inl k1)]; exact s1 _ _ g1 g2 k1
 ·by_cases k2 : mid ≤ i
  ·exact s2 _ _ k2 g2 g3
  ·obtain ⟨i', e1, e2, e3⟩ := p1.into i g1 (by omega)
   obtain ⟨j', e4, e5, e6⟩ := p2.into j (by omega) g3
   rw [p2.out _ (.inl (by omega)), e3, e6, p1.out _ (.inr e4)]
   exact cr _ _ e1 e2 e4 e5
end
structure InBlk (K : Nat → Int) (σ : Nat → Nat) (a b : Nat) : Prop where
 sort : SortF K σ a b
 own : ∀ i, a ≤ i → i < b → a ≤ σ i ∧ σ i < b
theorem InBlk.join {K : Nat → Int} {σ σ' : Nat → Nat} {a m b : Nat} (ham : a ≤ m) (hmb : m ≤ b) (h2 : InBlk K σ a m) (h3 : InBlk K σ m b) (h4 : ybi' K σ σ' a b) : InBlk K σ' a b :=
 ⟨h4.2, fun i g1 g2 => by
  obtain ⟨j, e1, e2, e3⟩ := h4.1.into i g1 g2
  rw [e3]
  by_cases hj : j < m
  ·have := h2.own j e1 hj
   omega
  ·have := h3.own j (by omega) e2
   omega⟩
theorem InBlk.merg {K : Nat → Int} {σ : Nat → Nat} {a m b : Nat} (h : InBlk K σ a m) (h' : InBlk K σ m b) (h1 : a < m) (h2 : m < b) : MergIn K σ a m b :=
 ⟨h1, h2, h.sort, h'.sort, fun i j g1 g2 g3 g4 => by have := h.own i g1 g2; have := h'.own j g3 g4; omega⟩
theorem InBlk.keep {K : Nat → Int} {σ σ' : Nat → Nat} {a b c d : Nat} (h : InBlk K σ a b) (hp : PermF c d σ σ') (hd : b ≤ c ∨ d ≤ a) : InBlk K σ' a b :=
 ⟨fun i j g1 g2 g3 => by rw [hp.out i (by omega), hp.out j (by omega)]; exact h.sort i j g1 g2 g3, fun i g1 g2 => by rw [hp.out i (by omega)]; exact h.own i g1 g2⟩
theorem InBlk.snoc {K : Nat → Int} {σ : Nat → Nat} {a i j : Nat} (h : InBlk K σ a i) (hi : σ i = i) (h1 : a ≤ j) (h2 : j ≤ i) (h3 : ∀ x, j ≤ x → x < i → K (σ i) < K (σ x)) (h4 : j = a ∨ K (σ (j - 1)) ≤ K (σ i)) : InBlk K (movD σ i j) a (i + 1) := by
 by_cases hai : a = i
 ·obtain rfl : j = i := by omega
  subst hai
  rw [ygr']
  refine ⟨fun x y g1 g2 g3 => by omega, fun x g1 g2 => ?_⟩
  have : x = a := by omega
  rw [this, hi]
  omega
 have hm : MergIn K σ a i (i + 1) := ⟨by omega, by omega, h.sort, fun x y g1 g2 g3 => by omega, fun x y g1 g2 g3 g4 => by
  obtain rfl : y = i := by omega
  have := h.own x g1 g2
  omega⟩
 have ho := ymn' hm h1 h2 (fun x g1 g2 => by
  rcases h4 with h4 | h4
  ·omega
  ·have := h.sort.le (i := x) (j := j - 1) g1 (by omega) (by omega)
   omega) h3
 refine ⟨ho.2, fun x g1 g2 => ?_⟩
 obtain ⟨y, e1, e2, e3⟩ := ho.1.into x g1 g2
 rw [e3]
 by_cases hy : y < i
 ·have := h.own y e1 hy; omega
 ·obtain rfl : y = i := by omega
  omega
theorem yk9' {K : Nat → Int} {l1 l2 : List Nat} (hp : l1.Perm l2) (h1 : l1.Pairwise (LexK K)) (h2 : l2.Pairwise (LexK K)) : l1 = l2 :=
 hp.eq_of_pairwise (fun x y _ _ g1 g2 => by unfold LexK at g1 g2; omega) h1 h2
end Go.Av

namespace Go.Av
open Go.RowKit
section
variable {P : Program} {w0 w : World} {R Ts Ts' : List Thing} {rows : List (Value × Bs)}
def yap' (n : Nat) (f : Nat → Value) : List Value := (List.range n).map f
theorem yr3' {n i : Nat} {f : Nat → Value} (h : i < n) : (yap' n f)[i]? = some (f i) := by simp [yap', h]
theorem yjy' (n : Nat) (f : Nat → Value) (i : Nat) (v : Value) : (yap' n f).set i v = yap' n (fun k => if k = i then v else f k) := by
 apply List.ext_getElem
 ·simp [yap']
 ·intro k h1 h2
  simp only [yap', List.getElem_set, List.getElem_map, List.getElem_range]
  by_cases h : i = k
  ·rw [if_pos h, if_pos h.symm]
  ·rw [if_neg h, if_neg (fun e => h e.symm)]
theorem ynb' {ty : TypeId} {b i : Nat} {v u : Value} (hs : yng' P ty 1 = true) (hc : v.cells = #[v]) (hcell : w.cell? ⟨b, i, none⟩ = some u) (hf : w.frozen? ⟨b, i, none⟩ = false) (h1 : v.oneCell' = true) :
  (Instr.storeAt ty (.pointer (some ⟨b, i, none⟩)) v).run P w = .ok () (w.setCell ⟨b, i, none⟩ v) := by
 unfold yng' at hs
 cases hi : P.info? ty with
 | none => simp [hi] at hs
 | some ii =>
  simp only [hi, beq_iff_eq] at hs
  have := run_storeCells_cells (P := P) b i [v] 0 w (fun j hj => by
    obtain rfl : j = 0 := by simpa using hj
    simp [hcell]) (fun j hj => by
    obtain rfl : j = 0 := by simpa using hj
    simpa using hf)
   (fun v' hv => by rw [List.mem_singleton] at hv; rw [hv]; exact h1)
  simp only [Nat.add_zero] at this
  have hsc : w.setCells b i [v] = w.setCell ⟨b, i, none⟩ v := rfl
  rw [hsc] at this
  simp [Instr.storeAt, Instr.sureAddr, Sem.run_bind, storeVar, sizeOf, typeInfo, hi, hs, hc, this]
theorem yq8' {y : Nat} {off n c i : Nat} {xs : List Value} {ty : TypeId} {v : Value} (H : Sep w0 w (yaf' 1 (.slice (some ⟨y, off, none⟩) n c) xs :: R) rows) (hs : yng' P ty 1 = true) (hc : v.cells = #[v]) (h1 : v.oneCell' = true) (hi : i < n) :
  ∃ w', (Instr.storeAt ty (.pointer (some ⟨y, off + i, none⟩)) v).run P w = .ok () w' ∧ Sep w0 w' (yaf' 1 (.slice (some ⟨y, off, none⟩) n c) (xs.set i v) :: R) rows := by
 obtain ⟨h2, h3, ⟨u, h4⟩, h5⟩ := H.rowSet hi v
 rw [Addr.add_lit] at h2 h4 h5
 exact ⟨_, ynb' hs hc h4 h2 h1, h5⟩
variable {ops : Array Oper} {Q : Exit → Act → World → Prop} {rest : List Oper} {a : Act} {dst : Option Tmp} {tyy : TypeId} {pos : String} {aft : Array Edge} {g : Option (Nat × Bool)}
theorem yc3' {y off n c i : Nat} {xs : List Value} {ty : TypeId} {v : Value} {x z : Operand} (H : Hid (Sep w0 w (yaf' 1 (.slice (some ⟨y, off, none⟩) n c) xs :: R) rows)) (hx : a.eval x = .pointer (some ⟨y, off + i, none⟩)) (hy : a.eval z = v) (hc : v.cells = #[v])
  (hw : Region.wanted ⟨dst, .store ty x z, tyy, pos, aft, g⟩ (yielded ops a.tmps) = true) (hs : yng' P ty 1 = true) (h1 : v.oneCell' = true) (hi : i < n)
  (k : ∀ w', Hid (Sep w0 w' (yaf' 1 (.slice (some ⟨y, off, none⟩) n c) (xs.set i v) :: R) rows) → wpList P ops Q rest (a.put dst undef) w') : wpList P ops Q (⟨dst, .store ty x z, tyy, pos, aft, g⟩ :: rest) a w := by
 obtain ⟨w', h2, h3⟩ := yq8' (P := P) (ty := ty) H hs hc h1 hi
 refine yh8' hw ?_ (k w' h3)
 unfold execOp
 dsimp only
 rw [hx, hy, Sem.run_bind, h2]
 rfl
end
end Go.Av

namespace Go.Av
open Go.RowKit
def strF (f : Nat → Bs) (σ : Nat → Nat) (k : Nat) : Value := sv (f (σ k))
theorem yg5' (n : Nat) (f : Nat → Bs) (σ : Nat → Nat) (i j : Nat) : ((yap' n (strF f σ)).set i (sv (f (σ j)))).set j (sv (f (σ i))) = yap' n (strF f (yh1' σ i j)) := by
 rw [yjy', yjy']
 unfold yap'
 apply List.map_congr_left
 intro k _
 unfold strF yh1'
 by_cases h1 : k = j
 ·rw [if_pos h1]
  by_cases h2 : k = i
  ·rw [if_pos h2, ← h1, h2]
  ·rw [if_neg h2, if_pos h1]
 ·rw [if_neg h1]
  by_cases h2 : k = i
  ·rw [if_pos h2, if_pos h2]
  ·rw [if_neg h2, if_neg h2, if_neg h1]
theorem ydc' {x : Int} {k n : Nat} (h : x = (k : Int)) (hk : k < n) (hn : n ≤ 100000) : IntKind.i64.wrap x = x ∧ ((0 ≤ x ∧ x < (n : Int)) = True) ∧ x.toNat = k :=
 ⟨Go.IntWalk.i64_in _ (by omega), eq_true ⟨by omega, by omega⟩, by omega⟩
end Go.Av
namespace Go.Proofs.YtcnkifbjlihaoaaGreatDoor
open Go.RowKit Go.Av
section
variable {w0 w : World} {R : List Thing} {rows : List (Value × Bs)} {g off n c : Nat} {f : Nat → Bs} {σ : Nat → Nat}
theorem ybu' {W : World} (h : Sep w0 W (yaf' 1 (.slice (some ⟨g, off, none⟩) n c) (yap' n (strF f σ)) :: R) rows) {i : Nat} (hi : i < n) :
  (Instr.loadAt 9 (.pointer (some ⟨g, off + i, none⟩))).run Tryz.prog W = .ok (strF f σ i) W := by
 obtain ⟨D, hD⟩ := h.fst
 obtain ⟨E, hE, -⟩ := OwnRow.read hD
 exact ybz' hE (by kernel_rfl) (yr3' hi)
set_option maxRecDepth 100000 in
set_option maxHeartbeats 2000000 in
theorem ye0' (h : Sep w0 w (yaf' 1 (.slice (some ⟨g, off, none⟩) n c) (yap' n (strF f σ)) :: R) rows) (a b m : Nat) (fv : Value) (h1 : a + m ≤ b) (h2 : b + m ≤ n) (hn : n ≤ 100000) :
  Calls Tryz.prog 295 #[.slice (some ⟨g, off, none⟩) n c, .int .i64 (a : Int), .int .i64 (b : Int), .int .i64 (m : Int), fv] w fun e w' => e = .returned (.tuple #[]) ∧
   Sep w0 w' (yaf' 1 (.slice (some ⟨g, off, none⟩) n c) (yap' n (strF f (yfy' σ a b m))) :: R) rows := by
 have HX := Lib.hid h
 clear h
 go_enter Tryz.func295, Tryz.ntmps295
 go_wp2_with fail
 go_loopg [10] m (fun k v wr => ∃ i : Nat, i + k = m ∧ v = .int .i64 (i : Int) ∧ Sep w0 wr (yaf' 1 (.slice (some ⟨g, off, none⟩) n c) (yap' n (strF f (yfy' σ a b i))) :: R) rows)
 case atStart => exact ⟨0, by omega, rfl, by rw [ykr']; exact HX.out⟩
 case round =>
  rename World => w
  obtain ⟨i, hik, rfl, hS⟩ := hrel
  replace HX := Lib.hid hS
  clear hS
  by_cases hlt : i < m
  case neg =>
   obtain rfl : i = m := by omega
   clear hlt hik
   go_wp2_with fail
   go_end0
   exact ⟨rfl, HX.out⟩
  case pos =>
   have q0 : decide (i < m) = true := decide_eq_true hlt
   obtain ⟨τ, hτ⟩ : ∃ τ, yfy' σ a b i = τ := ⟨_, rfl⟩
   rw [hτ] at HX
   have HT := Lib.hid hτ
   clear hτ
   obtain ⟨hn1, hn2, hn3⟩ := ydc' (x := (a : Int) + (i : Int)) (k := a + i) (n := n) (by omega) (by omega) hn
   obtain ⟨hn4, hn5, hn6⟩ := ydc' (x := (b : Int) + (i : Int)) (k := b + i) (n := n) (by omega) (by omega) hn
   go_wp2_with fail
   refine yao' (fun W => W = w.drew) 20 (by kernel_rfl) ?_
   replace HX := Lib.hid HX.out.drew
   generalize w.drew = w at HX ⊢
   have hl := ybu' HX.out (i := a + i) (by omega)
   have hl2 := ybu' HX.out (i := b + i) (by omega)
   refine rT [(0, false), (1, false), (2, false), (3, false), (4, false), (5, false), (6, false), (7, false), (8, false), (9, false), (10, false), (11, false), (12, false), (13, true), (14, false), (15, false), (16, false), (17, false), (18, false), (19, true)] 4 ?_
   apply Exists.intro; refine ⟨?_, rfl, ?_⟩
   ·iterate 20 (first | refine yDp ?_ | ((first | apply yax' | apply yas'); (· (simp only [k_i, k_j, k_k]; try rfl)); (· rfl); (· (intros; go_simp; (try simp only [hn1, hn2, hn3, hn4, hn5, hn6, ↓reduceIte, and_self, Int.toNat_natCast]); try with_reducible rfl)); (· (simp only [Act.put, k_a, k_b, k_c, k_d, k_e, k_f, k_g, k_h]; try rfl))))
    exact rfl
   refine rL [20, 21, 22, 23] 0 ?_
   simp only [List.filterMap_cons, List.filterMap_nil, k_i, k_j, k_k]
   clear hl hl2
   go_step
   go_step
   refine yc3' (i := (a + i)) (v := (strF f τ (b + i))) HX rfl rfl rfl rfl (by kernel_rfl) rfl (by omega) ?_
   clear HX
   intro w HX
   simp only [Act.put, k_a, k_b, k_c] at HX ⊢
   go_step
   go_step
   refine yc3' (i := (b + i)) (v := (strF f τ (a + i))) HX rfl rfl rfl rfl (by kernel_rfl) rfl (by omega) ?_
   clear HX
   intro w HX
   simp only [Act.put, k_a, k_b, k_c] at HX ⊢
   have h3 := HX.out
   rw [show (((yap' n (strF f τ)).set (a + i) (strF f τ (b + i))).set (b + i) (strF f τ (a + i))) = _ from yg5' n f τ (a + i) (b + i), ← HT.out, ykq' σ h1 hlt] at h3
   have HX := Lib.hid h3
   clear h3
   go_wp2_with fail
   go_roundg (m - (i + 1))
   case rel => exact ⟨i + 1, by omega, by go_num, HX.out⟩
   case measure => omega
set_option maxRecDepth 100000 in
set_option maxHeartbeats 2000000 in
theorem yki' (h : Sep w0 w (yaf' 1 (.slice (some ⟨g, off, none⟩) n c) (yap' n (strF f σ)) :: R) rows) (a m b : Nat) (fv : Value) (h1 : a < m) (h2 : m < b) (h3 : b ≤ n) (hn : n ≤ 100000) :
  Calls Tryz.prog 267 #[.slice (some ⟨g, off, none⟩) n c, .int .i64 (a : Int), .int .i64 (m : Int), .int .i64 (b : Int), fv] w fun e w' => e = .returned (.tuple #[]) ∧
   Sep w0 w' (yaf' 1 (.slice (some ⟨g, off, none⟩) n c) (yap' n (strF f (rotF σ a m b))) :: R) rows := by
 have HX := Lib.hid h
 clear h
 have e1 : (m : Int) - (a : Int) = ((m - a : Nat) : Int) := by omega
 have e2 : (b : Int) - (m : Int) = ((b - m : Nat) : Int) := by omega
 go_enter Tryz.func267, Tryz.ntmps267
 go_wp2_with fail
 go_loopg [10, 11] (m - a + (b - m)) (fun k v v' wr => ∃ (i j : Nat) (τ : Nat → Nat), i + j = k ∧ v = .int .i64 (i : Int) ∧ v' = .int .i64 (j : Int) ∧ 0 < i ∧ 0 < j ∧ i ≤ m ∧ a ≤ m - i ∧ m + j ≤ b ∧ rotF τ (m - i) m (m + j) = rotF σ a m b ∧
  Sep w0 wr (yaf' 1 (.slice (some ⟨g, off, none⟩) n c) (yap' n (strF f τ)) :: R) rows)
 case atStart => exact ⟨m - a, b - m, σ, by omega, by go_num, by go_num, by omega, by omega, by omega, by omega, by omega, by rw [show m - (m - a) = a by omega, show m + (b - m) = b by omega], HX.out⟩
 case round =>
  rename World => w
  obtain ⟨i, j, τ, hij, rfl, rfl, hi, hj, him, hai, hjb, hrot, hS⟩ := hrel
  clear HX e1 e2
  have HX := Lib.hid hS
  have HR := Lib.hid hrot
  clear hS hrot
  have e1 : ((m - i : Nat) : Int) = (m : Int) - (i : Int) := by omega
  rcases Nat.lt_trichotomy i j with h4 | h4 | h4
  ·have q1 : ((i : Int) != (j : Int)) = true := by rw [bne_iff_ne]; omega
   have q2 : decide (j < i) = false := decide_eq_false (by omega)
   have e2 : ((m + j - i : Nat) : Int) = (m : Int) + (j : Int) - (i : Int) := by omega
   have hc := ye0' HX.out (m - i) (m + j - i) i fv (by omega) (by omega) hn
   rw [e1, e2] at hc
   go_wp2_with fail
   refine hc.mono ?_
   rintro e w ⟨rfl, hx⟩
   replace HX := Lib.hid hx
   clear hc hx
   go_wp2_with fail
   go_roundg (i + (j - i))
   case rel => exact ⟨i, j - i, _, by omega, by go_num, by go_num, by omega, by omega, by omega, by omega, by omega, by rw [ykh' τ him h4]; exact HR.out, HX.out⟩
   case measure => omega
  ·subst h4
   have q1 : ((i : Int) != (i : Int)) = false := by simp
   have hc := ye0' HX.out (m - i) m i fv (by omega) (by omega) hn
   rw [e1] at hc
   go_wp2_with fail
   refine hc.mono ?_
   rintro e w ⟨rfl, hx⟩
   replace HX := Lib.hid hx
   clear hc hx
   go_wp2_with fail
   go_end0
   refine ⟨rfl, ?_⟩
   rw [← HR.out, ← ym8' τ him]
   exact HX.out
  ·have q1 : ((i : Int) != (j : Int)) = true := by rw [bne_iff_ne]; omega
   have q2 : decide (j < i) = true := decide_eq_true (by omega)
   have hc := ye0' HX.out (m - i) m j fv (by omega) (by omega) hn
   rw [e1] at hc
   go_wp2_with fail
   refine hc.mono ?_
   rintro e w ⟨rfl, hx⟩
   replace HX := Lib.hid hx
   clear hc hx
   go_wp2_with fail
   go_roundg (i - j + j)
   case rel => exact ⟨i - j, j, _, by omega, by go_num, by go_num, by omega, by omega, by omega, by omega, by omega, by rw [ym7' τ him h4]; exact HR.out, HX.out⟩
   case measure => omega
end
end Go.Proofs.YtcnkifbjlihaoaaGreatDoor

namespace Go.Av
section
variable {P : Program} {ops : Array Oper} {Q : Exit → Act → World → Prop} {md : Region.Mode} {S : World → Prop}
theorem yce' {N : Nat} {fuel : Nat} {listed : Array Bool} {a : Act} {w : World} (rs : List Nat) (hr : Region.ready md ops listed = rs) (hne : rs ≠ [])
  (h : ∀ i ∈ rs, ∃ o, ops[i]? = some o ∧ ∀ K : Act → World → Prop, (∀ a' w', S w' → ybw' P md ops Q S N fuel (listed.setIfInBounds i true) a' w' → K a' w') → wpList P ops (Exit.then K Q) [o] a w) :
  ybw' P md ops Q S N (fuel + 1) listed a w := by
 refine ⟨fun h0 => absurd (hr.symm.trans h0) hne, fun j hj => ?_⟩
 rw [hr] at hj
 obtain ⟨o, ho, h⟩ := h j hj
 have h := h (fun a' w' => (j < N → S w → S w') ∧ ybw' P md ops Q S N fuel (listed.setIfInBounds j true) a' w') (fun a' w' h1 h2 => ⟨fun _ _ => h1, h2⟩)
 unfold wpList at h
 unfold wpOp
 simp only [ho]
 by_cases hw : Region.wanted o (yielded ops a.tmps) = true
 ·rw [if_pos hw] at h ⊢
  rcases h with h | ⟨h1, h2⟩
  ·refine .inl ?_
   unfold Oper.wp at h ⊢
   generalize (execOp a.eval o).run P w = r at h ⊢
   cases r with
   | ok n w' =>
    cases n <;> simp only [Oper.upon, wpList, Exit.then] at h ⊢
    case value => exact h
    case skip => exact h
    case defer => exact h
    case enter =>
     refine Calls.mono h fun e w'' he => ?_
     cases e with
     | returned v => exact he
     | panicked c => exact he
     | outgrown => exact he
    case row => exact h
   | halt x w' => cases x <;> simp only [Oper.upon, Exit.then] at h ⊢ <;> exact h
  ·exact .inr ⟨h1, h2⟩
 ·rw [if_neg hw] at h ⊢
  exact h
end
end Go.Av

namespace Go.Av
section
variable {P : Program} {ops : Array Oper} {Q : Exit → Act → World → Prop} {md : Region.Mode} {S : World → Prop}
theorem ygh' {N i : Nat} {o : Oper} {fuel : Nat} {listed : Array Bool} {a a' : Act} {w : World} (hr : Region.ready md ops listed = [i]) (ho : ops[i]? = some o) (hw : Region.wanted o (yielded ops a.tmps) = false) (ha : a' = a.put o.dst undef) (hS : S w)
  (h : ybw' P md ops Q S N fuel (listed.setIfInBounds i true) a' w) : ybw' P md ops Q S N (fuel + 1) listed a w := by
 refine ya0' hr ho (fun K hK => ?_)
 unfold wpList
 rw [if_neg (by rw [hw]; simp)]
 unfold wpList
 rw [← ha]
 exact hK _ _ hS h
end
end Go.Av

namespace Go.Proofs.YtcnkifbjlihaoaaGreatDoor
open Go.RowKit Go.Av
def yuv' (w0 : World) (Ky : Bs → Int) (x y : Bs) (R : List Thing) (rows : List (Value × Bs)) (e : Ending) (w' : World) : Prop :=
 ∃ r : Int, e = .returned (.int .i64 r) ∧ (r < 0 ↔ Ky x < Ky y) ∧ Sep w0 w' R rows
def ylw' (w0 : World) (Ky : Bs → Int) (ok : Bs → Prop) : Prop := ∀ (x y : Bs) (w : World) (R : List Thing) (rows : List (Value × Bs)), ok x → ok y → Sep w0 w R rows → Calls Tryz.prog 154 #[sv x, sv y] w (yuv' w0 Ky x y R rows)
abbrev yi0' : Value := .func (.func 154) #[] #[]
section
variable {w0 w : World} {R : List Thing} {rows : List (Value × Bs)} {g off n c : Nat} {f : Nat → Bs} {σ : Nat → Nat} {Ky : Bs → Int} {ok : Bs → Prop}
def yeq' (w0 : World) (g off n c : Nat) (f : Nat → Bs) (R : List Thing) (rows : List (Value × Bs)) (X : (Nat → Nat) → Prop) (e : Ending) (w' : World) : Prop :=
 ∃ τ, e = .returned (.tuple #[]) ∧ X τ ∧ Sep w0 w' (yaf' 1 (.slice (some ⟨g, off, none⟩) n c) (yap' n (strF f τ)) :: R) rows
set_option maxRecDepth 100000 in
set_option maxHeartbeats 4000000 in
theorem ygo' (hc : ylw' w0 Ky ok) (hf : ∀ i, ok (f i)) (h : Sep w0 w (yaf' 1 (.slice (some ⟨g, off, none⟩) n c) (yap' n (strF f σ)) :: R) rows) (a b : Nat) (h1 : a ≤ b) (h2 : b ≤ n) (hn : n ≤ 100000) (hs : ∀ x, a ≤ x → x < b → σ x = x) :
  Calls Tryz.prog 224 #[.slice (some ⟨g, off, none⟩) n c, .int .i64 (a : Int), .int .i64 (b : Int), yi0'] w (yeq' w0 g off n c f R rows fun τ => PermF a b σ τ ∧ InBlk (fun i => Ky (f i)) τ a b) := by
 have HC := Lib.hid hc
 have HF := Lib.hid hf
 have HX := Lib.hid h
 have HS := Lib.hid hs
 clear h hc hf hs
 by_cases hab : a = b
 ·subst hab
  have q1 : decide ((a : Int) + 1 < (a : Int)) = false := decide_eq_false (by omega)
  have q1' : decide (a + 1 < a) = false := decide_eq_false (by omega)
  go_enter Tryz.func224, Tryz.ntmps224
  go_wp2_with fail
  refine wp_loop_rounds 1 ?_
  rw [rounds_succ]
  go_wp2_with fail
  go_end0
  exact ⟨σ, rfl, ⟨.refl _ _ _, ⟨fun x y g1 g2 g3 => by omega, fun x g1 g2 => by omega⟩⟩, HX.out⟩
 go_enter Tryz.func224, Tryz.ntmps224
 go_wp2_with fail
 go_loopg [8] (b - (a + 1)) (fun k v wr => ∃ (i : Nat) (τ : Nat → Nat), i + k = b ∧ v = .int .i64 (i : Int) ∧ a < i ∧ PermF a b σ τ ∧ InBlk (fun i => Ky (f i)) τ a i ∧ (∀ x, i ≤ x → x < b → τ x = x) ∧
  Sep w0 wr (yaf' 1 (.slice (some ⟨g, off, none⟩) n c) (yap' n (strF f τ)) :: R) rows)
 case atStart =>
  refine ⟨a + 1, σ, by omega, by go_num, by omega, .refl _ _ _, ⟨fun x y g1 g2 g3 => by omega, fun x g1 g2 => ?_⟩, fun x g1 g2 => HS.out x (by omega) g2, HX.out⟩
  have := HS.out x g1 (by omega)
  omega
 case round =>
  rename World => w
  obtain ⟨i, τ, hik, rfl, hai, hp, hb, hid, hS⟩ := hrel
  clear HX HS
  have HX := Lib.hid hS
  have HT := Lib.hid (show _ ∧ _ ∧ _ from ⟨hp, hb, hid⟩)
  clear hS hp hb hid
  by_cases hlt : i < b
  case neg =>
   obtain rfl : i = b := by omega
   clear hlt hik
   go_wp2_with fail
   go_end0
   exact ⟨τ, rfl, ⟨HT.out.1, HT.out.2.1⟩, HX.out⟩
  case pos =>
   have q0 : decide (i < b) = true := decide_eq_true hlt
   go_wp2_with fail
   go_loopg [9] (i - a) (fun k v wr => ∃ j : Nat, a + k = j ∧ v = .int .i64 (j : Int) ∧ j ≤ i ∧ (∀ x, j ≤ x → x < i → Ky (f (τ i)) < Ky (f (τ x))) ∧
    Sep w0 wr (yaf' 1 (.slice (some ⟨g, off, none⟩) n c) (yap' n (strF f (movD τ i j))) :: R) rows)
   case atStart => exact ⟨i, by omega, rfl, Nat.le_refl _, fun x g1 g2 => by omega, by rw [ygr']; exact HX.out⟩
   case round =>
    rename World => w
    obtain ⟨j, hjk, rfl, hji, hgt, hS⟩ := hrel
    replace HX := Lib.hid hS
    have HG := Lib.hid hgt
    clear hS hgt
    obtain ⟨ρ, hρ⟩ : ∃ ρ, movD τ i j = ρ := ⟨_, rfl⟩
    have hρj : ρ j = τ i := by rw [← hρ]; unfold movD; rw [if_neg (by omega), if_pos rfl]
    rw [hρ] at HX
    have HR := Lib.hid (show _ ∧ _ from ⟨hρ, hρj⟩)
    clear hρ hρj
    by_cases hja : j = a
    ·have q1 : decide (a < j) = false := decide_eq_false (by omega)
     go_wp2_with fail
     refine yao' (fun W => W = w.drew) 17 (by kernel_rfl) ?_
     replace HX := Lib.hid HX.out.drew
     generalize w.drew = w at HX ⊢
     refine rT [(0, false), (1, false), (2, false), (3, false), (4, false), (5, false), (6, false), (7, false), (8, true), (9, false), (10, false), (11, false), (12, false), (13, true)] 3 ?_
     apply Exists.intro; refine ⟨?_, rfl, ?_⟩
     ·iterate 14 (refine yDp ?_)
      exact rfl
     apply ygh' (fuel := 2) (i := 14)
     ·kernel_rfl
     ·simp only [k_i, k_j, k_k]; try rfl
     ·rfl
     ·simp only [Act.put, k_a, k_b, k_c]; try rfl
     ·exact rfl
     refine rT [(15, false), (16, false)] 0 ?_
     apply Exists.intro; refine ⟨?_, rfl, ?_⟩
     ·iterate 2 (refine yDp ?_)
      exact rfl
     refine yag' (by kernel_rfl) ?_ _
     go_wp2_with fail
     go_roundg (b - (i + 1))
     case rel =>
      (refine ⟨i + 1, movD τ i j, by omega, by go_num, by omega, HT.out.1.trans (yi4' τ hji (by omega) (by omega)), HT.out.2.1.snoc (HT.out.2.2 i (Nat.le_refl _) hlt) (by omega) hji HG.out (.inl hja), fun x g1 g2 => ?_, by rw [HR.out.1]; exact HX.out⟩; unfold movD; rw [if_neg (by omega), if_neg (by omega)]; exact HT.out.2.2 x (by omega) g2)
     case measure => omega
    ·have q1 : decide (a < j) = true := decide_eq_true (by omega)
     have hj1 : ρ (j - 1) = τ (j - 1) := by rw [← HR.out.1]; unfold movD; rw [if_neg (by omega), if_neg (by omega)]
     have HJ := Lib.hid hj1
     clear hj1
     obtain ⟨hn1, hn2, hn3⟩ := ydc' (x := (j : Int) - 1) (k := j - 1) (n := n) (by omega) (by omega) hn
     have hn4 : (j < n) = True := eq_true (by omega)
     have hn5 : (1 ≤ (j : Int) ∧ (j : Int) - 1 < (n : Int)) = True := eq_true (by omega)
     go_wp2_with fail
     refine rM (fun W => Sep w0 W (yaf' 1 (.slice (some ⟨g, off, none⟩) n c) (yap' n (strF f ρ)) :: R) rows) 17 ?_
     intro KEEPX
     have hl : ∀ W, Sep w0 W (yaf' 1 (.slice (some ⟨g, off, none⟩) n c) (yap' n (strF f ρ)) :: R) rows → _ := fun W hW => ybu' (i := j) hW (by omega)
     have hl2 : ∀ W, Sep w0 W (yaf' 1 (.slice (some ⟨g, off, none⟩) n c) (yap' n (strF f ρ)) :: R) rows → _ := fun W hW => ybu' (i := j - 1) hW (by omega)
     replace HX := Lib.hid HX.out.drew
     refine rT [(0, false), (1, false), (2, false), (3, false), (4, false), (5, false), (6, false), (7, false), (8, true), (9, false), (10, false), (11, false), (12, false), (13, true)] 3 ?_
     apply Exists.intro; refine ⟨?_, HX.out, ?_⟩
     ·iterate 14 (first | refine yEp ?_ | ((first | apply yax' | apply yas'); (· (simp only [k_i, k_j, k_k]; try rfl)); (· rfl); (· (intros; go_simp; (try simp only [hn1, hn2, hn3, hn4, hn5, ↓reduceIte, and_self, Int.toNat_natCast]); try with_reducible rfl)); (· (simp only [Act.put, k_a, k_b, k_c, k_d, k_e, k_f, k_g, k_h]; try rfl))))
      exact rfl
     clear hl hl2
     refine r1 2 14 fun K hK => ?_
     go_wp2_with fail
     refine (HC.out (f (ρ j)) (f (ρ (j - 1))) _ _ _ (HF.out _) (HF.out _) HX.out).mono ?_
     rintro e w ⟨r, rfl, hr, hx⟩
     replace HX := Lib.hid hx
     clear hx
     rw [HR.out.2, HJ.out] at hr
     go_wp2_with fail
     refine hK _ _ HX.out ?_
     clear hK hn1 hn2 hn3 hn4 hn5
     by_cases hr0 : r < 0
     ·have q2 : decide (r < 0) = true := decide_eq_true hr0
      have hr := hr.1 hr0
      refine rT [(15, false), (16, false)] 0 ?_
      apply Exists.intro; refine ⟨?_, HX.out, ?_⟩
      ·iterate 2 (first | refine yEp ?_ | ((first | apply yax' | apply yas'); (· (simp only [k_i, k_j, k_k]; try rfl)); (· rfl); (· (intros; go_simp; (try simp only [hn1, hn2, hn3, hn4, hn5, ↓reduceIte, and_self, Int.toNat_natCast]); try with_reducible rfl)); (· (simp only [Act.put, k_a, k_b, k_c, k_d, k_e, k_f, k_g, k_h]; try rfl))))
       exact rfl
      refine yag' (by kernel_rfl) ?_ _
      obtain ⟨hn1, hn2, hn3⟩ := ydc' (x := (j : Int) - 1) (k := j - 1) (n := n) (by omega) (by omega) hn
      have hn4 : (j < n) = True := eq_true (by omega)
      have hn5 : (1 ≤ (j : Int) ∧ (j : Int) - 1 < (n : Int)) = True := eq_true (by omega)
      go_wp2_with fail
      refine yao' (fun W => W = w.drew) 14 (by kernel_rfl) ?_
      replace HX := Lib.hid HX.out.drew
      generalize w.drew = w at HX ⊢
      have hl := ybu' HX.out (i := j) (by omega)
      have hl2 := ybu' HX.out (i := j - 1) (by omega)
      refine rT [(0, false), (1, false), (2, false), (3, false), (4, false), (5, false), (6, false), (7, false), (8, false), (9, true), (10, false), (11, false), (12, false), (13, true)] 4 ?_
      apply Exists.intro; refine ⟨?_, rfl, ?_⟩
      ·iterate 14 (first | refine yDp ?_ | ((first | apply yax' | apply yas'); (· (simp only [k_i, k_j, k_k]; try rfl)); (· rfl); (· (intros; go_simp; (try simp only [hn1, hn2, hn3, hn4, hn5, ↓reduceIte, and_self, Int.toNat_natCast]); try with_reducible rfl)); (· (simp only [Act.put, k_a, k_b, k_c, k_d, k_e, k_f, k_g, k_h]; try rfl))))
       exact rfl
      refine rL [14, 15, 16, 17] 0 ?_
      simp only [List.filterMap_cons, List.filterMap_nil, k_i, k_j, k_k]
      clear hl hl2
      go_step
      go_step
      refine yc3' (i := j) (v := (strF f ρ (j - 1))) HX rfl rfl rfl rfl (by kernel_rfl) rfl (by omega) ?_
      clear HX
      intro w HX
      simp only [Act.put, k_a, k_b, k_c] at HX ⊢
      go_step
      go_step
      refine yc3' (i := (j - 1)) (v := (strF f ρ j)) HX rfl rfl rfl rfl (by kernel_rfl) rfl (by omega) ?_
      clear HX
      intro w HX
      simp only [Act.put, k_a, k_b, k_c] at HX ⊢
      have h3 := HX.out
      have hms := yi5' τ (m := i) (k := j - 1) (by omega)
      rw [show j - 1 + 1 = j by omega, HR.out.1] at hms
      rw [show (((yap' n (strF f ρ)).set j (strF f ρ (j - 1))).set (j - 1) (strF f ρ j)) = _ from yg5' n f ρ j (j - 1), hms] at h3
      have HX := Lib.hid h3
      clear h3
      go_wp2_with fail
      go_roundg (j - 1 - a)
      case rel =>
       refine ⟨j - 1, by omega, by go_num, by omega, fun x g1 g2 => ?_, HX.out⟩
       by_cases hx : x = j - 1
       ·rw [hx]; exact hr
       ·exact HG.out x (by omega) g2
      case measure => omega
     ·have q2 : decide (r < 0) = false := decide_eq_false hr0
      have hr : ¬ Ky (f (τ i)) < Ky (f (τ (j - 1))) := fun hh => hr0 (hr.2 hh)
      refine rT [(15, false), (16, false)] 0 ?_
      apply Exists.intro; refine ⟨?_, HX.out, ?_⟩
      ·iterate 2 (first | refine yEp ?_ | ((first | apply yax' | apply yas'); (· (simp only [k_i, k_j, k_k]; try rfl)); (· rfl); (· (intros; go_simp; (try simp only [hn1, hn2, hn3, hn4, hn5, ↓reduceIte, and_self, Int.toNat_natCast]); try with_reducible rfl)); (· (simp only [Act.put, k_a, k_b, k_c, k_d, k_e, k_f, k_g, k_h]; try rfl))))
       exact rfl
      refine yag' (by kernel_rfl) ?_ _
      go_wp2_with fail
      go_roundg (b - (i + 1))
      case rel =>
       (refine ⟨i + 1, movD τ i j, by omega, by go_num, by omega, HT.out.1.trans (yi4' τ hji (by omega) (by omega)), HT.out.2.1.snoc (HT.out.2.2 i (Nat.le_refl _) hlt) (by omega) hji HG.out (.inr (by show Ky (f (τ (j - 1))) ≤ Ky (f (τ i)); omega)), fun x g1 g2 => ?_, by rw [HR.out.1]; exact HX.out⟩; unfold movD; rw [if_neg (by omega), if_neg (by omega)]; exact HT.out.2.2 x (by omega) g2)
      case measure => omega
end
end Go.Proofs.YtcnkifbjlihaoaaGreatDoor

namespace Go.Proofs.YtcnkifbjlihaoaaGreatDoor
open Go.RowKit Go.Av
section
variable {w0 : World} {R : List Thing} {rows : List (Value × Bs)} {g off n c : Nat} {f : Nat → Bs} {Ky : Bs → Int} {ok : Bs → Prop}
def SymC (w0 : World) (g off n c : Nat) (f : Nat → Bs) (Ky : Bs → Int) (R : List Thing) (rows : List (Value × Bs)) (L : Nat) : Prop :=
 ∀ (w : World) (σ : Nat → Nat) (a m b : Nat), b - a ≤ L → b ≤ n → MergIn (fun i => Ky (f i)) σ a m b → Sep w0 w (yaf' 1 (.slice (some ⟨g, off, none⟩) n c) (yap' n (strF f σ)) :: R) rows →
  Calls Tryz.prog 225 #[.slice (some ⟨g, off, none⟩) n c, .int .i64 (a : Int), .int .i64 (m : Int), .int .i64 (b : Int), yi0'] w (yeq' w0 g off n c f R rows fun τ => ybi' (fun i => Ky (f i)) σ τ a b)
set_option maxRecDepth 100000 in
set_option maxHeartbeats 8000000 in
theorem ywv' (hc : ylw' w0 Ky ok) (hf : ∀ i, ok (f i)) (hn : n ≤ 100000) (w : World) (σ : Nat → Nat) (a b : Nat) (hbn : b ≤ n) (hm : MergIn (fun i => Ky (f i)) σ a (a + 1) b) (h : Sep w0 w (yaf' 1 (.slice (some ⟨g, off, none⟩) n c) (yap' n (strF f σ)) :: R) rows) :
  Calls Tryz.prog 225 #[.slice (some ⟨g, off, none⟩) n c, .int .i64 (a : Int), .int .i64 ((a : Int) + 1), .int .i64 (b : Int), yi0'] w (yeq' w0 g off n c f R rows fun τ => ybi' (fun i => Ky (f i)) σ τ a b) := by
 have HC := Lib.hid hc
 have HF := Lib.hid hf
 have HX := Lib.hid h
 have HM := Lib.hid hm
 have hmb := hm.mb
 clear h hc hf hm
 have q1 : (((a : Int) + 1 - (a : Int)) == 1) = true := by rw [beq_iff_eq]; omega
 go_enter Tryz.func225, Tryz.ntmps225
 go_wp2_with fail
 go_loopg [10, 11] (b - (a + 1)) (fun k v v' wr => ∃ (i j : Nat), i + k = j ∧ v = .int .i64 (i : Int) ∧ v' = .int .i64 (j : Int) ∧ a + 1 ≤ i ∧ j ≤ b ∧ (∀ x, a + 1 ≤ x → x < i → Ky (f (σ x)) < Ky (f (σ a))) ∧ (∀ x, j ≤ x → x < b → Ky (f (σ a)) ≤ Ky (f (σ x))) ∧
  Sep w0 wr (yaf' 1 (.slice (some ⟨g, off, none⟩) n c) (yap' n (strF f σ)) :: R) rows)
 case atStart => exact ⟨a + 1, b, by omega, by go_num, by go_num, by omega, by omega, fun x g1 g2 => by omega, fun x g1 g2 => by omega, HX.out⟩
 case round =>
  rename World => w
  obtain ⟨i, j, hij, rfl, rfl, hi, hj, h3, h4, hS⟩ := hrel
  replace HX := Lib.hid hS
  have HG := Lib.hid (show _ ∧ _ from ⟨h3, h4⟩)
  clear hS h3 h4
  by_cases hlt : i < j
  case neg =>
   obtain rfl : i = j := by omega
   have q0 : decide (i < i) = false := decide_eq_false (by omega)
   clear hlt hij
   go_wp2_with fail
   go_loopg [13] (i - 1 - a) (fun k v wr => ∃ (x : Nat), x + k = i - 1 ∧ v = .int .i64 (x : Int) ∧ a ≤ x ∧ Sep w0 wr (yaf' 1 (.slice (some ⟨g, off, none⟩) n c) (yap' n (strF f (movU σ a x))) :: R) rows)
   case atStart => exact ⟨a, by omega, by go_num, by omega, by rw [ymq']; exact HX.out⟩
   case round =>
    rename World => w
    obtain ⟨x, hxk, rfl, hax, hS⟩ := hrel
    replace HX := Lib.hid hS
    clear hS
    by_cases hxi : x < i - 1
    case neg =>
     obtain rfl : x = i - 1 := by omega
     have q2 : decide (((i - 1 : Nat) : Int) < (i : Int) - 1) = false := decide_eq_false (by omega)
     have q3 : decide (((i - 1 : Nat) : Int) + 1 < (i : Int)) = false := decide_eq_false (by omega)
     have q4 : decide ((i - 1 : Nat) < i - 1) = false := decide_eq_false (by omega)
     go_wp2_with fail
     go_end0
     exact ⟨_, rfl, ys0' HM.out hi hj HG.out.1 HG.out.2, HX.out⟩
    case pos =>
     have q2 : decide ((x : Int) < (i : Int) - 1) = true := decide_eq_true (by omega)
     obtain ⟨hn1, hn2, hn3⟩ := ydc' (x := (x : Int) + 1) (k := x + 1) (n := n) (by omega) (by omega) hn
     have hn4 : (x < n) = True := eq_true (by omega)
     obtain ⟨ρ, hρ⟩ : ∃ ρ, movU σ a x = ρ := ⟨_, rfl⟩
     rw [hρ] at HX
     have HR := Lib.hid hρ
     clear hρ
     go_wp2_with fail
     refine yao' (fun W => W = w.drew) 14 (by kernel_rfl) ?_
     replace HX := Lib.hid HX.out.drew
     generalize w.drew = w at HX ⊢
     have hl := ybu' HX.out (i := x) (by omega)
     have hl2 := ybu' HX.out (i := x + 1) (by omega)
     refine rT [(0, false), (1, false), (2, false), (3, false), (4, false), (5, false), (6, false), (7, false), (8, false), (9, true), (10, false), (11, false), (12, false), (13, true)] 4 ?_
     apply Exists.intro; refine ⟨?_, rfl, ?_⟩
     ·iterate 14 (first | refine yDp ?_ | ((first | apply yax' | apply yas'); (· (simp only [k_i, k_j, k_k]; try rfl)); (· rfl); (· (intros; go_simp; (try simp only [hn1, hn2, hn3, hn4, ↓reduceIte, and_self, Int.toNat_natCast]); try with_reducible rfl)); (· (simp only [Act.put, k_a, k_b, k_c, k_d, k_e, k_f, k_g, k_h]; try rfl))))
      exact rfl
     refine rL [14, 15, 16, 17] 0 ?_
     simp only [List.filterMap_cons, List.filterMap_nil, k_i, k_j, k_k]
     clear hl hl2
     go_step
     go_step
     refine yc3' (i := x) (v := (strF f ρ (x + 1))) HX rfl rfl rfl rfl (by kernel_rfl) rfl (by omega) ?_
     clear HX
     intro w HX
     simp only [Act.put, k_a, k_b, k_c] at HX ⊢
     go_step
     go_step
     refine yc3' (i := (x + 1)) (v := (strF f ρ x)) HX rfl rfl rfl rfl (by kernel_rfl) rfl (by omega) ?_
     clear HX
     intro w HX
     simp only [Act.put, k_a, k_b, k_c] at HX ⊢
     have h3 := HX.out
     have hms := ymp' σ hax
     rw [HR.out] at hms
     rw [show (((yap' n (strF f ρ)).set x (strF f ρ (x + 1))).set (x + 1) (strF f ρ x)) = _ from yg5' n f ρ x (x + 1), hms] at h3
     have HX := Lib.hid h3
     clear h3
     go_wp2_with fail
     go_roundg (i - 1 - (x + 1))
     case rel => exact ⟨x + 1, by omega, by go_num, by omega, HX.out⟩
     case measure => omega
  case pos =>
   have q0 : decide (i < j) = true := decide_eq_true hlt
   obtain ⟨hn1, hn2, hn3⟩ := ydc' (x := ((i : Int) + (j : Int)) / 2) (k := (i + j) / 2) (n := n) (by omega) (by omega) hn
   have hn4 : (a < n) = True := eq_true (by omega)
   go_wp2_with fail
   refine rM (fun W => Sep w0 W (yaf' 1 (.slice (some ⟨g, off, none⟩) n c) (yap' n (strF f σ)) :: R) rows) 11 ?_
   intro KEEPX
   have hl : ∀ W, Sep w0 W (yaf' 1 (.slice (some ⟨g, off, none⟩) n c) (yap' n (strF f σ)) :: R) rows → _ := fun W hW => ybu' (i := (i + j) / 2) hW (by omega)
   have hl2 : ∀ W, Sep w0 W (yaf' 1 (.slice (some ⟨g, off, none⟩) n c) (yap' n (strF f σ)) :: R) rows → _ := fun W hW => ybu' (i := a) hW (by omega)
   replace HX := Lib.hid HX.out.drew
   refine rT [(0, false), (1, false), (2, false), (3, false), (4, true), (5, false), (6, false), (7, false), (8, true)] 2 ?_
   apply Exists.intro; refine ⟨?_, HX.out, ?_⟩
   ·iterate 9 (first | refine yEp ?_ | ((first | apply yax' | apply yas'); (· (simp only [k_i, k_j, k_k]; try rfl)); (· rfl); (· (intros; go_simp; (try simp only [hn1, hn2, hn3, hn4, ↓reduceIte, and_self, Int.toNat_natCast]); try with_reducible rfl)); (· (simp only [Act.put, k_a, k_b, k_c, k_d, k_e, k_f, k_g, k_h]; try rfl))))
    exact rfl
   clear hl hl2
   refine r1 1 9 fun K hK => ?_
   go_wp2_with fail
   refine (HC.out (f (σ ((i + j) / 2))) (f (σ a)) _ _ _ (HF.out _) (HF.out _) HX.out).mono ?_
   rintro e w ⟨r, rfl, hr, hx⟩
   replace HX := Lib.hid hx
   clear hx
   go_wp2_with fail
   refine hK _ _ HX.out ?_
   clear hK hn1 hn2 hn3 hn4
   by_cases hr0 : r < 0
   ·have q2 : decide (r < 0) = true := decide_eq_true hr0
    have hr := hr.1 hr0
    refine rT [(10, false)] 0 ?_
    apply Exists.intro; refine ⟨?_, HX.out, ?_⟩
    ·iterate 1 (first | refine yEp ?_ | ((first | apply yax' | apply yas'); (· (simp only [k_i, k_j, k_k]; try rfl)); (· rfl); (· (intros; go_simp; (try simp only [hn1, hn2, hn3, hn4, ↓reduceIte, and_self, Int.toNat_natCast]); try with_reducible rfl)); (· (simp only [Act.put, k_a, k_b, k_c, k_d, k_e, k_f, k_g, k_h]; try rfl))))
     exact rfl
    refine yag' (by kernel_rfl) ?_ _
    go_wp2_with fail
    go_roundg (j - ((i + j) / 2 + 1))
    case rel => exact ⟨(i + j) / 2 + 1, j, by omega, by go_num, rfl, by omega, by omega, fun x g1 g2 => by
     have := HM.out.right.le (i := x) (j := (i + j) / 2) g1 (by omega) (by omega)
     have this : Ky (f (σ x)) ≤ Ky (f (σ ((i + j) / 2))) := this
     omega, HG.out.2, HX.out⟩
    case measure => omega
   ·have q2 : decide (r < 0) = false := decide_eq_false hr0
    have hr : ¬ Ky (f (σ ((i + j) / 2))) < Ky (f (σ a)) := fun hh => hr0 (hr.2 hh)
    refine rT [(10, false)] 0 ?_
    apply Exists.intro; refine ⟨?_, HX.out, ?_⟩
    ·iterate 1 (first | refine yEp ?_ | ((first | apply yax' | apply yas'); (· (simp only [k_i, k_j, k_k]; try rfl)); (· rfl); (· (intros; go_simp; (try simp only [hn1, hn2, hn3, hn4, ↓reduceIte, and_self, Int.toNat_natCast]); try with_reducible rfl)); (· (simp only [Act.put, k_a, k_b, k_c, k_d, k_e, k_f, k_g, k_h]; try rfl))))
     exact rfl
    refine yag' (by kernel_rfl) ?_ _
    go_wp2_with fail
    go_roundg ((i + j) / 2 - i)
    case rel => exact ⟨i, (i + j) / 2, by omega, rfl, by go_num, by omega, by omega, HG.out.1, fun x g1 g2 => by
     have := HM.out.right.le (i := (i + j) / 2) (j := x) (by omega) g1 g2
     have this : Ky (f (σ ((i + j) / 2))) ≤ Ky (f (σ x)) := this
     omega, HX.out⟩
    case measure => omega
set_option maxRecDepth 100000 in
set_option maxHeartbeats 8000000 in
theorem yww' (hc : ylw' w0 Ky ok) (hf : ∀ i, ok (f i)) (hn : n ≤ 100000) (w : World) (σ : Nat → Nat) (a m : Nat) (hbn : m + 1 ≤ n) (ha1 : a + 1 < m) (hm : MergIn (fun i => Ky (f i)) σ a m (m + 1)) (h : Sep w0 w (yaf' 1 (.slice (some ⟨g, off, none⟩) n c) (yap' n (strF f σ)) :: R) rows) :
  Calls Tryz.prog 225 #[.slice (some ⟨g, off, none⟩) n c, .int .i64 (a : Int), .int .i64 (m : Int), .int .i64 ((m : Int) + 1), yi0'] w (yeq' w0 g off n c f R rows fun τ => ybi' (fun i => Ky (f i)) σ τ a (m + 1)) := by
 have HC := Lib.hid hc
 have HF := Lib.hid hf
 have HX := Lib.hid h
 have HM := Lib.hid hm
 clear h hc hf hm
 have q1 : (((m : Int) - (a : Int)) == 1) = false := by rw [beq_eq_false_iff_ne]; omega
 have q1' : (((m : Int) + 1 - (m : Int)) == 1) = true := by rw [beq_iff_eq]; omega
 go_enter Tryz.func225, Tryz.ntmps225
 go_wp2_with fail
 go_loopg [14, 15] (m - a) (fun k v v' wr => ∃ (i j : Nat), i + k = j ∧ v = .int .i64 (i : Int) ∧ v' = .int .i64 (j : Int) ∧ a ≤ i ∧ j ≤ m ∧ (∀ x, a ≤ x → x < i → Ky (f (σ x)) ≤ Ky (f (σ m))) ∧ (∀ x, j ≤ x → x < m → Ky (f (σ m)) < Ky (f (σ x))) ∧
  Sep w0 wr (yaf' 1 (.slice (some ⟨g, off, none⟩) n c) (yap' n (strF f σ)) :: R) rows)
 case atStart => exact ⟨a, m, by omega, by go_num, by go_num, by omega, by omega, fun x g1 g2 => by omega, fun x g1 g2 => by omega, HX.out⟩
 case round =>
  rename World => w
  obtain ⟨i, j, hij, rfl, rfl, hi, hj, h3, h4, hS⟩ := hrel
  replace HX := Lib.hid hS
  have HG := Lib.hid (show _ ∧ _ from ⟨h3, h4⟩)
  clear hS h3 h4
  by_cases hlt : i < j
  case neg =>
   obtain rfl : i = j := by omega
   have q0 : decide (i < i) = false := decide_eq_false (by omega)
   clear hlt hij
   go_wp2_with fail
   go_loopg [17] (m - i) (fun k v wr => ∃ (x : Nat), i + k = x ∧ v = .int .i64 (x : Int) ∧ x ≤ m ∧ Sep w0 wr (yaf' 1 (.slice (some ⟨g, off, none⟩) n c) (yap' n (strF f (movD σ m x))) :: R) rows)
   case atStart => exact ⟨m, by omega, by go_num, by omega, by rw [ygr']; exact HX.out⟩
   case round =>
    rename World => w
    obtain ⟨x, hxk, rfl, hax, hS⟩ := hrel
    replace HX := Lib.hid hS
    clear hS
    by_cases hxi : i < x
    case neg =>
     obtain rfl : x = i := by omega
     have q2 : decide (x < x) = false := decide_eq_false (by omega)
     go_wp2_with fail
     go_end0
     exact ⟨_, rfl, ymn' HM.out hi hj HG.out.1 HG.out.2, HX.out⟩
    case pos =>
     have q2 : decide (i < x) = true := decide_eq_true (by omega)
     obtain ⟨hn1, hn2, hn3⟩ := ydc' (x := (x : Int) - 1) (k := x - 1) (n := n) (by omega) (by omega) hn
     have hn4 : (x < n) = True := eq_true (by omega)
     have hn5 : (1 ≤ (x : Int) ∧ (x : Int) - 1 < (n : Int)) = True := eq_true (by omega)
     obtain ⟨ρ, hρ⟩ : ∃ ρ, movD σ m x = ρ := ⟨_, rfl⟩
     rw [hρ] at HX
     have HR := Lib.hid hρ
     clear hρ
     go_wp2_with fail
     refine yao' (fun W => W = w.drew) 14 (by kernel_rfl) ?_
     replace HX := Lib.hid HX.out.drew
     generalize w.drew = w at HX ⊢
     have hl := ybu' HX.out (i := x) (by omega)
     have hl2 := ybu' HX.out (i := x - 1) (by omega)
     refine rT [(0, false), (1, false), (2, false), (3, false), (4, false), (5, false), (6, false), (7, false), (8, false), (9, true), (10, false), (11, false), (12, false), (13, true)] 4 ?_
     apply Exists.intro; refine ⟨?_, rfl, ?_⟩
     ·iterate 14 (first | refine yDp ?_ | ((first | apply yax' | apply yas'); (· (simp only [k_i, k_j, k_k]; try rfl)); (· rfl); (· (intros; go_simp; (try simp only [hn1, hn2, hn3, hn4, hn5, ↓reduceIte, and_self, Int.toNat_natCast]); try with_reducible rfl)); (· (simp only [Act.put, k_a, k_b, k_c, k_d, k_e, k_f, k_g, k_h]; try rfl))))
      exact rfl
     refine rL [14, 15, 16, 17] 0 ?_
     simp only [List.filterMap_cons, List.filterMap_nil, k_i, k_j, k_k]
     clear hl hl2
     go_step
     go_step
     refine yc3' (i := x) (v := (strF f ρ (x - 1))) HX rfl rfl rfl rfl (by kernel_rfl) rfl (by omega) ?_
     clear HX
     intro w HX
     simp only [Act.put, k_a, k_b, k_c] at HX ⊢
     go_step
     go_step
     refine yc3' (i := (x - 1)) (v := (strF f ρ x)) HX rfl rfl rfl rfl (by kernel_rfl) rfl (by omega) ?_
     clear HX
     intro w HX
     simp only [Act.put, k_a, k_b, k_c] at HX ⊢
     have h3 := HX.out
     have hms := yi5' σ (m := m) (k := x - 1) (by omega)
     rw [show x - 1 + 1 = x by omega, HR.out] at hms
     rw [show (((yap' n (strF f ρ)).set x (strF f ρ (x - 1))).set (x - 1) (strF f ρ x)) = _ from yg5' n f ρ x (x - 1), hms] at h3
     have HX := Lib.hid h3
     clear h3
     go_wp2_with fail
     go_roundg (x - 1 - i)
     case rel => exact ⟨x - 1, by omega, by go_num, by omega, HX.out⟩
     case measure => omega
  case pos =>
   have q0 : decide (i < j) = true := decide_eq_true hlt
   obtain ⟨hn1, hn2, hn3⟩ := ydc' (x := ((i : Int) + (j : Int)) / 2) (k := (i + j) / 2) (n := n) (by omega) (by omega) hn
   have hn4 : (m < n) = True := eq_true (by omega)
   go_wp2_with fail
   refine rM (fun W => Sep w0 W (yaf' 1 (.slice (some ⟨g, off, none⟩) n c) (yap' n (strF f σ)) :: R) rows) 12 ?_
   intro KEEPX
   have hl : ∀ W, Sep w0 W (yaf' 1 (.slice (some ⟨g, off, none⟩) n c) (yap' n (strF f σ)) :: R) rows → _ := fun W hW => ybu' (i := (i + j) / 2) hW (by omega)
   have hl2 : ∀ W, Sep w0 W (yaf' 1 (.slice (some ⟨g, off, none⟩) n c) (yap' n (strF f σ)) :: R) rows → _ := fun W hW => ybu' (i := m) hW (by omega)
   replace HX := Lib.hid HX.out.drew
   refine rT [(0, false), (1, false), (2, false), (3, false), (4, true), (5, false), (6, false), (7, false), (8, true)] 3 ?_
   apply Exists.intro; refine ⟨?_, HX.out, ?_⟩
   ·iterate 9 (first | refine yEp ?_ | ((first | apply yax' | apply yas'); (· (simp only [k_i, k_j, k_k]; try rfl)); (· rfl); (· (intros; go_simp; (try simp only [hn1, hn2, hn3, hn4, ↓reduceIte, and_self, Int.toNat_natCast]); try with_reducible rfl)); (· (simp only [Act.put, k_a, k_b, k_c, k_d, k_e, k_f, k_g, k_h]; try rfl))))
    exact rfl
   clear hl hl2
   refine r1 2 9 fun K hK => ?_
   go_wp2_with fail
   refine (HC.out (f (σ m)) (f (σ ((i + j) / 2))) _ _ _ (HF.out _) (HF.out _) HX.out).mono ?_
   rintro e w ⟨r, rfl, hr, hx⟩
   replace HX := Lib.hid hx
   clear hx
   go_wp2_with fail
   refine hK _ _ HX.out ?_
   clear hK hn1 hn2 hn3 hn4
   by_cases hr0 : r < 0
   ·have q2 : decide (r < 0) = true := decide_eq_true hr0
    have hr := hr.1 hr0
    refine rT [(10, false), (11, false)] 0 ?_
    apply Exists.intro; refine ⟨?_, HX.out, ?_⟩
    ·iterate 2 (first | refine yEp ?_ | ((first | apply yax' | apply yas'); (· (simp only [k_i, k_j, k_k]; try rfl)); (· rfl); (· (intros; go_simp; (try simp only [hn1, hn2, hn3, hn4, ↓reduceIte, and_self, Int.toNat_natCast]); try with_reducible rfl)); (· (simp only [Act.put, k_a, k_b, k_c, k_d, k_e, k_f, k_g, k_h]; try rfl))))
     exact rfl
    refine yag' (by kernel_rfl) ?_ _
    go_wp2_with fail
    go_roundg ((i + j) / 2 - i)
    case rel => exact ⟨i, (i + j) / 2, by omega, rfl, by go_num, by omega, by omega, HG.out.1, fun x g1 g2 => by
     have := HM.out.left.le (i := (i + j) / 2) (j := x) (by omega) g1 g2
     have this : Ky (f (σ ((i + j) / 2))) ≤ Ky (f (σ x)) := this
     omega, HX.out⟩
    case measure => omega
   ·have q2 : decide (r < 0) = false := decide_eq_false hr0
    have hr : ¬ Ky (f (σ m)) < Ky (f (σ ((i + j) / 2))) := fun hh => hr0 (hr.2 hh)
    refine rT [(10, false), (11, false)] 0 ?_
    apply Exists.intro; refine ⟨?_, HX.out, ?_⟩
    ·iterate 2 (first | refine yEp ?_ | ((first | apply yax' | apply yas'); (· (simp only [k_i, k_j, k_k]; try rfl)); (· rfl); (· (intros; go_simp; (try simp only [hn1, hn2, hn3, hn4, ↓reduceIte, and_self, Int.toNat_natCast]); try with_reducible rfl)); (· (simp only [Act.put, k_a, k_b, k_c, k_d, k_e, k_f, k_g, k_h]; try rfl))))
     exact rfl
    refine yag' (by kernel_rfl) ?_ _
    go_wp2_with fail
    go_roundg (j - ((i + j) / 2 + 1))
    case rel => exact ⟨(i + j) / 2 + 1, j, by omega, by go_num, rfl, by omega, by omega, fun x g1 g2 => by
     have := HM.out.left.le (i := x) (j := (i + j) / 2) g1 (by omega) (by omega)
     have this : Ky (f (σ x)) ≤ Ky (f (σ ((i + j) / 2))) := this
     omega, HG.out.2, HX.out⟩
    case measure => omega
end
end Go.Proofs.YtcnkifbjlihaoaaGreatDoor
