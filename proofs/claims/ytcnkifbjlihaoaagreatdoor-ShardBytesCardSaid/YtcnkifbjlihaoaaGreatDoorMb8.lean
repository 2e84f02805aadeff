/-
  Texts of this claim, laid together.
-/
import Derived.Test.YtcnkifbjlihaoaaGreatDoorMb7
import Derived.HandedShaped
import Derived.Handed
import Derived.Lib.LaidTab
set_option linter.unusedVariables false
set_option linter.unusedSimpArgs false

namespace Go.Proofs.YtcnkifbjlihaoaaGreatDoor
open Go.RowKit Go.Av
section
variable {w0 w : World} {b : Nat} {S : ShardS} {P P' : List PRow} {R : List Thing} {rows : List (Value × Bs)}
set_option maxRecDepth 100000 in
set_option maxHeartbeats 4000000 in
theorem ym8' {K : Nat} (h : Sep w0 w (yab' w0 P :: ycs' b S P :: R) rows) (hd : DoorN w0) (hB : ShB K S) (ls : List Bs) (vr : Value) (vs : List Value) (hvr : (1, vr, vs) ∈ P) (hvs : RecL P ls vs) (hK : K + ls.length ≤ 100) (hl : ∀ l ∈ ls, l.length ≤ 1000000) (hk1 : ∀ l ∈ ls, ∀ c, getC l = some c → c.kind = 1) :
  Calls Tryz.prog 48 #[.pointer (some ⟨b, 0, none⟩), vr] w (ypx' w0 b P R rows (ycq' ls S)) := by
 obtain ⟨E, hE⟩ := h.poolGet hvr
 obtain ⟨a0, n0, c0, rfl, hl0, -, -, hne⟩ := ReadRow.some hE
 rw [hvs.len, Nat.mul_one] at hl0
 subst hl0
 have HV := Lib.hid (show _ ∧ _ ∧ _ ∧ _ ∧ _ from ⟨hvr, hvs, hB, hK, hl⟩)
 have HNE := Lib.hid hne
 have HK1 := Lib.hid hk1
 have HX := Lib.hid h
 clear h hE hne hvr hvs hB hK hl hk1
 go_enter Tryz.func48, Tryz.ntmps48
 go_wp2_with (first | refine u0 ?_ | (refine uS ?_; clear HX; intro w HX) | (refine uA ?_; clear HX; (first | (have hq := b; clear hq; intro w b2 HX) | intro w b HX)) | (refine uP ?_; clear HX; intro w av nv cv HX))
 have HST := Lib.hid (show ynk' w0 b S ls P R rows ls.length (.slice none 0 0) (.int .i64 (0 : Int)) w from ⟨0, [], none, 0, 0, P, by simp, rfl, rfl, fun q hq => hq, .nil, HX.out.nilRow 11⟩)
 clear HX
 go_loopg [5, 7, 10] ls.length (fun k v5 _ v10 wr => ynk' w0 b S ls P R rows k v5 v10 wr)
 case atStart => exact HST.out
 case round =>
  rename World => w
  obtain ⟨i, ys, a, n, c, P', hik, rfl, rfl, hP', hol, hS⟩ := hrel
  have HOL := Lib.hid (show _ ∧ _ from ⟨hP', hol⟩)
  have HX := Lib.hid hS
  clear hP' hol hS HST
  by_cases hlt : i < ls.length
  case neg =>
   obtain rfl : i = ls.length := by omega
   rw [List.take_length] at HOL HX
   clear hlt hik
   go_wp2_with (first | refine u0 ?_ | (refine uS ?_; clear HX; intro w HX) | (refine uA ?_; clear HX; (first | (have hq := b; clear hq; intro w b2 HX) | intro w b HX)) | (refine uP ?_; clear HX; intro w av nv cv HX))
   go_ret
   have h2 := HX.out.poolRow
   exact ⟨_, ys, _, rfl, fun q hq => k_n _ (HOL.out.1 q hq), HOL.out.2.mono (fun q hq => k_n _ hq), k_s, (yr0' h2.up1 (fun q hq => k_n _ hq)).up1⟩
  case pos =>
   obtain ⟨vi, m1, m2⟩ := HV.out.2.1.at hlt
   obtain ⟨g, off, rfl⟩ := HNE.out (by intro e; have e : vs = [] := e; rw [e] at m1; cases m1)
   obtain ⟨E, hE⟩ := HX.out.up1.poolGet (HOL.out.1 _ HV.out.1)
   have hl := yee' (P := Tryz.prog) (ty := 71) (i := i) (v := vi) hE (by kernel_rfl) m1
   have htk : ls.take (i + 1) = ls.take i ++ [ls[i]] := List.take_succ_eq_append_getElem hlt
   have hlen := HV.out.2.2.2.2 _ (List.getElem_mem hlt)
   have hk2 := HK1.out _ (List.getElem_mem hlt)
   have hsb : ShB (K + i) (ycq' (ls.take i) S).2 := by
    have := yoa' (ls.take i) HV.out.2.2.1 (by have := HV.out.2.2.2.1; rw [List.length_take]; omega)
    rw [List.length_take, Nat.min_eq_left (by omega)] at this
    rw [yn9']
    exact this
   have hpl := yi9' (ls.take i) ls[i] S
   rw [← htk] at hpl
   have hlo : (ycq' (ls.take i) S).1.length = i := by rw [yja', List.length_take, Nat.min_eq_left (by omega)]
   obtain ⟨l, hll⟩ : ∃ l, ls[i] = l := ⟨_, rfl⟩
   obtain ⟨⟨os, S1⟩, hm⟩ : ∃ m, ycq' (ls.take i) S = m := ⟨_, rfl⟩
   rw [hll] at m2 hlen hpl hk2
   have HK2 := Lib.hid hk2
   clear hk2
   rw [hm] at hpl hsb hlo HX HOL
   dsimp only at hsb hlo HX HOL hpl
   have HLN := Lib.hid (show ys.length = i * 11 by have := HOL.out.2.len; rw [hlo] at this; exact this)
   have HBD := Lib.hid (show ∀ n, ys.length = n * 11 → n + 1 ≤ 140737488355328 ∧ (n + 1) * 120 ≤ 140737488355328 from fun n hn => by
    have := HLN.out
    have := HV.out.2.2.2.1
    omega)
   have HK := Lib.hid (show _ ∧ _ ∧ _ ∧ _ from ⟨m2, hpl, hlen, hsb⟩)
   have q0 : decide (i < ls.length) = true := decide_eq_true hlt
   have q9 : i ≤ 1000 := by have := HV.out.2.2.2.1; omega
   clear hE m1 m2 htk hpl hlen hsb hm hll hlo
   go_wp2_with (first | refine u0 ?_ | (refine uS ?_; clear HX; intro w HX) | (refine uA ?_; clear HX; (first | (have hq := b; clear hq; intro w b2 HX) | intro w b HX)) | (refine uP ?_; clear HX; intro w av nv cv HX) | ((with_reducible apply yau' hl); (· rfl); (· rfl); simp only [Act.put, k_a, k_b, k_c]))
   refine (ynb' HX.out.up1.up2.up1 hd HK.out.2.2.2 (by have := HV.out.2.2.2.1; omega) _ l (HOL.out.1 _ HK.out.1) HK.out.2.2.1 HK2.out).mono ?_
   obtain ⟨⟨⟨gk, gi, ⟨num, zx, er, gat, rs1⟩, e2, at2, rs2, gy⟩, S2⟩, hm1⟩ : ∃ m1, yc5' S1 l = m1 := ⟨_, rfl⟩
   rw [hm1] at HK ⊢
   rintro e w ⟨y1, y2, P9, rfl, hP9, hin9, hx⟩
   obtain ⟨a5, n5, c5, rfl⟩ := yb1' hx hin9.1
   obtain ⟨a6, n6, c6, rfl⟩ := yb1' hx hin9.2
   clear hl
   replace HX := Lib.hid hx
   clear hx
   have H9 := Lib.hid (show _ ∧ _ from ⟨hP9, hin9⟩)
   clear hP9 hin9 hm1
   unfold outV
   dsimp only at HK HX ⊢
   go_wp2_with (first | refine u0 ?_ | (refine uS ?_; clear HX; intro w HX) | (refine uA ?_; clear HX; (first | (have hq := b; clear hq; intro w b2 HX) | intro w b HX)) | (refine uP ?_; clear HX; intro w av nv cv HX))
   go_roundg (ls.length - (i + 1))
   case rel =>
    refine ⟨i + 1, ys ++ (outV ⟨gk, gi, ⟨num, zx, er, gat, rs1⟩, e2, at2, rs2, gy⟩ (.slice a5 n5 c5) (.slice a6 n6 c6)).toList, av, nv, cv, P9, by omega, rfl, by go_num, fun q hq => H9.out.1 q (HOL.out.1 q hq), ?_, ?_⟩
    ·rw [HK.out.2.1]
     exact (HOL.out.2.mono H9.out.1).snoc H9.out.2
    ·rw [HK.out.2.1]
     exact HX.out.cut1
   case measure => omega
end
end Go.Proofs.YtcnkifbjlihaoaaGreatDoor

namespace Go.Proofs.YtcnkifbjlihaoaaGreatDoor
open Go.RowKit Go.Av
section
variable {w0 w : World} {b c : Nat} {S T : ShardS} {P P' Q : List PRow} {R : List Thing} {rows : List (Value × Bs)}
theorem yqq' {c : CmdS} (hc : getC (putC (locC 1 [opA])) = some c) : c.kind = 1 := by
 have hf : ∀ o ∈ [opA], FitO o := fun o ho => by rw [List.mem_singleton] at ho; subst ho; exact ⟨by decide, by decide⟩
 rw [yns' (by omega) (by omega) hf] at hc
 split at hc
 ·cases hc; rfl
 ·cases hc
set_option maxRecDepth 100000 in
set_option maxHeartbeats 8000000 in
theorem ykt' (hd : DoorN w) : Calls Tryz.prog 37 #[] w fun e w' => e = .returned (.bool true) ∧ Upd w w' [] [] := by
 have HX := Lib.hid ((Sep.start w).poolNew.poolNil 1)
 go_enter Tryz.func37, Tryz.ntmps37
 go_wp2_with (first | refine u0 ?_ | (refine uS ?_; clear HX; intro w HX) | (refine uA ?_; clear HX; (first | (have hq := b; clear hq; intro w b2 HX) | intro w b HX)))
 refine (yr2' HX.out 10 (by omega) (by omega)).mono ?_
 rintro e w ⟨b, rfl, hx⟩
 replace HX := Lib.hid hx
 clear hx
 go_wp2_with (first | refine u0 ?_ | (refine uS ?_; clear HX; intro w HX) | (refine uA ?_; clear HX; (first | (have hq := b; clear hq; intro w b2 HX) | intro w b HX)))
 refine (ymt' HX.out 1 [opA] _ _ _).mono ?_
 rintro e w ⟨rfl, hx⟩
 replace HX := Lib.hid hx
 clear hx
 have hx := yna' (Sep.poolCell (K := 5) (n := 1) (cs := [opA].flatMap OpS.cells) HX.out rfl (by omega)) (fun r hr => k_n _ hr)
 replace HX := Lib.hid hx
 clear hx
 unfold cmdV locC
 dsimp only
 go_wp2_with (first | refine u0 ?_ | (refine uS ?_; clear HX; intro w HX) | (refine uA ?_; clear HX; (first | (have hq := b; clear hq; intro w b2 HX) | intro w b HX)))
 refine (yef' HX.out hd (locC 1 [opA]) _ _ k_s (k_n _ k_s) (by intro o ho; have ho : o ∈ [opA] := ho; simp at ho; subst ho; decide) (by simp [locC])).mono ?_
 rintro e w ⟨v, rfl, hx⟩
 have hx := yna' hx.poolRow (fun r hr => k_n _ hr)
 replace HX := Lib.hid hx
 clear hx
 obtain ⟨ba, bn, bc, rfl⟩ := yal' HX.out k_s
 go_wp2_with (first | refine u0 ?_ | (refine uS ?_; clear HX; intro w HX) | (refine uA ?_; clear HX; (first | (have hq := b; clear hq; intro w b2 HX) | intro w b HX)))
 have hx := yna' (Sep.poolCell (K := 1) (n := 1) (cs := [.slice ba bn bc]) HX.out rfl (by omega)) (fun r hr => k_n _ hr)
 replace HX := Lib.hid hx
 clear hx
 refine (ym8' HX.out hd (yq3' 10 (by omega)) [putC (locC 1 [opA])] _ _ k_s (.cons (k_n _ k_s) .nil) (by simp) (by intro l hl; rw [List.mem_singleton] at hl; subst hl; decide +kernel) (by intro l hl c hc; rw [List.mem_singleton] at hl; subst hl; exact yqq' hc)).mono ?_
 obtain ⟨rs, ha, hb, hc⟩ := aw25
 rw [ha]
 have HA := Lib.hid (show _ ∧ _ from ⟨hb, hc⟩)
 clear ha hb hc
 rintro e w ⟨v, xs, P1, rfl, -, hol, hm, hx⟩
 obtain ⟨a4, n4, c4, rfl⟩ := yal' hx hm
 obtain rfl : n4 = 1 := by
  obtain ⟨E, hE⟩ := hx.poolGet hm
  obtain ⟨_, _, _, e, hl, -⟩ := ReadRow.some hE
  simp only [Value.slice.injEq] at e
  obtain ⟨-, rfl, -⟩ := e
  rw [hol.len] at hl
  simp only [List.length_cons, List.length_nil] at hl
  omega
 obtain ⟨p, c2, mk, gs, -, -, hS⟩ := yie' hx.up1
 have HM := Lib.hid (show _ ∧ _ from ⟨hol, hm⟩)
 clear HX hx hol hm
 have HX := Lib.hid hS
 clear hS
 go_upto_region 5 with (first | refine u0 ?_ | (refine uS ?_; clear HX; intro w HX) | (refine uA ?_; clear HX; (first | (have hq := b; clear hq; intro w b2 HX) | intro w b HX)))
 obtain ⟨hol, hm⟩ := HM.out
 obtain ⟨g, off, rfl, hc0, hc1, hc4⟩ : ∃ g off, a4 = some ⟨g, off, none⟩ ∧ w.cell? ⟨g, off, none⟩ = some (.int .i64 1) ∧ w.cell? ⟨g, off + 1, none⟩ = some (.int .i64 1) ∧ w.cell? ⟨g, off + 4, none⟩ = some (.int .i64 0) := by
  cases hol with
  | cons h3 h4 =>
   obtain ⟨g, off, e, hcell⟩ := yxh' HX.out.up4 hm
   exact ⟨g, off, e, hcell 0 _ rfl, hcell 1 _ rfl, hcell 4 _ rfl⟩
 clear HM hol hm
 go_wp2_with (first | refine u0 ?_ | (refine uS ?_; clear HX; intro w HX) | (refine uA ?_; clear HX; (first | (have hq := b; clear hq; intro w b2 HX) | intro w b HX)))
 refine (ypj' HX.out).mono ?_
 rintro e w2 ⟨rfl, rfl⟩
 go_wp2_with (first | refine u0 ?_ | (refine uS ?_; clear HX; intro w HX) | (refine uA ?_; clear HX; (first | (have hq := b; clear hq; intro w b2 HX) | intro w b HX)))
 refine (yri' (HX.out.up1.up4) (yyp'.p.b.tree.ok (by omega))).mono ?_
 rintro e w ⟨t, P2, rfl, -, hx⟩
 replace HX := Lib.hid hx
 clear hx
 go_wp2_with (first | refine u0 ?_ | (refine uS ?_; clear HX; intro w HX) | (refine uA ?_; clear HX; (first | (have hq := b; clear hq; intro w b2 HX) | intro w b HX)))
 refine (yfo' HX.out.up1).mono ?_
 rw [HA.out.1]
 rintro e w2 ⟨rfl, hu⟩
 have hx := HX.out.keep hu
 replace HX := Lib.hid hx
 clear hx
 go_wp2_with (first | refine u0 ?_ | (refine uS ?_; clear HX; intro w HX) | (refine uA ?_; clear HX; (first | (have hq := b; clear hq; intro w b2 HX) | intro w b HX)))
 refine (yl2' HX.out.up3).mono ?_
 rw [HA.out.2]
 rintro e w3 ⟨rfl, rfl⟩
 go_wp2_with (first | refine u0 ?_ | (refine uS ?_; clear HX; intro w HX) | (refine uA ?_; clear HX; (first | (have hq := b; clear hq; intro w b2 HX) | intro w b HX)))
 go_ret
 exact ⟨rfl, Upd.of_below HX.out.below⟩
end
end Go.Proofs.YtcnkifbjlihaoaaGreatDoor

namespace Go.Proofs.YtcnkifbjlihaoaaGreatDoor
open Go.RowKit Go.Av
section
variable {V w : World} {rows : List (Value × Bs)}
def SbS (V : World) (b : Nat) (cs : Array Value) (b5 : Nat) (cs5 : Array Value) (b7 : Nat) (cs7 : Array Value) (Q : List PRow) (W : World) : Prop :=
 ∃ P Ts, (∀ q ∈ Q, q ∈ P) ∧ Sep V W (yab' V P :: yac' b (.cells cs 70 (0, 0)) :: yac' b5 (.cells cs5 70 (0, 0)) :: yac' b7 (.cells cs7 76 (0, 0)) :: Ts) []
section
variable {b : Nat} {cs : Array Value} {b5 : Nat} {cs5 : Array Value} {b7 : Nat} {cs7 : Array Value} {Q Q' : List PRow}
theorem SbS.l0 (h : SbS V b cs b5 cs5 b7 cs7 Q w) (hn : 9 ≤ cs.size) : (Instr.loadAt 70 (.pointer (some ⟨b, 0, none⟩))).run Tryz.prog w = .ok (.agg ((cs.toList.drop 0).take 9).toArray) w := by
 obtain ⟨P, Ts, -, hV⟩ := h
 exact yat' (i := 0) sn_x5.1 hV.up1.blk hn
theorem SbS.l5 (h : SbS V b cs b5 cs5 b7 cs7 Q w) (hn : 9 ≤ cs5.size) : (Instr.loadAt 70 (.pointer (some ⟨b5, 0, none⟩))).run Tryz.prog w = .ok (.agg ((cs5.toList.drop 0).take 9).toArray) w := by
 obtain ⟨P, Ts, -, hV⟩ := h
 exact yat' (i := 0) sn_x5.1 hV.up2.blk hn
theorem SbS.l7 (h : SbS V b cs b5 cs5 b7 cs7 Q w) (hn : 9 ≤ cs7.size) : (Instr.loadAt 76 (.pointer (some ⟨b7, 0, none⟩))).run Tryz.prog w = .ok (.agg ((cs7.toList.drop 0).take 9).toArray) w := by
 obtain ⟨P, Ts, -, hV⟩ := h
 exact yat' (i := 0) yvr'.1 hV.up3.blk hn
theorem SbS.conv {v : Value} {l : Bs} (h : SbS V b cs b5 cs5 b7 cs7 Q w) (hq : (1, v, l.map bv) ∈ Q) : (convert 71 9 v).run Tryz.prog w = .ok (.string ⟨l.toArray⟩) w := by
 obtain ⟨P, Ts, hQ, hV⟩ := h
 obtain ⟨E, hE⟩ := hV.poolGet (hQ _ hq)
 exact Go.Av.conv_str Tryz.underlying71 Tryz.underlying5 Tryz.underlying9 hE w (fun _ _ => rfl)
theorem SbS.less (h : SbS V b cs b5 cs5 b7 cs7 Q w) (hq : ∀ q ∈ Q', q ∈ Q) : SbS V b cs b5 cs5 b7 cs7 Q' w := by
 obtain ⟨P, Ts, hQ, hV⟩ := h
 exact ⟨P, Ts, fun q h => hQ _ (hq _ h), hV⟩
end
theorem ytq' {b : Bs} {s n : Int} {l : List OpS} (h : getR b = some (s, n, l)) : l.length ≤ 16 := (ygl' (yjz' h).2.1).2.2.1
theorem yrr' (t : Bs) : (ya5' t).2.2.length ≤ 100000 := by
 unfold ya5'
 cases h : getR t with
 | none => simp
 | some q =>
  obtain ⟨s, n, l⟩ := q
  have := ytq' h
  show l.length ≤ 100000
  omega
theorem ysh' (k id : Int) (d : Rd) : (yd6' k id d).1.ops.length ≤ 100000 ∧ (yd6' k id d).1.shards.length ≤ 100000 := by
 have h1 := fun t => yrr' t
 have h2 := fun d => yki' d
 have z1 : ([] : List OpS).length ≤ 100000 := Nat.zero_le _
 have z2 : ([] : List Int).length ≤ 100000 := Nat.zero_le _
 have h2 : ∀ d, (shR d).1.length ≤ 100000 := fun d => Nat.le_trans (h2 d) (by omega)
 unfold yd6'
 by_cases g1 : k = 1
 ·rw [if_pos g1]; dsimp only; exact ⟨h1 _, z2⟩
 rw [if_neg g1]
 by_cases g2 : k = 2
 ·rw [if_pos g2]; dsimp only; exact ⟨h1 _, h2 _⟩
 rw [if_neg g2]
 by_cases g3 : k = 3
 ·rw [if_pos g3]; dsimp only; exact ⟨z1, h2 _⟩
 rw [if_neg g3]
 by_cases g4 : k = 4
 ·rw [if_pos g4]; dsimp only; exact ⟨z1, z2⟩
 rw [if_neg g4]
 by_cases g5 : k = 5
 ·rw [if_pos g5]; dsimp only; exact ⟨z1, h2 _⟩
 rw [if_neg g5]
 by_cases g6 : k = 6
 ·rw [if_pos g6]; dsimp only; exact ⟨z1, z2⟩
 rw [if_neg g6]
 by_cases g7 : k = 7
 ·rw [if_pos g7]; dsimp only; exact ⟨z1, z2⟩
 rw [if_neg g7]
 dsimp only
 exact ⟨z1, z2⟩
theorem yud' (b : Bs) : (rawC b).1.ops.length ≤ 100000 ∧ (rawC b).1.shards.length ≤ 100000 := by
 rw [yh6']
 exact ysh' _ _ _
theorem yjy' {l : Bs} {o : Option CmdS} (h : getC l = o) : (o.getD ydt').ops.length ≤ 100000 ∧ (o.getD ydt').shards.length ≤ 100000 := by
 subst h
 unfold getC
 split
 ·exact yud' l
 ·exact ⟨by show ([] : List OpS).length ≤ 100000; simp, by show ([] : List Int).length ≤ 100000; simp⟩
theorem ye1' {a b q : PRow} {P : List PRow} (hq : q ∈ [a, b]) : q ∈ a :: b :: P := by
 rcases List.mem_cons.1 hq with rfl | hq
 ·exact k_s
 ·rw [List.mem_singleton] at hq
  rw [hq]
  exact k_n _ k_s
set_option maxRecDepth 100000 in
set_option maxHeartbeats 16000000 in
theorem shardBytes_walk (c : CmdS) (vo vs : Value) (a1 : Option Addr) (len1 cap1 : Nat) (z1 : List Int) (V : World) (hd : DoorN V) (h0 : CmdOk V ⟨c, vo, vs⟩) (h1 : IsBytes V a1 len1 cap1 z1) :
  Calls Tryz.prog 4 #[.agg (cmdV c vo vs), .slice a1 len1 cap1] V fun e w' => e = .returned (.bool true) ∧ Below V.heap.size V w' := by
 obtain ⟨⟨E5, r5⟩, ⟨E6, r6⟩⟩ := h0
 obtain ⟨l, E, -, rr1⟩ := h1.read
 have rr1 : ReadRow V 1 (.slice a1 len1 cap1) (l.map bv) E := rr1
 dsimp only at r5 r6
 obtain ⟨oa, on, oc, rfl, -⟩ := _root_.id r5
 obtain ⟨sa, sn, sc, rfl, hsn, -⟩ := _root_.id r6
 obtain ⟨_, _, _, e, hl1, -⟩ := _root_.id rr1
 cases e
 rw [List.length_map, Nat.mul_one] at hsn hl1
 subst hsn
 subst hl1
 have hx := (((Sep.start V).poolNew.poolOld r5).poolOld r6).poolOld rr1
 obtain ⟨P0, hP0⟩ : ∃ P0, [(1, Value.slice a1 l.length cap1, l.map bv), (1, Value.slice sa c.shards.length sc, c.shards.map ivn), (5, Value.slice oa on oc, c.ops.flatMap OpS.cells)] = P0 := ⟨_, rfl⟩
 rw [hP0] at hx
 have HP := Lib.hid (show (1, Value.slice a1 l.length cap1, l.map bv) ∈ P0 ∧ (1, Value.slice sa c.shards.length sc, c.shards.map ivn) ∈ P0 ∧ (5, Value.slice oa on oc, c.ops.flatMap OpS.cells) ∈ P0 by rw [← hP0]; simp)
 have HX := Lib.hid hx
 clear rr1 r5 r6 hx hP0
 obtain ⟨zh, hzh⟩ : ∃ z, (yg6' c.ops || decide (6 < (c.shards.length : Int))) = z := ⟨_, rfl⟩
 obtain ⟨zl, hzl⟩ : ∃ z, decide (2000 < (l.length : Int)) = z := ⟨_, rfl⟩
 have q1 : decide (2000 < l.length) = zl := by rw [← hzl]; exact decide_eq_decide.2 (by omega)
 have HZ := Lib.hid (show _ ∧ _ from ⟨hzh, hzl⟩)
 clear hzh
 obtain ⟨KC, hK0⟩ : ∃ c', c = c' := ⟨_, rfl⟩
 obtain ⟨k0, id, sess, rs, rn, ops, shards, shard, yes⟩ := c
 unfold cmdV
 dsimp only at HP HZ HX ⊢
 go_enter Tryz.func4, Tryz.ntmps4
 go_wp2_with (first | refine u0 ?_ | (refine uS ?_; clear HX; intro w HX) | (refine uA ?_; clear HX; (first | (have hq := b5; clear hq; intro w b6 HX) | (have hq := b4; clear hq; intro w b5 HX) | (have hq := b3; clear hq; intro w b4 HX) | (have hq := b2; clear hq; intro w b3 HX) | (have hq := b; clear hq; intro w b2 HX) | intro w b HX)))
 refine (ykt' (hd.sep HX.out)).mono ?_
 rintro e w ⟨rfl, hu⟩
 have hx := HX.out.keep hu
 clear hu
 replace HX := Lib.hid hx
 clear hx
 go_wp2_with (first | refine u0 ?_ | (refine uS ?_; clear HX; intro w HX) | (refine uA ?_; clear HX; (first | (have hq := b5; clear hq; intro w b6 HX) | (have hq := b4; clear hq; intro w b5 HX) | (have hq := b3; clear hq; intro w b4 HX) | (have hq := b2; clear hq; intro w b3 HX) | (have hq := b; clear hq; intro w b2 HX) | intro w b HX)))
 have hm := yqi' HX.out.up1 KC _ _ (by rw [← hK0]; exact HP.out.2.2) (by rw [← hK0]; exact HP.out.2.1)
 rw [← hK0] at hm
 unfold cmdV at hm
 dsimp only at hm
 rw [HZ.out.1] at hm
 refine hm.mono ?_
 clear hm
 rintro e w ⟨rfl, hx⟩
 replace HX := Lib.hid hx
 clear hx
 cases zh with
 | true =>
  go_wp2_with (first | refine u0 ?_ | (refine uS ?_; clear HX; intro w HX) | (refine uA ?_; clear HX; (first | (have hq := b5; clear hq; intro w b6 HX) | (have hq := b4; clear hq; intro w b5 HX) | (have hq := b3; clear hq; intro w b4 HX) | (have hq := b2; clear hq; intro w b3 HX) | (have hq := b; clear hq; intro w b2 HX) | intro w b HX)))
  go_ret
  exact ⟨rfl, HX.out.below⟩
 | false =>
  cases zl with
  | true =>
   go_wp2_with (first | refine u0 ?_ | (refine uS ?_; clear HX; intro w HX) | (refine uA ?_; clear HX; (first | (have hq := b5; clear hq; intro w b6 HX) | (have hq := b4; clear hq; intro w b5 HX) | (have hq := b3; clear hq; intro w b4 HX) | (have hq := b2; clear hq; intro w b3 HX) | (have hq := b; clear hq; intro w b2 HX) | intro w b HX)))
   go_ret
   exact ⟨rfl, HX.out.below⟩
  | false =>
   have hll : l.length ≤ 2000 := by have := of_decide_eq_false q1; omega
   have hlo : yg6' ops = false := by
    have := HZ.out.1
    rw [Bool.or_eq_false_iff] at this
    exact this.1
   have hsh : shards.length ≤ 6 := by
    have := HZ.out.1
    rw [Bool.or_eq_false_iff] at this
    have := of_decide_eq_false this.2
    omega
   have HL := Lib.hid (show _ ∧ _ ∧ _ from ⟨hll, ytw' hlo, hsh⟩)
   clear hll hlo hsh
   go_wp2_with (first | refine u0 ?_ | (refine uS ?_; clear HX; intro w HX) | (refine uA ?_; clear HX; (first | (have hq := b5; clear hq; intro w b6 HX) | (have hq := b4; clear hq; intro w b5 HX) | (have hq := b3; clear hq; intro w b4 HX) | (have hq := b2; clear hq; intro w b3 HX) | (have hq := b; clear hq; intro w b2 HX) | intro w b HX)))
   refine (yf9' HX.out hd _ l HP.out.1 (by have := HL.out.1; omega)).mono ?_
   obtain ⟨o1, ho1⟩ : ∃ o, getC l = o := ⟨_, rfl⟩
   have HO1 := Lib.hid (show getC l = o1 ∧ yhv' l = o1 from ⟨ho1, (yjx' (by have := HL.out.1; omega)).trans ho1⟩)
   rw [ho1]
   clear ho1
   rintro e w ⟨v1, v2, P1, rfl, hP1, m1, m2, hx⟩
   obtain ⟨b1, n1, d1, rfl⟩ := yal' hx m1
   obtain ⟨b2', n2, d2, rfl⟩ := yal' hx m2
   replace HX := Lib.hid hx
   clear hx
   have HP1 := Lib.hid (show _ ∧ _ ∧ _ from ⟨hP1, m1, m2⟩)
   clear hP1 m1 m2
   have HOL := Lib.hid (show (o1.getD ydt').ops.length ≤ 100000 ∧ (o1.getD ydt').shards.length ≤ 100000 from yjy' HO1.out.1)
   have hcase : (o1.isSome = true ∧ (if o1.isSome = true then (0 : Int) else 3) = 0) ∨ (o1.isSome = false ∧ (if o1.isSome = true then (0 : Int) else 3) = 3) := by
    cases o1 with
    | none => exact .inr ⟨rfl, rfl⟩
    | some _ => exact .inl ⟨rfl, rfl⟩
   obtain ⟨zb, e1, hzb⟩ : ∃ zb e1, o1.isSome = zb ∧ (if o1.isSome = true then (0 : Int) else 3) = e1 ∧ (zb = true ∧ e1 = 0 ∨ zb = false ∧ e1 = 3) := ⟨_, _, rfl, rfl, hcase⟩
   obtain ⟨hz1, hz2, hz3⟩ := hzb
   rw [hz2]
   have HZB := Lib.hid (show _ ∧ _ from ⟨hz1, hz3⟩)
   clear hz1 hz2 hz3 hcase
   obtain ⟨D, hD⟩ : ∃ D, o1.getD ydt' = D := ⟨_, rfl⟩
   have HD := Lib.hid hD
   rw [hD] at HP1 HOL ⊢
   clear hD
   obtain ⟨D0, D1, D2, D3, D4, D5, D6, D7, D8⟩ := D
   unfold cmdV
   dsimp only at HP1 HOL ⊢
   go_wp2_with (first | refine u0 ?_ | (refine uS ?_; clear HX; intro w HX) | (refine uA ?_; clear HX; (first | (have hq := b5; clear hq; intro w b6 HX) | (have hq := b4; clear hq; intro w b5 HX) | (have hq := b3; clear hq; intro w b4 HX) | (have hq := b2; clear hq; intro w b3 HX) | (have hq := b; clear hq; intro w b2 HX) | intro w b HX)))
   refine (yhw' HX.out.up1 _ l (HP1.out.1 _ HP.out.1) (by have := HL.out.1; omega)).mono ?_
   rw [HO1.out.2]
   rintro e w ⟨v3, v4, P2, rfl, hP2, m3, m4, hx⟩
   obtain ⟨b3', n3, d3, rfl⟩ := yal' hx m3
   obtain ⟨b4', n4, d4, rfl⟩ := yal' hx m4
   replace HX := Lib.hid hx
   clear hx
   rw [HD.out] at m3 m4 ⊢
   rw [HZB.out.1]
   have HP2 := Lib.hid (show _ ∧ _ ∧ _ from ⟨hP2, m3, m4⟩)
   clear hP2 m3 m4
   unfold cmdV
   dsimp only at HP2 ⊢
   go_upto_region 7 with (first | refine u0 ?_ | (refine uS ?_; clear HX; intro w HX) | (refine uA ?_; clear HX; (first | (have hq := b5; clear hq; intro w b6 HX) | (have hq := b4; clear hq; intro w b5 HX) | (have hq := b3; clear hq; intro w b4 HX) | (have hq := b2; clear hq; intro w b3 HX) | (have hq := b; clear hq; intro w b2 HX) | intro w b HX)))
   obtain ⟨bs, hbs⟩ : ∃ bs, putC KC = bs := ⟨_, rfl⟩
   have HBS := Lib.hid (show putC KC = bs ∧ bs.length ≤ 25000 from ⟨hbs, by rw [← hbs]; exact yub' (by rw [← hK0]; exact HL.out.2.2)⟩)
   have HKK := Lib.hid hK0
   have q5 : ((⟨bs.toArray⟩ : ByteArray).toList == (⟨bs.toArray⟩ : ByteArray).toList) = true := by simp
   have q6 : ((⟨bs.toArray⟩ : ByteArray).toList != (⟨bs.toArray⟩ : ByteArray).toList) = false := by rw [bne, q5]; rfl
   have HPA := Lib.hid (show (∀ o ∈ KC.ops, o.path.size ≤ 100000) ∧ KC.shards.length ≤ 1000 ∧ KC.ops = ops ∧ KC.shards = shards from ⟨by rw [← hK0]; exact fun o ho => by have := HL.out.2.1.2 o ho; omega, by rw [← hK0]; have := HL.out.2.2; show shards.length ≤ 1000; omega, by rw [← hK0], by rw [← hK0]⟩)
   have hkv : (#[.int .i64 k0, .int .i64 id, .int .i64 sess, .int .i64 rs, .int .i64 rn, .slice oa on oc, .slice sa shards.length sc, .int .i64 shard, .bool yes] : Array Value) = cmdV KC (.slice oa on oc) (.slice sa shards.length sc) := by rw [← hK0]; rfl
   have HKV := Lib.hid hkv
   clear hbs hkv hK0 q1 hzl
   obtain ⟨e0, hz⟩ | hz := HZB.out.2
   ·subst e0
    subst hz
    refine rM (fun W => SbS V b #[.int .i64 k0, .int .i64 id, .int .i64 sess, .int .i64 rs, .int .i64 rn, .slice oa on oc, .slice sa shards.length sc, .int .i64 shard, .bool yes] b2 #[.int .i64 D0, .int .i64 D1, .int .i64 D2, .int .i64 D3, .int .i64 D4, .slice b1 n1 d1, .slice b2' n2 d2, .int .i64 D7, .bool D8] b3 #[.int .i64 D0, .int .i64 D1, .int .i64 D2, .int .i64 D3, .int .i64 D4, .slice b3' n3 d3, .slice b4' n4 d4, .int .i64 D7, .bool D8] [] W) 29 ?_
    intro KEEPX
    replace HX := Lib.hid HX.out.drew.up2.up3.up3
    have hl := fun U (hU : SbS V b #[.int .i64 k0, .int .i64 id, .int .i64 sess, .int .i64 rs, .int .i64 rn, .slice oa on oc, .slice sa shards.length sc, .int .i64 shard, .bool yes] b2 #[.int .i64 D0, .int .i64 D1, .int .i64 D2, .int .i64 D3, .int .i64 D4, .slice b1 n1 d1, .slice b2' n2 d2, .int .i64 D7, .bool D8] b3 #[.int .i64 D0, .int .i64 D1, .int .i64 D2, .int .i64 D3, .int .i64 D4, .slice b3' n3 d3, .slice b4' n4 d4, .int .i64 D7, .bool D8] [] U) => hU.l0 (by simp)
    simp only [k_d, k_f, k_g, k_h] at hl
    refine rT [(0, true), (3, true)] 27 ?_
    apply Exists.intro; refine ⟨?_, ⟨_, _, fun q hq => (by cases hq), HX.out⟩, ?_⟩
    ·iterate 2 (refine xE ?_)
     exact rfl
    refine r1 26 1 fun K hK => ?_
    go_wp2_with fail
    have HPM := Lib.hid (show ∀ q ∈ P0, q ∈ P2 from fun q hq => HP2.out.1 _ (HP1.out.1 q hq))
    have hm := yef' HX.out hd KC _ _ (by rw [HPA.out.2.2.1]; exact HPM.out _ HP.out.2.2) (by rw [HPA.out.2.2.2]; exact HPM.out _ HP.out.2.1) HPA.out.1 HPA.out.2.1
    rw [HBS.out.1, ← HKV.out] at hm
    refine hm.mono ?_
    clear hm
    rintro e w ⟨v5, rfl, hx⟩
    have hx := hx.poolRow
    replace HX := Lib.hid hx
    clear hx
    go_wp2_with fail
    have HS1 := Lib.hid (show SbS V b #[.int .i64 k0, .int .i64 id, .int .i64 sess, .int .i64 rs, .int .i64 rn, .slice oa on oc, .slice sa shards.length sc, .int .i64 shard, .bool yes] b2 #[.int .i64 D0, .int .i64 D1, .int .i64 D2, .int .i64 D3, .int .i64 D4, .slice b1 n1 d1, .slice b2' n2 d2, .int .i64 D7, .bool D8] b3 #[.int .i64 D0, .int .i64 D1, .int .i64 D2, .int .i64 D3, .int .i64 D4, .slice b3' n3 d3, .slice b4' n4 d4, .int .i64 D7, .bool D8] [(1, v5, bs.map bv)] w from ⟨_, _, fun q hq => (by rw [List.mem_singleton] at hq; rw [hq]; exact k_s), HX.out⟩)
    refine hK _ _ (HS1.out.less (fun q hq => by cases hq)) ?_
    clear hK hl KEEPX
    refine ydr' (S' := fun W => SbS V b #[.int .i64 k0, .int .i64 id, .int .i64 sess, .int .i64 rs, .int .i64 rn, .slice oa on oc, .slice sa shards.length sc, .int .i64 shard, .bool yes] b2 #[.int .i64 D0, .int .i64 D1, .int .i64 D2, .int .i64 D3, .int .i64 D4, .slice b1 n1 d1, .slice b2' n2 d2, .int .i64 D7, .bool D8] b3 #[.int .i64 D0, .int .i64 D1, .int .i64 D2, .int .i64 D3, .int .i64 D4, .slice b3' n3 d3, .slice b4' n4 d4, .int .i64 D7, .bool D8] [(1, v5, bs.map bv)] W) (fun U hU => hU.less (fun q hq => by cases hq)) (Nat.le_of_ble_eq_true (by kernel_rfl)) HS1.out ?_
    have KEEPX : ∀ W, SbS V b #[.int .i64 k0, .int .i64 id, .int .i64 sess, .int .i64 rs, .int .i64 rn, .slice oa on oc, .slice sa shards.length sc, .int .i64 shard, .bool yes] b2 #[.int .i64 D0, .int .i64 D1, .int .i64 D2, .int .i64 D3, .int .i64 D4, .slice b1 n1 d1, .slice b2' n2 d2, .int .i64 D7, .bool D8] b3 #[.int .i64 D0, .int .i64 D1, .int .i64 D2, .int .i64 D3, .int .i64 D4, .slice b3' n3 d3, .slice b4' n4 d4, .int .i64 D7, .bool D8] [(1, v5, bs.map bv)] W → SbS V b #[.int .i64 k0, .int .i64 id, .int .i64 sess, .int .i64 rs, .int .i64 rn, .slice oa on oc, .slice sa shards.length sc, .int .i64 shard, .bool yes] b2 #[.int .i64 D0, .int .i64 D1, .int .i64 D2, .int .i64 D3, .int .i64 D4, .slice b1 n1 d1, .slice b2' n2 d2, .int .i64 D7, .bool D8] b3 #[.int .i64 D0, .int .i64 D1, .int .i64 D2, .int .i64 D3, .int .i64 D4, .slice b3' n3 d3, .slice b4' n4 d4, .int .i64 D7, .bool D8] [(1, v5, bs.map bv)] W := fun _ h => h
    have hcv := fun U (hU : SbS V b #[.int .i64 k0, .int .i64 id, .int .i64 sess, .int .i64 rs, .int .i64 rn, .slice oa on oc, .slice sa shards.length sc, .int .i64 shard, .bool yes] b2 #[.int .i64 D0, .int .i64 D1, .int .i64 D2, .int .i64 D3, .int .i64 D4, .slice b1 n1 d1, .slice b2' n2 d2, .int .i64 D7, .bool D8] b3 #[.int .i64 D0, .int .i64 D1, .int .i64 D2, .int .i64 D3, .int .i64 D4, .slice b3' n3 d3, .slice b4' n4 d4, .int .i64 D7, .bool D8] [(1, v5, bs.map bv)] U) => hU.conv k_s
    refine rT [(2, true)] 25 ?_
    apply Exists.intro; refine ⟨?_, HS1.out, ?_⟩
    ·iterate 1 (first | refine xE ?_ | ((apply ybx' hcv); (· (simp only [k_i, k_j, k_k]; try rfl)); (· rfl); (· rfl); (· rfl)))
     exact rfl
    refine r1 24 4 fun K hK => ?_
    clear HS1
    go_wp2_with fail
    refine (yc3' HX.out k0 id sess rs rn oa on oc sa shards.length sc shard yes).mono ?_
    rintro e w ⟨rfl, hx⟩
    replace HX := Lib.hid hx
    clear hx
    go_wp2_with fail
    refine hK _ _ ⟨_, _, fun q hq => (by rw [List.mem_singleton] at hq; rw [hq]; exact k_s), HX.out⟩ ?_
    clear hK
    refine r1 23 5 fun K hK => ?_
    go_wp2_with fail
    have hm := yf4' HX.out KC _ _ (by rw [HPA.out.2.2.1]; exact k_n _ <| HPM.out _ HP.out.2.2) (by rw [HPA.out.2.2.2]; exact k_n _ <| HPM.out _ HP.out.2.1) HPA.out.1 HPA.out.2.1
    rw [HBS.out.1, ← HKV.out] at hm
    refine hm.mono ?_
    clear hm
    rintro e w ⟨v6, rfl, hx⟩
    have hx := hx.poolRow
    replace HX := Lib.hid hx
    clear hx
    go_wp2_with fail
    have HS2 := Lib.hid (show SbS V b #[.int .i64 k0, .int .i64 id, .int .i64 sess, .int .i64 rs, .int .i64 rn, .slice oa on oc, .slice sa shards.length sc, .int .i64 shard, .bool yes] b2 #[.int .i64 D0, .int .i64 D1, .int .i64 D2, .int .i64 D3, .int .i64 D4, .slice b1 n1 d1, .slice b2' n2 d2, .int .i64 D7, .bool D8] b3 #[.int .i64 D0, .int .i64 D1, .int .i64 D2, .int .i64 D3, .int .i64 D4, .slice b3' n3 d3, .slice b4' n4 d4, .int .i64 D7, .bool D8] [(1, v6, bs.map bv), (1, v5, bs.map bv)] w from ⟨_, _, fun q hq => ye1' hq, HX.out⟩)
    refine hK _ _ (HS2.out.less (fun q hq => k_n _ hq)) ?_
    clear hK hcv KEEPX
    refine ydr' (S' := fun W => SbS V b #[.int .i64 k0, .int .i64 id, .int .i64 sess, .int .i64 rs, .int .i64 rn, .slice oa on oc, .slice sa shards.length sc, .int .i64 shard, .bool yes] b2 #[.int .i64 D0, .int .i64 D1, .int .i64 D2, .int .i64 D3, .int .i64 D4, .slice b1 n1 d1, .slice b2' n2 d2, .int .i64 D7, .bool D8] b3 #[.int .i64 D0, .int .i64 D1, .int .i64 D2, .int .i64 D3, .int .i64 D4, .slice b3' n3 d3, .slice b4' n4 d4, .int .i64 D7, .bool D8] [(1, v6, bs.map bv), (1, v5, bs.map bv)] W) (fun U hU => hU.less (fun q hq => k_n _ hq)) (Nat.le_of_ble_eq_true (by kernel_rfl)) HS2.out ?_
    have KEEPX : ∀ W, SbS V b #[.int .i64 k0, .int .i64 id, .int .i64 sess, .int .i64 rs, .int .i64 rn, .slice oa on oc, .slice sa shards.length sc, .int .i64 shard, .bool yes] b2 #[.int .i64 D0, .int .i64 D1, .int .i64 D2, .int .i64 D3, .int .i64 D4, .slice b1 n1 d1, .slice b2' n2 d2, .int .i64 D7, .bool D8] b3 #[.int .i64 D0, .int .i64 D1, .int .i64 D2, .int .i64 D3, .int .i64 D4, .slice b3' n3 d3, .slice b4' n4 d4, .int .i64 D7, .bool D8] [(1, v6, bs.map bv), (1, v5, bs.map bv)] W → SbS V b #[.int .i64 k0, .int .i64 id, .int .i64 sess, .int .i64 rs, .int .i64 rn, .slice oa on oc, .slice sa shards.length sc, .int .i64 shard, .bool yes] b2 #[.int .i64 D0, .int .i64 D1, .int .i64 D2, .int .i64 D3, .int .i64 D4, .slice b1 n1 d1, .slice b2' n2 d2, .int .i64 D7, .bool D8] b3 #[.int .i64 D0, .int .i64 D1, .int .i64 D2, .int .i64 D3, .int .i64 D4, .slice b3' n3 d3, .slice b4' n4 d4, .int .i64 D7, .bool D8] [(1, v6, bs.map bv), (1, v5, bs.map bv)] W := fun _ h => h
    have hcv := fun U (hU : SbS V b #[.int .i64 k0, .int .i64 id, .int .i64 sess, .int .i64 rs, .int .i64 rn, .slice oa on oc, .slice sa shards.length sc, .int .i64 shard, .bool yes] b2 #[.int .i64 D0, .int .i64 D1, .int .i64 D2, .int .i64 D3, .int .i64 D4, .slice b1 n1 d1, .slice b2' n2 d2, .int .i64 D7, .bool D8] b3 #[.int .i64 D0, .int .i64 D1, .int .i64 D2, .int .i64 D3, .int .i64 D4, .slice b3' n3 d3, .slice b4' n4 d4, .int .i64 D7, .bool D8] [(1, v6, bs.map bv), (1, v5, bs.map bv)] U) => hU.conv k_s
    have hl := fun U (hU : SbS V b #[.int .i64 k0, .int .i64 id, .int .i64 sess, .int .i64 rs, .int .i64 rn, .slice oa on oc, .slice sa shards.length sc, .int .i64 shard, .bool yes] b2 #[.int .i64 D0, .int .i64 D1, .int .i64 D2, .int .i64 D3, .int .i64 D4, .slice b1 n1 d1, .slice b2' n2 d2, .int .i64 D7, .bool D8] b3 #[.int .i64 D0, .int .i64 D1, .int .i64 D2, .int .i64 D3, .int .i64 D4, .slice b3' n3 d3, .slice b4' n4 d4, .int .i64 D7, .bool D8] [(1, v6, bs.map bv), (1, v5, bs.map bv)] U) => hU.l5 (by simp)
    have hl2 := fun U (hU : SbS V b #[.int .i64 k0, .int .i64 id, .int .i64 sess, .int .i64 rs, .int .i64 rn, .slice oa on oc, .slice sa shards.length sc, .int .i64 shard, .bool yes] b2 #[.int .i64 D0, .int .i64 D1, .int .i64 D2, .int .i64 D3, .int .i64 D4, .slice b1 n1 d1, .slice b2' n2 d2, .int .i64 D7, .bool D8] b3 #[.int .i64 D0, .int .i64 D1, .int .i64 D2, .int .i64 D3, .int .i64 D4, .slice b3' n3 d3, .slice b4' n4 d4, .int .i64 D7, .bool D8] [(1, v6, bs.map bv), (1, v5, bs.map bv)] U) => hU.l7 (by simp)
    simp only [k_d, k_f, k_g, k_h] at hl hl2
    refine rT [(6, true), (7, false), (8, false), (9, false), (10, false), (11, false), (12, false), (13, false), (14, false), (15, false), (16, false), (17, false), (18, false), (19, false), (20, false), (21, false), (22, false), (23, true), (25, true)] 4 ?_
    apply Exists.intro; refine ⟨?_, HS2.out, ?_⟩
    ·iterate 19 (first | refine xE ?_ | ((first | apply yav' | apply yas'); (· (simp only [k_i, k_j, k_k]; try rfl)); (· rfl); (· (intros; go_simp; (try simp only [q6, ↓reduceIte, and_self, Int.toNat_natCast]); try with_reducible rfl)); (· (simp only [Act.put, k_a, k_b, k_c, k_d, k_e, k_f, k_g, k_h, NodeS.cells, OpS.cells, ResS.cells]; try rfl))) | ((apply ybx' hcv); (· (simp only [k_i, k_j, k_k]; try rfl)); (· rfl); (· rfl); (· rfl)))
     exact rfl
    refine r1 3 24 fun K hK => ?_
    clear HS2
    go_wp2_with fail
    refine (yc3' HX.out D0 D1 D2 D3 D4 b1 n1 d1 b2' n2 d2 D7 D8).mono ?_
    rintro e w ⟨rfl, hx⟩
    replace HX := Lib.hid hx
    clear hx
    go_wp2_with fail
    refine hK _ _ ⟨_, _, fun q hq => ye1' hq, HX.out⟩ ?_
    clear hK
    refine r1 2 26 fun K hK => ?_
    go_wp2_with fail
    refine (ye7' HX.out ⟨D0, D1, D2, D3, D4, D5, D6, D7, D8⟩ _ _ _ _ (k_n _ (k_n _ (HP2.out.1 _ HP1.out.2.1))) (k_n _ (k_n _ HP2.out.2.1)) (k_n _ (k_n _ (HP2.out.1 _ HP1.out.2.2))) (k_n _ (k_n _ HP2.out.2.2)) HOL.out.1 HOL.out.2).mono ?_
    rintro e w ⟨rfl, hx⟩
    replace HX := Lib.hid hx
    clear hx
    go_wp2_with fail
    refine hK _ _ ⟨_, _, fun q hq => ye1' hq, HX.out⟩ ?_
    clear hK
    refine rT [(27, false), (28, false)] 0 ?_
    apply Exists.intro; refine ⟨?_, ⟨_, _, fun q hq => ye1' hq, HX.out⟩, ?_⟩
    ·iterate 2 (refine xE ?_)
     exact rfl
    refine yah' (by kernel_rfl) ?_ _
    clear hl hl2 hcv KEEPX
    go_wp2_with (first | refine u0 ?_ | (refine uS ?_; clear HX; intro w HX) | (refine uA ?_; clear HX; (first | (have hq := b5; clear hq; intro w b6 HX) | (have hq := b4; clear hq; intro w b5 HX) | (have hq := b3; clear hq; intro w b4 HX) | (have hq := b2; clear hq; intro w b3 HX) | (have hq := b; clear hq; intro w b2 HX) | intro w b HX)))
    have hm := yef' HX.out hd KC _ _ (by rw [HPA.out.2.2.1]; exact k_n _ <| k_n _ <| HPM.out _ HP.out.2.2) (by rw [HPA.out.2.2.2]; exact k_n _ <| k_n _ <| HPM.out _ HP.out.2.1) HPA.out.1 HPA.out.2.1
    rw [HBS.out.1, ← HKV.out] at hm
    refine hm.mono ?_
    clear hm
    rintro e w ⟨v7, rfl, hx⟩
    have hx := hx.poolRow
    replace HX := Lib.hid hx
    clear hx
    go_wp2_with (first | refine u0 ?_ | (refine uS ?_; clear HX; intro w HX) | (refine uA ?_; clear HX; (first | (have hq := b5; clear hq; intro w b6 HX) | (have hq := b4; clear hq; intro w b5 HX) | (have hq := b3; clear hq; intro w b4 HX) | (have hq := b2; clear hq; intro w b3 HX) | (have hq := b; clear hq; intro w b2 HX) | intro w b HX)))
    refine (yf9' HX.out hd _ bs k_s (by have := HBS.out.2; omega)).mono ?_
    obtain ⟨o2, ho2⟩ : ∃ o, getC bs = o := ⟨_, rfl⟩
    have HO2 := Lib.hid (show getC bs = o2 ∧ yhv' bs = o2 from ⟨ho2, (yjx' HBS.out.2).trans ho2⟩)
    rw [ho2]
    clear ho2
    rintro e w ⟨u1, u2, P3, rfl, hP3, m1, m2, hx⟩
    obtain ⟨f1, g1, h1, rfl⟩ := yal' hx m1
    obtain ⟨f2, g2, h2, rfl⟩ := yal' hx m2
    replace HX := Lib.hid hx
    clear hx
    have HP3 := Lib.hid (show _ ∧ _ ∧ _ from ⟨hP3, m1, m2⟩)
    clear hP3 m1 m2
    have HOG := Lib.hid (show (o2.getD ydt').ops.length ≤ 100000 ∧ (o2.getD ydt').shards.length ≤ 100000 from yjy' HO2.out.1)
    obtain ⟨zc, e2, hz1, hz2, qa⟩ : ∃ zc e2, o2.isSome = zc ∧ (if o2.isSome = true then (0 : Int) else 3) = e2 ∧ (e2 == 0) = zc := ⟨_, _, rfl, rfl, by cases o2 <;> rfl⟩
    rw [hz2]
    have HZC := Lib.hid hz1
    clear hz1 hz2
    obtain ⟨G, hG⟩ : ∃ D, o2.getD ydt' = D := ⟨_, rfl⟩
    have HG := Lib.hid hG
    rw [hG] at HP3 HOG ⊢
    clear hG
    obtain ⟨G0, G1, G2, G3, G4, G5, G6, G7, G8⟩ := G
    unfold cmdV
    dsimp only at HP3 HOG ⊢
    go_wp2_with (first | refine u0 ?_ | (refine uS ?_; clear HX; intro w HX) | (refine uA ?_; clear HX; (first | (have hq := b5; clear hq; intro w b6 HX) | (have hq := b4; clear hq; intro w b5 HX) | (have hq := b3; clear hq; intro w b4 HX) | (have hq := b2; clear hq; intro w b3 HX) | (have hq := b; clear hq; intro w b2 HX) | intro w b HX)))
    refine (yc3' HX.out k0 id sess rs rn oa on oc sa shards.length sc shard yes).mono ?_
    rintro e w ⟨rfl, hx⟩
    replace HX := Lib.hid hx
    clear hx
    have HPN := Lib.hid (show ∀ q ∈ P0, q ∈ P3 from fun q hq => HP3.out.1 _ (k_n _ (k_n _ (k_n _ (HPM.out q hq)))))
    go_wp2_with (first | refine u0 ?_ | (refine uS ?_; clear HX; intro w HX) | (refine uA ?_; clear HX; (first | (have hq := b5; clear hq; intro w b6 HX) | (have hq := b4; clear hq; intro w b5 HX) | (have hq := b3; clear hq; intro w b4 HX) | (have hq := b2; clear hq; intro w b3 HX) | (have hq := b; clear hq; intro w b2 HX) | intro w b HX)))
    have hx := HX.out.up1
    replace HX := Lib.hid hx
    clear hx
    have hm := yf4' HX.out KC _ _ (by rw [HPA.out.2.2.1]; exact HPN.out _ HP.out.2.2) (by rw [HPA.out.2.2.2]; exact HPN.out _ HP.out.2.1) HPA.out.1 HPA.out.2.1
    rw [HBS.out.1, ← HKV.out] at hm
    refine hm.mono ?_
    clear hm
    rintro e w ⟨v8, rfl, hx⟩
    have hx := hx.poolRow
    replace HX := Lib.hid hx
    clear hx
    go_wp2_with (first | refine u0 ?_ | (refine uS ?_; clear HX; intro w HX) | (refine uA ?_; clear HX; (first | (have hq := b5; clear hq; intro w b6 HX) | (have hq := b4; clear hq; intro w b5 HX) | (have hq := b3; clear hq; intro w b4 HX) | (have hq := b2; clear hq; intro w b3 HX) | (have hq := b; clear hq; intro w b2 HX) | intro w b HX)))
    refine (yhw' HX.out _ bs k_s (by have := HBS.out.2; omega)).mono ?_
    rw [HO2.out.2]
    rintro e w ⟨u3, u4, P4, rfl, hP4, m3, m4, hx⟩
    obtain ⟨f3, g3, h3, rfl⟩ := yal' hx m3
    obtain ⟨f4, g4, h4, rfl⟩ := yal' hx m4
    replace HX := Lib.hid hx
    clear hx
    rw [HG.out] at m3 m4 ⊢
    rw [HZC.out]
    have HP4 := Lib.hid (show _ ∧ _ ∧ _ from ⟨hP4, m3, m4⟩)
    clear hP4 m3 m4
    unfold cmdV
    dsimp only at HP4 ⊢
    go_upto_region 11 with (first | refine u0 ?_ | (refine uS ?_; clear HX; intro w HX) | (refine uA ?_; clear HX; (first | (have hq := b5; clear hq; intro w b6 HX) | (have hq := b4; clear hq; intro w b5 HX) | (have hq := b3; clear hq; intro w b4 HX) | (have hq := b2; clear hq; intro w b3 HX) | (have hq := b; clear hq; intro w b2 HX) | intro w b HX)))
    have qb : (zc == zc) = true := by simp
    refine rM (fun W => SbS V b #[.int .i64 k0, .int .i64 id, .int .i64 sess, .int .i64 rs, .int .i64 rn, .slice oa on oc, .slice sa shards.length sc, .int .i64 shard, .bool yes] b4 #[.int .i64 G0, .int .i64 G1, .int .i64 G2, .int .i64 G3, .int .i64 G4, .slice f1 g1 h1, .slice f2 g2 h2, .int .i64 G7, .bool G8] b5 #[.int .i64 G0, .int .i64 G1, .int .i64 G2, .int .i64 G3, .int .i64 G4, .slice f3 g3 h3, .slice f4 g4 h4, .int .i64 G7, .bool G8] [] W) 10 ?_
    intro KEEPX
    replace HX := Lib.hid HX.out.drew.up2.up3.up3
    have hl := fun U (hU : SbS V b #[.int .i64 k0, .int .i64 id, .int .i64 sess, .int .i64 rs, .int .i64 rn, .slice oa on oc, .slice sa shards.length sc, .int .i64 shard, .bool yes] b4 #[.int .i64 G0, .int .i64 G1, .int .i64 G2, .int .i64 G3, .int .i64 G4, .slice f1 g1 h1, .slice f2 g2 h2, .int .i64 G7, .bool G8] b5 #[.int .i64 G0, .int .i64 G1, .int .i64 G2, .int .i64 G3, .int .i64 G4, .slice f3 g3 h3, .slice f4 g4 h4, .int .i64 G7, .bool G8] [] U) => hU.l5 (by simp)
    have hl2 := fun U (hU : SbS V b #[.int .i64 k0, .int .i64 id, .int .i64 sess, .int .i64 rs, .int .i64 rn, .slice oa on oc, .slice sa shards.length sc, .int .i64 shard, .bool yes] b4 #[.int .i64 G0, .int .i64 G1, .int .i64 G2, .int .i64 G3, .int .i64 G4, .slice f1 g1 h1, .slice f2 g2 h2, .int .i64 G7, .bool G8] b5 #[.int .i64 G0, .int .i64 G1, .int .i64 G2, .int .i64 G3, .int .i64 G4, .slice f3 g3 h3, .slice f4 g4 h4, .int .i64 G7, .bool G8] [] U) => hU.l7 (by simp)
    simp only [k_d, k_f, k_g, k_h] at hl hl2
    refine rT [(0, false), (1, false), (2, false), (3, false), (4, false), (5, true), (7, true)] 4 ?_
    apply Exists.intro; refine ⟨?_, ⟨_, _, fun q hq => (by cases hq), HX.out⟩, ?_⟩
    ·iterate 7 (first | refine xE ?_ | ((first | apply yav' | apply yas'); (· (simp only [k_i, k_j, k_k]; try rfl)); (· rfl); (· (intros; go_simp; (try simp only [qa, qb, ↓reduceIte, and_self, Int.toNat_natCast]); try with_reducible rfl)); (· (simp only [Act.put, k_a, k_b, k_c, k_d, k_e, k_f, k_g, k_h, NodeS.cells, OpS.cells, ResS.cells]; try rfl))))
     exact rfl
    refine r1 3 6 fun K hK => ?_
    clear hl hl2
    go_wp2_with fail
    refine (yc3' HX.out G0 G1 G2 G3 G4 f1 g1 h1 f2 g2 h2 G7 G8).mono ?_
    rintro e w ⟨rfl, hx⟩
    replace HX := Lib.hid hx
    clear hx
    go_wp2_with fail
    refine hK _ _ ⟨_, _, fun q hq => (by cases hq), HX.out⟩ ?_
    clear hK
    refine r1 2 8 fun K hK => ?_
    go_wp2_with fail
    refine (ye7' HX.out ⟨G0, G1, G2, G3, G4, G5, G6, G7, G8⟩ _ _ _ _ (HP4.out.1 _ (k_n _ HP3.out.2.1)) HP4.out.2.1 (HP4.out.1 _ (k_n _ HP3.out.2.2)) HP4.out.2.2 HOG.out.1 HOG.out.2).mono ?_
    rintro e w ⟨rfl, hx⟩
    replace HX := Lib.hid hx
    clear hx
    go_wp2_with fail
    refine hK _ _ ⟨_, _, fun q hq => (by cases hq), HX.out⟩ ?_
    clear hK
    refine rT [(9, false)] 1 ?_
    apply Exists.intro; refine ⟨?_, ⟨_, _, fun q hq => (by cases hq), HX.out⟩, ?_⟩
    ·iterate 1 (refine xE ?_)
     exact rfl
    refine rL [10] 0 ?_
    simp only [List.filterMap_cons, List.filterMap_nil, k_i, k_j, k_k]
    go_wp2_with (first | refine u0 ?_ | (refine uS ?_; clear HX; intro w HX) | (refine uA ?_; clear HX; (first | (have hq := b5; clear hq; intro w b6 HX) | (have hq := b4; clear hq; intro w b5 HX) | (have hq := b3; clear hq; intro w b4 HX) | (have hq := b2; clear hq; intro w b3 HX) | (have hq := b; clear hq; intro w b2 HX) | intro w b HX)))
    go_ret
    exact ⟨rfl, HX.out.below⟩
   ·obtain ⟨e0, hz⟩ := hz
    subst e0
    subst hz
    refine rM (fun W => SbS V b #[.int .i64 k0, .int .i64 id, .int .i64 sess, .int .i64 rs, .int .i64 rn, .slice oa on oc, .slice sa shards.length sc, .int .i64 shard, .bool yes] b2 #[.int .i64 D0, .int .i64 D1, .int .i64 D2, .int .i64 D3, .int .i64 D4, .slice b1 n1 d1, .slice b2' n2 d2, .int .i64 D7, .bool D8] b3 #[.int .i64 D0, .int .i64 D1, .int .i64 D2, .int .i64 D3, .int .i64 D4, .slice b3' n3 d3, .slice b4' n4 d4, .int .i64 D7, .bool D8] [] W) 29 ?_
    intro KEEPX
    replace HX := Lib.hid HX.out.drew.up2.up3.up3
    have hl := fun U (hU : SbS V b #[.int .i64 k0, .int .i64 id, .int .i64 sess, .int .i64 rs, .int .i64 rn, .slice oa on oc, .slice sa shards.length sc, .int .i64 shard, .bool yes] b2 #[.int .i64 D0, .int .i64 D1, .int .i64 D2, .int .i64 D3, .int .i64 D4, .slice b1 n1 d1, .slice b2' n2 d2, .int .i64 D7, .bool D8] b3 #[.int .i64 D0, .int .i64 D1, .int .i64 D2, .int .i64 D3, .int .i64 D4, .slice b3' n3 d3, .slice b4' n4 d4, .int .i64 D7, .bool D8] [] U) => hU.l0 (by simp)
    simp only [k_d, k_f, k_g, k_h] at hl
    refine rT [(0, true), (3, true)] 27 ?_
    apply Exists.intro; refine ⟨?_, ⟨_, _, fun q hq => (by cases hq), HX.out⟩, ?_⟩
    ·iterate 2 (refine xE ?_)
     exact rfl
    refine r1 26 1 fun K hK => ?_
    go_wp2_with fail
    have HPM := Lib.hid (show ∀ q ∈ P0, q ∈ P2 from fun q hq => HP2.out.1 _ (HP1.out.1 q hq))
    have hm := yef' HX.out hd KC _ _ (by rw [HPA.out.2.2.1]; exact HPM.out _ HP.out.2.2) (by rw [HPA.out.2.2.2]; exact HPM.out _ HP.out.2.1) HPA.out.1 HPA.out.2.1
    rw [HBS.out.1, ← HKV.out] at hm
    refine hm.mono ?_
    clear hm
    rintro e w ⟨v5, rfl, hx⟩
    have hx := hx.poolRow
    replace HX := Lib.hid hx
    clear hx
    go_wp2_with fail
    have HS1 := Lib.hid (show SbS V b #[.int .i64 k0, .int .i64 id, .int .i64 sess, .int .i64 rs, .int .i64 rn, .slice oa on oc, .slice sa shards.length sc, .int .i64 shard, .bool yes] b2 #[.int .i64 D0, .int .i64 D1, .int .i64 D2, .int .i64 D3, .int .i64 D4, .slice b1 n1 d1, .slice b2' n2 d2, .int .i64 D7, .bool D8] b3 #[.int .i64 D0, .int .i64 D1, .int .i64 D2, .int .i64 D3, .int .i64 D4, .slice b3' n3 d3, .slice b4' n4 d4, .int .i64 D7, .bool D8] [(1, v5, bs.map bv)] w from ⟨_, _, fun q hq => (by rw [List.mem_singleton] at hq; rw [hq]; exact k_s), HX.out⟩)
    refine hK _ _ (HS1.out.less (fun q hq => by cases hq)) ?_
    clear hK hl KEEPX
    refine ydr' (S' := fun W => SbS V b #[.int .i64 k0, .int .i64 id, .int .i64 sess, .int .i64 rs, .int .i64 rn, .slice oa on oc, .slice sa shards.length sc, .int .i64 shard, .bool yes] b2 #[.int .i64 D0, .int .i64 D1, .int .i64 D2, .int .i64 D3, .int .i64 D4, .slice b1 n1 d1, .slice b2' n2 d2, .int .i64 D7, .bool D8] b3 #[.int .i64 D0, .int .i64 D1, .int .i64 D2, .int .i64 D3, .int .i64 D4, .slice b3' n3 d3, .slice b4' n4 d4, .int .i64 D7, .bool D8] [(1, v5, bs.map bv)] W) (fun U hU => hU.less (fun q hq => by cases hq)) (Nat.le_of_ble_eq_true (by kernel_rfl)) HS1.out ?_
    have KEEPX : ∀ W, SbS V b #[.int .i64 k0, .int .i64 id, .int .i64 sess, .int .i64 rs, .int .i64 rn, .slice oa on oc, .slice sa shards.length sc, .int .i64 shard, .bool yes] b2 #[.int .i64 D0, .int .i64 D1, .int .i64 D2, .int .i64 D3, .int .i64 D4, .slice b1 n1 d1, .slice b2' n2 d2, .int .i64 D7, .bool D8] b3 #[.int .i64 D0, .int .i64 D1, .int .i64 D2, .int .i64 D3, .int .i64 D4, .slice b3' n3 d3, .slice b4' n4 d4, .int .i64 D7, .bool D8] [(1, v5, bs.map bv)] W → SbS V b #[.int .i64 k0, .int .i64 id, .int .i64 sess, .int .i64 rs, .int .i64 rn, .slice oa on oc, .slice sa shards.length sc, .int .i64 shard, .bool yes] b2 #[.int .i64 D0, .int .i64 D1, .int .i64 D2, .int .i64 D3, .int .i64 D4, .slice b1 n1 d1, .slice b2' n2 d2, .int .i64 D7, .bool D8] b3 #[.int .i64 D0, .int .i64 D1, .int .i64 D2, .int .i64 D3, .int .i64 D4, .slice b3' n3 d3, .slice b4' n4 d4, .int .i64 D7, .bool D8] [(1, v5, bs.map bv)] W := fun _ h => h
    have hcv := fun U (hU : SbS V b #[.int .i64 k0, .int .i64 id, .int .i64 sess, .int .i64 rs, .int .i64 rn, .slice oa on oc, .slice sa shards.length sc, .int .i64 shard, .bool yes] b2 #[.int .i64 D0, .int .i64 D1, .int .i64 D2, .int .i64 D3, .int .i64 D4, .slice b1 n1 d1, .slice b2' n2 d2, .int .i64 D7, .bool D8] b3 #[.int .i64 D0, .int .i64 D1, .int .i64 D2, .int .i64 D3, .int .i64 D4, .slice b3' n3 d3, .slice b4' n4 d4, .int .i64 D7, .bool D8] [(1, v5, bs.map bv)] U) => hU.conv k_s
    refine rT [(2, true)] 25 ?_
    apply Exists.intro; refine ⟨?_, HS1.out, ?_⟩
    ·iterate 1 (first | refine xE ?_ | ((apply ybx' hcv); (· (simp only [k_i, k_j, k_k]; try rfl)); (· rfl); (· rfl); (· rfl)))
     exact rfl
    refine r1 24 4 fun K hK => ?_
    clear HS1
    go_wp2_with fail
    refine (yc3' HX.out k0 id sess rs rn oa on oc sa shards.length sc shard yes).mono ?_
    rintro e w ⟨rfl, hx⟩
    replace HX := Lib.hid hx
    clear hx
    go_wp2_with fail
    refine hK _ _ ⟨_, _, fun q hq => (by rw [List.mem_singleton] at hq; rw [hq]; exact k_s), HX.out⟩ ?_
    clear hK
    refine r1 23 5 fun K hK => ?_
    go_wp2_with fail
    have hm := yf4' HX.out KC _ _ (by rw [HPA.out.2.2.1]; exact k_n _ <| HPM.out _ HP.out.2.2) (by rw [HPA.out.2.2.2]; exact k_n _ <| HPM.out _ HP.out.2.1) HPA.out.1 HPA.out.2.1
    rw [HBS.out.1, ← HKV.out] at hm
    refine hm.mono ?_
    clear hm
    rintro e w ⟨v6, rfl, hx⟩
    have hx := hx.poolRow
    replace HX := Lib.hid hx
    clear hx
    go_wp2_with fail
    have HS2 := Lib.hid (show SbS V b #[.int .i64 k0, .int .i64 id, .int .i64 sess, .int .i64 rs, .int .i64 rn, .slice oa on oc, .slice sa shards.length sc, .int .i64 shard, .bool yes] b2 #[.int .i64 D0, .int .i64 D1, .int .i64 D2, .int .i64 D3, .int .i64 D4, .slice b1 n1 d1, .slice b2' n2 d2, .int .i64 D7, .bool D8] b3 #[.int .i64 D0, .int .i64 D1, .int .i64 D2, .int .i64 D3, .int .i64 D4, .slice b3' n3 d3, .slice b4' n4 d4, .int .i64 D7, .bool D8] [(1, v6, bs.map bv), (1, v5, bs.map bv)] w from ⟨_, _, fun q hq => ye1' hq, HX.out⟩)
    refine hK _ _ (HS2.out.less (fun q hq => k_n _ hq)) ?_
    clear hK hcv KEEPX
    refine ydr' (S' := fun W => SbS V b #[.int .i64 k0, .int .i64 id, .int .i64 sess, .int .i64 rs, .int .i64 rn, .slice oa on oc, .slice sa shards.length sc, .int .i64 shard, .bool yes] b2 #[.int .i64 D0, .int .i64 D1, .int .i64 D2, .int .i64 D3, .int .i64 D4, .slice b1 n1 d1, .slice b2' n2 d2, .int .i64 D7, .bool D8] b3 #[.int .i64 D0, .int .i64 D1, .int .i64 D2, .int .i64 D3, .int .i64 D4, .slice b3' n3 d3, .slice b4' n4 d4, .int .i64 D7, .bool D8] [(1, v6, bs.map bv), (1, v5, bs.map bv)] W) (fun U hU => hU.less (fun q hq => k_n _ hq)) (Nat.le_of_ble_eq_true (by kernel_rfl)) HS2.out ?_
    have KEEPX : ∀ W, SbS V b #[.int .i64 k0, .int .i64 id, .int .i64 sess, .int .i64 rs, .int .i64 rn, .slice oa on oc, .slice sa shards.length sc, .int .i64 shard, .bool yes] b2 #[.int .i64 D0, .int .i64 D1, .int .i64 D2, .int .i64 D3, .int .i64 D4, .slice b1 n1 d1, .slice b2' n2 d2, .int .i64 D7, .bool D8] b3 #[.int .i64 D0, .int .i64 D1, .int .i64 D2, .int .i64 D3, .int .i64 D4, .slice b3' n3 d3, .slice b4' n4 d4, .int .i64 D7, .bool D8] [(1, v6, bs.map bv), (1, v5, bs.map bv)] W → SbS V b #[.int .i64 k0, .int .i64 id, .int .i64 sess, .int .i64 rs, .int .i64 rn, .slice oa on oc, .slice sa shards.length sc, .int .i64 shard, .bool yes] b2 #[.int .i64 D0, .int .i64 D1, .int .i64 D2, .int .i64 D3, .int .i64 D4, .slice b1 n1 d1, .slice b2' n2 d2, .int .i64 D7, .bool D8] b3 #[.int .i64 D0, .int .i64 D1, .int .i64 D2, .int .i64 D3, .int .i64 D4, .slice b3' n3 d3, .slice b4' n4 d4, .int .i64 D7, .bool D8] [(1, v6, bs.map bv), (1, v5, bs.map bv)] W := fun _ h => h
    have hcv := fun U (hU : SbS V b #[.int .i64 k0, .int .i64 id, .int .i64 sess, .int .i64 rs, .int .i64 rn, .slice oa on oc, .slice sa shards.length sc, .int .i64 shard, .bool yes] b2 #[.int .i64 D0, .int .i64 D1, .int .i64 D2, .int .i64 D3, .int .i64 D4, .slice b1 n1 d1, .slice b2' n2 d2, .int .i64 D7, .bool D8] b3 #[.int .i64 D0, .int .i64 D1, .int .i64 D2, .int .i64 D3, .int .i64 D4, .slice b3' n3 d3, .slice b4' n4 d4, .int .i64 D7, .bool D8] [(1, v6, bs.map bv), (1, v5, bs.map bv)] U) => hU.conv k_s
    have hl := fun U (hU : SbS V b #[.int .i64 k0, .int .i64 id, .int .i64 sess, .int .i64 rs, .int .i64 rn, .slice oa on oc, .slice sa shards.length sc, .int .i64 shard, .bool yes] b2 #[.int .i64 D0, .int .i64 D1, .int .i64 D2, .int .i64 D3, .int .i64 D4, .slice b1 n1 d1, .slice b2' n2 d2, .int .i64 D7, .bool D8] b3 #[.int .i64 D0, .int .i64 D1, .int .i64 D2, .int .i64 D3, .int .i64 D4, .slice b3' n3 d3, .slice b4' n4 d4, .int .i64 D7, .bool D8] [(1, v6, bs.map bv), (1, v5, bs.map bv)] U) => hU.l5 (by simp)
    have hl2 := fun U (hU : SbS V b #[.int .i64 k0, .int .i64 id, .int .i64 sess, .int .i64 rs, .int .i64 rn, .slice oa on oc, .slice sa shards.length sc, .int .i64 shard, .bool yes] b2 #[.int .i64 D0, .int .i64 D1, .int .i64 D2, .int .i64 D3, .int .i64 D4, .slice b1 n1 d1, .slice b2' n2 d2, .int .i64 D7, .bool D8] b3 #[.int .i64 D0, .int .i64 D1, .int .i64 D2, .int .i64 D3, .int .i64 D4, .slice b3' n3 d3, .slice b4' n4 d4, .int .i64 D7, .bool D8] [(1, v6, bs.map bv), (1, v5, bs.map bv)] U) => hU.l7 (by simp)
    simp only [k_d, k_f, k_g, k_h] at hl hl2
    refine rT [(6, true), (7, false), (8, false), (9, false), (10, false), (11, false), (12, false), (13, false), (14, false), (15, false), (16, false), (17, false), (18, false), (19, false), (20, false), (21, false), (22, false), (23, true), (25, true)] 4 ?_
    apply Exists.intro; refine ⟨?_, HS2.out, ?_⟩
    ·iterate 19 (first | refine xE ?_ | ((first | apply yav' | apply yas'); (· (simp only [k_i, k_j, k_k]; try rfl)); (· rfl); (· (intros; go_simp; (try simp only [q6, ↓reduceIte, and_self, Int.toNat_natCast]); try with_reducible rfl)); (· (simp only [Act.put, k_a, k_b, k_c, k_d, k_e, k_f, k_g, k_h, NodeS.cells, OpS.cells, ResS.cells]; try rfl))) | ((apply ybx' hcv); (· (simp only [k_i, k_j, k_k]; try rfl)); (· rfl); (· rfl); (· rfl)))
     exact rfl
    refine r1 3 24 fun K hK => ?_
    clear HS2
    go_wp2_with fail
    refine (yc3' HX.out D0 D1 D2 D3 D4 b1 n1 d1 b2' n2 d2 D7 D8).mono ?_
    rintro e w ⟨rfl, hx⟩
    replace HX := Lib.hid hx
    clear hx
    go_wp2_with fail
    refine hK _ _ ⟨_, _, fun q hq => ye1' hq, HX.out⟩ ?_
    clear hK
    refine r1 2 26 fun K hK => ?_
    go_wp2_with fail
    refine (ye7' HX.out ⟨D0, D1, D2, D3, D4, D5, D6, D7, D8⟩ _ _ _ _ (k_n _ (k_n _ (HP2.out.1 _ HP1.out.2.1))) (k_n _ (k_n _ HP2.out.2.1)) (k_n _ (k_n _ (HP2.out.1 _ HP1.out.2.2))) (k_n _ (k_n _ HP2.out.2.2)) HOL.out.1 HOL.out.2).mono ?_
    rintro e w ⟨rfl, hx⟩
    replace HX := Lib.hid hx
    clear hx
    go_wp2_with fail
    refine hK _ _ ⟨_, _, fun q hq => ye1' hq, HX.out⟩ ?_
    clear hK
    refine rT [(27, false), (28, false)] 0 ?_
    apply Exists.intro; refine ⟨?_, ⟨_, _, fun q hq => ye1' hq, HX.out⟩, ?_⟩
    ·iterate 2 (refine xE ?_)
     exact rfl
    refine yah' (by kernel_rfl) ?_ _
    clear hl hl2 hcv KEEPX
    go_wp2_with (first | refine u0 ?_ | (refine uS ?_; clear HX; intro w HX) | (refine uA ?_; clear HX; (first | (have hq := b5; clear hq; intro w b6 HX) | (have hq := b4; clear hq; intro w b5 HX) | (have hq := b3; clear hq; intro w b4 HX) | (have hq := b2; clear hq; intro w b3 HX) | (have hq := b; clear hq; intro w b2 HX) | intro w b HX)))
    have hm := yef' HX.out hd KC _ _ (by rw [HPA.out.2.2.1]; exact k_n _ <| k_n _ <| HPM.out _ HP.out.2.2) (by rw [HPA.out.2.2.2]; exact k_n _ <| k_n _ <| HPM.out _ HP.out.2.1) HPA.out.1 HPA.out.2.1
    rw [HBS.out.1, ← HKV.out] at hm
    refine hm.mono ?_
    clear hm
    rintro e w ⟨v7, rfl, hx⟩
    have hx := hx.poolRow
    replace HX := Lib.hid hx
    clear hx
    go_wp2_with (first | refine u0 ?_ | (refine uS ?_; clear HX; intro w HX) | (refine uA ?_; clear HX; (first | (have hq := b5; clear hq; intro w b6 HX) | (have hq := b4; clear hq; intro w b5 HX) | (have hq := b3; clear hq; intro w b4 HX) | (have hq := b2; clear hq; intro w b3 HX) | (have hq := b; clear hq; intro w b2 HX) | intro w b HX)))
    refine (yf9' HX.out hd _ bs k_s (by have := HBS.out.2; omega)).mono ?_
    obtain ⟨o2, ho2⟩ : ∃ o, getC bs = o := ⟨_, rfl⟩
    have HO2 := Lib.hid (show getC bs = o2 ∧ yhv' bs = o2 from ⟨ho2, (yjx' HBS.out.2).trans ho2⟩)
    rw [ho2]
    clear ho2
    rintro e w ⟨u1, u2, P3, rfl, hP3, m1, m2, hx⟩
    obtain ⟨f1, g1, h1, rfl⟩ := yal' hx m1
    obtain ⟨f2, g2, h2, rfl⟩ := yal' hx m2
    replace HX := Lib.hid hx
    clear hx
    have HP3 := Lib.hid (show _ ∧ _ ∧ _ from ⟨hP3, m1, m2⟩)
    clear hP3 m1 m2
    have HOG := Lib.hid (show (o2.getD ydt').ops.length ≤ 100000 ∧ (o2.getD ydt').shards.length ≤ 100000 from yjy' HO2.out.1)
    obtain ⟨zc, e2, hz1, hz2, qa⟩ : ∃ zc e2, o2.isSome = zc ∧ (if o2.isSome = true then (0 : Int) else 3) = e2 ∧ (e2 == 0) = zc := ⟨_, _, rfl, rfl, by cases o2 <;> rfl⟩
    rw [hz2]
    have HZC := Lib.hid hz1
    clear hz1 hz2
    obtain ⟨G, hG⟩ : ∃ D, o2.getD ydt' = D := ⟨_, rfl⟩
    have HG := Lib.hid hG
    rw [hG] at HP3 HOG ⊢
    clear hG
    obtain ⟨G0, G1, G2, G3, G4, G5, G6, G7, G8⟩ := G
    unfold cmdV
    dsimp only at HP3 HOG ⊢
    go_wp2_with (first | refine u0 ?_ | (refine uS ?_; clear HX; intro w HX) | (refine uA ?_; clear HX; (first | (have hq := b5; clear hq; intro w b6 HX) | (have hq := b4; clear hq; intro w b5 HX) | (have hq := b3; clear hq; intro w b4 HX) | (have hq := b2; clear hq; intro w b3 HX) | (have hq := b; clear hq; intro w b2 HX) | intro w b HX)))
    refine (yc3' HX.out k0 id sess rs rn oa on oc sa shards.length sc shard yes).mono ?_
    rintro e w ⟨rfl, hx⟩
    replace HX := Lib.hid hx
    clear hx
    have HPN := Lib.hid (show ∀ q ∈ P0, q ∈ P3 from fun q hq => HP3.out.1 _ (k_n _ (k_n _ (k_n _ (HPM.out q hq)))))
    go_wp2_with (first | refine u0 ?_ | (refine uS ?_; clear HX; intro w HX) | (refine uA ?_; clear HX; (first | (have hq := b5; clear hq; intro w b6 HX) | (have hq := b4; clear hq; intro w b5 HX) | (have hq := b3; clear hq; intro w b4 HX) | (have hq := b2; clear hq; intro w b3 HX) | (have hq := b; clear hq; intro w b2 HX) | intro w b HX)))
    have hx := HX.out.up1
    replace HX := Lib.hid hx
    clear hx
    have hm := yf4' HX.out KC _ _ (by rw [HPA.out.2.2.1]; exact HPN.out _ HP.out.2.2) (by rw [HPA.out.2.2.2]; exact HPN.out _ HP.out.2.1) HPA.out.1 HPA.out.2.1
    rw [HBS.out.1, ← HKV.out] at hm
    refine hm.mono ?_
    clear hm
    rintro e w ⟨v8, rfl, hx⟩
    have hx := hx.poolRow
    replace HX := Lib.hid hx
    clear hx
    go_wp2_with (first | refine u0 ?_ | (refine uS ?_; clear HX; intro w HX) | (refine uA ?_; clear HX; (first | (have hq := b5; clear hq; intro w b6 HX) | (have hq := b4; clear hq; intro w b5 HX) | (have hq := b3; clear hq; intro w b4 HX) | (have hq := b2; clear hq; intro w b3 HX) | (have hq := b; clear hq; intro w b2 HX) | intro w b HX)))
    refine (yhw' HX.out _ bs k_s (by have := HBS.out.2; omega)).mono ?_
    rw [HO2.out.2]
    rintro e w ⟨u3, u4, P4, rfl, hP4, m3, m4, hx⟩
    obtain ⟨f3, g3, h3, rfl⟩ := yal' hx m3
    obtain ⟨f4, g4, h4, rfl⟩ := yal' hx m4
    replace HX := Lib.hid hx
    clear hx
    rw [HG.out] at m3 m4 ⊢
    rw [HZC.out]
    have HP4 := Lib.hid (show _ ∧ _ ∧ _ from ⟨hP4, m3, m4⟩)
    clear hP4 m3 m4
    unfold cmdV
    dsimp only at HP4 ⊢
    go_upto_region 11 with (first | refine u0 ?_ | (refine uS ?_; clear HX; intro w HX) | (refine uA ?_; clear HX; (first | (have hq := b5; clear hq; intro w b6 HX) | (have hq := b4; clear hq; intro w b5 HX) | (have hq := b3; clear hq; intro w b4 HX) | (have hq := b2; clear hq; intro w b3 HX) | (have hq := b; clear hq; intro w b2 HX) | intro w b HX)))
    have qb : (zc == zc) = true := by simp
    refine rM (fun W => SbS V b #[.int .i64 k0, .int .i64 id, .int .i64 sess, .int .i64 rs, .int .i64 rn, .slice oa on oc, .slice sa shards.length sc, .int .i64 shard, .bool yes] b4 #[.int .i64 G0, .int .i64 G1, .int .i64 G2, .int .i64 G3, .int .i64 G4, .slice f1 g1 h1, .slice f2 g2 h2, .int .i64 G7, .bool G8] b5 #[.int .i64 G0, .int .i64 G1, .int .i64 G2, .int .i64 G3, .int .i64 G4, .slice f3 g3 h3, .slice f4 g4 h4, .int .i64 G7, .bool G8] [] W) 10 ?_
    intro KEEPX
    replace HX := Lib.hid HX.out.drew.up2.up3.up3
    have hl := fun U (hU : SbS V b #[.int .i64 k0, .int .i64 id, .int .i64 sess, .int .i64 rs, .int .i64 rn, .slice oa on oc, .slice sa shards.length sc, .int .i64 shard, .bool yes] b4 #[.int .i64 G0, .int .i64 G1, .int .i64 G2, .int .i64 G3, .int .i64 G4, .slice f1 g1 h1, .slice f2 g2 h2, .int .i64 G7, .bool G8] b5 #[.int .i64 G0, .int .i64 G1, .int .i64 G2, .int .i64 G3, .int .i64 G4, .slice f3 g3 h3, .slice f4 g4 h4, .int .i64 G7, .bool G8] [] U) => hU.l5 (by simp)
    have hl2 := fun U (hU : SbS V b #[.int .i64 k0, .int .i64 id, .int .i64 sess, .int .i64 rs, .int .i64 rn, .slice oa on oc, .slice sa shards.length sc, .int .i64 shard, .bool yes] b4 #[.int .i64 G0, .int .i64 G1, .int .i64 G2, .int .i64 G3, .int .i64 G4, .slice f1 g1 h1, .slice f2 g2 h2, .int .i64 G7, .bool G8] b5 #[.int .i64 G0, .int .i64 G1, .int .i64 G2, .int .i64 G3, .int .i64 G4, .slice f3 g3 h3, .slice f4 g4 h4, .int .i64 G7, .bool G8] [] U) => hU.l7 (by simp)
    simp only [k_d, k_f, k_g, k_h] at hl hl2
    refine rT [(0, false), (1, false), (2, false), (3, false), (4, false), (5, true), (7, true)] 4 ?_
    apply Exists.intro; refine ⟨?_, ⟨_, _, fun q hq => (by cases hq), HX.out⟩, ?_⟩
    ·iterate 7 (first | refine xE ?_ | ((first | apply yav' | apply yas'); (· (simp only [k_i, k_j, k_k]; try rfl)); (· rfl); (· (intros; go_simp; (try simp only [qa, qb, ↓reduceIte, and_self, Int.toNat_natCast]); try with_reducible rfl)); (· (simp only [Act.put, k_a, k_b, k_c, k_d, k_e, k_f, k_g, k_h, NodeS.cells, OpS.cells, ResS.cells]; try rfl))))
     exact rfl
    refine r1 3 6 fun K hK => ?_
    clear hl hl2
    go_wp2_with fail
    refine (yc3' HX.out G0 G1 G2 G3 G4 f1 g1 h1 f2 g2 h2 G7 G8).mono ?_
    rintro e w ⟨rfl, hx⟩
    replace HX := Lib.hid hx
    clear hx
    go_wp2_with fail
    refine hK _ _ ⟨_, _, fun q hq => (by cases hq), HX.out⟩ ?_
    clear hK
    refine r1 2 8 fun K hK => ?_
    go_wp2_with fail
    refine (ye7' HX.out ⟨G0, G1, G2, G3, G4, G5, G6, G7, G8⟩ _ _ _ _ (HP4.out.1 _ (k_n _ HP3.out.2.1)) HP4.out.2.1 (HP4.out.1 _ (k_n _ HP3.out.2.2)) HP4.out.2.2 HOG.out.1 HOG.out.2).mono ?_
    rintro e w ⟨rfl, hx⟩
    replace HX := Lib.hid hx
    clear hx
    go_wp2_with fail
    refine hK _ _ ⟨_, _, fun q hq => (by cases hq), HX.out⟩ ?_
    clear hK
    refine rT [(9, false)] 1 ?_
    apply Exists.intro; refine ⟨?_, ⟨_, _, fun q hq => (by cases hq), HX.out⟩, ?_⟩
    ·iterate 1 (refine xE ?_)
     exact rfl
    refine rL [10] 0 ?_
    simp only [List.filterMap_cons, List.filterMap_nil, k_i, k_j, k_k]
    go_wp2_with (first | refine u0 ?_ | (refine uS ?_; clear HX; intro w HX) | (refine uA ?_; clear HX; (first | (have hq := b5; clear hq; intro w b6 HX) | (have hq := b4; clear hq; intro w b5 HX) | (have hq := b3; clear hq; intro w b4 HX) | (have hq := b2; clear hq; intro w b3 HX) | (have hq := b; clear hq; intro w b2 HX) | intro w b HX)))
    go_ret
    exact ⟨rfl, HX.out.below⟩
end
end Go.Proofs.YtcnkifbjlihaoaaGreatDoor

namespace Go.Av
variable {H : Type} {enc : TypeId × Value → H}
theorem handed_both {a : Assume} {C : Checked} {os : Os} {f : FuncId} {fn : Func} {s : ChangeSpec} {conds : List PathCond} {apart fresh handsOn again : Bool} {X : World → Array Value → Prop}
  (hX : ∀ (w w' : World) (args : Array Value), w.heap = w'.heap → X w args → X w' args)
  (own : ownKnob C.prog.godebug = none) (started : os.Started) (noInit : C.prog.inits.idxOf? f = none) (hfn : C.prog.funcs[f]? = some fn)
  (witness : ∃ (w : World) (tape : Tape) (i : Input), w.os = os ∧ (w.forCall tape i).Shaped C.prog ∧ i.vars = [] ∧ Input.okWide C.prog (w.forCall tape i) .any w.heap.size f i ∧
   ((s.pre enc C.prog fn conds apart (w.forCall tape i).memory i.args ∧ X (w.forCall tape i).memory i.args) ∧ sizedMet enc C.prog fn (OpenSpec.ofChange s) apart (w.forCall tape i).memory i.args) ∧ a.holds C.prog (lone (Frame.enter C.prog f i.args .normal) [] (w.forCall tape i)))
  (contract : ∀ (W : World) (base : Nat) (args : Array Value) (ds gs : List (DataW H)) (before : List MemPlace),
   (∀ (j : Nat) t v, fn.params[j]? = some t → args[j]? = some v → Value.okWide C.prog W .any base t v) →
   DataW.Whole enc C.prog fn.params.toList s.vars apart W args.toList ds gs before →
   W.ShapedOpen C.prog → X W args →
   Calls C.prog f args W fun e W' => ∃ v, e = .returned v ∧ s.post enc C.prog fn apart fresh handsOn again W args v W') :
  ReturnsInHanded a C os f .any (fun w args => (s.pre enc C.prog fn conds apart w args ∧ X w args) ∧ sizedMet enc C.prog fn (OpenSpec.ofChange s) apart w args) (s.post enc C.prog fn apart fresh handsOn again) := by
 refine returnsInHanded_of_calls own started noInit witness ?_
 intro w tape i _ hsh _ hok hpre hholds
 obtain ⟨_, _, _, fn', hfn', _, _, _, _, hval⟩ := hok
 have e : fn' = fn := Option.some.inj (hfn'.symm.trans hfn)
 subst e
 obtain ⟨⟨⟨ds, gs, before, hw, hc⟩, hx⟩, hz⟩ := hpre
 have hw' := DataW.Whole.of_heap (w' := w.forCall tape i) (by rfl) hw
 refine (contract (w.forCall tape i) w.heap.size i.args ds gs before hval hw' hsh (hX _ _ _ (by rfl) hx)).mono fun e W' ⟨v, he, hp⟩ => ?_
 subst he
 exact ChangeSpec.post_blind hp
end Go.Av
namespace Go.Proofs.YtcnkifbjlihaoaaGreatDoor
open Go.Av
theorem ywl' {W : World} (h : W.ShapedOpen Tryz.prog) : Door W := Tryz.laysM146.s1_3 W h
end Go.Proofs.YtcnkifbjlihaoaaGreatDoor

namespace Go.Av
theorem yle' {P : Program} {w : World} {x : String × DataW Unit} {rest : List (String × DataW Unit)} (h : ∃ ps, DataW.LaidVars P w (x :: rest) ps) : ∃ ps, DataW.LaidVars P w rest ps := by
 obtain ⟨ps, g, t, cs, fuel, p, q, -, -, -, -, h1, h2⟩ := h
 exact ⟨q, by assumption⟩
theorem yur' {P : Program} {W : World} {name : String} {k : IntKind} {zs : List Int} {rest : List (String × DataW Unit)} {g : Nat} {t e : TypeId} {n : Nat}
  (hg : P.globalNamed name = some g) (hty : (P.globals[g]?).map (·.type) = some t) (ht : P.underlying t = some (.array n e)) (he : P.underlying e = some (.int k)) (hce : P.cellsOf e = 1) (hct : P.cellsOf t = n)
  (h : ∃ ps, DataW.LaidVars P W ((name, Lib.tabData k zs) :: rest) ps) : Lib.TabIs P W name k zs := by
 obtain ⟨ps, g', t', cs, fuel, p, q, hg', ht', hvar, hd, _, _⟩ := h
 obtain rfl := Option.some.inj (hg.symm.trans hg')
 obtain rfl := Option.some.inj (hty.symm.trans ht')
 unfold Lib.TabIs
 rw [hvar, ← Lib.cells_of_tab ht he hce hct hd]
end Go.Av
namespace Go.Proofs.YtcnkifbjlihaoaaGreatDoor
open Go.Av
theorem doorN_of {W : World} {a b c : String × DataW Unit} {r : List (String × DataW Unit)} (h : W.ShapedOpen Tryz.prog) (hc : c = ("internal/strconv.uint64pow10", Lib.tabData .u64 Lib.pow10Tab)) (hl : laidMet Tryz.prog (a :: b :: c :: r) W) : DoorN W := by
 subst hc
 obtain ⟨ps, h1, -⟩ := hl
 refine ⟨ywl' h, ?_⟩
 exact yur' (g := 3) (by kernel_rfl) (by kernel_rfl) Tryz.underlying373 Tryz.underlying249 (by kernel_rfl) (by kernel_rfl) (yle' (yle' ⟨ps, h1⟩))
end Go.Proofs.YtcnkifbjlihaoaaGreatDoor
