/-
  Texts of this claim, laid together.
-/
import Derived.Test.YtcnkifbjlihaoaaGreatDoorMb4
import Derived.IntWalk
import Derived.Deep.DeepCutAuto
import Derived.Deep.Matrix
import Derived.Deep.Slices
import Derived.ChangeSame
import Derived.Deep.LoopGhost
import Derived.Lib.SliceRun
import Derived.Deep.OwnRows
import Derived.Laws.OwnMore
set_option linter.unusedVariables false
set_option linter.unusedSimpArgs false

namespace Go.Proofs.YtcnkifbjlihaoaaGreatDoor
open Go.RowKit Go.Av
theorem sl_x2 : SliceN Tryz.prog 68 3 1 8 := .of Tryz.underlying68 (by kernel_rfl)
section
variable {w0 w : World} {P P' : List PRow} {R : List Thing} {rows : List (Value × Bs)}
def shR (d : Rd) : List Int × Rd := cntN 3 (cntR 4 d).1.toNat (cntR 4 d).2
def yvc' (w0 : World) (r q : Nat) (bad : Bool) (K : Nat) (d : Rd) (P : List PRow) (R : List Thing) (rows : List (Value × Bs)) (k : Nat) (v3 v9 : Value) (w : World) : Prop :=
 ∃ (i : Nat) (a : Option Addr) (n c : Nat), i + k = K ∧ v3 = .slice a n c ∧ v9 = .int .i64 (i : Int) ∧ Sep w0 w (yds' r (cntN 3 i d).2 :: yac' q (.cells #[.pointer (some ⟨r, 0, none⟩), .bool bad] 180 (0, 0)) :: ybc' 1 (.slice a n c) ((cntN 3 i d).1.map ivn) :: yab' w0 P :: R) rows
set_option maxRecDepth 100000 in
set_option maxHeartbeats 4000000 in
theorem yev' {r q : Nat} {bad : Bool} {d : Rd} (h : Sep w0 w (yds' r d :: yac' q (.cells #[.pointer (some ⟨r, 0, none⟩), .bool bad] 180 (0, 0)) :: yab' w0 P :: R) rows) :
  Calls Tryz.prog 104 #[.pointer (some ⟨q, 0, none⟩)] w (yv3' w0 r q bad (shR d) P R rows) := by
 have HX := Lib.hid h
 clear h
 obtain ⟨⟨kk, d1⟩, h1⟩ : ∃ x, cntR 4 d = x := ⟨_, rfl⟩
 have hb := yct' (most := 4) (by omega) d
 rw [h1] at hb
 dsimp only at hb
 obtain ⟨K, rfl⟩ : ∃ K : Nat, kk = (K : Int) := ⟨kk.toNat, by omega⟩
 have HK := Lib.hid (show K ≤ 4 by omega)
 have HD := Lib.hid (show shR d = cntN 3 K d1 by unfold shR; rw [h1]; dsimp only; rw [Int.toNat_natCast])
 have H1 := Lib.hid h1
 clear hb h1
 go_enter Tryz.func104, Tryz.ntmps104
 go_wp2_with (first | refine u0 ?_ | (refine uS ?_; clear HX; intro w HX) | (refine tWA ?_; clear HX; (first | (have hq := b; clear hq; intro w b2 HX) | intro w b HX); simp only [Act.put, k_a, k_b, k_c]) | (refine uP ?_; clear HX; intro w av nv cv HX))
 refine (ycl' HX.out 4 (by omega)).mono ?_
 rw [H1.out]
 rintro e w ⟨rfl, hx⟩
 replace HX := Lib.hid hx
 clear hx
 go_wp2_with (first | refine u0 ?_ | (refine uS ?_; clear HX; intro w HX) | (refine tWA ?_; clear HX; (first | (have hq := b; clear hq; intro w b2 HX) | intro w b HX); simp only [Act.put, k_a, k_b, k_c]) | (refine uP ?_; clear HX; intro w av nv cv HX))
 have HST := Lib.hid (show yvc' w0 r q bad K d1 P R rows K (.slice none 0 0) (.int .i64 (0 : Int)) w from ⟨0, none, 0, 0, by omega, rfl, rfl, (HX.out.nilRow 1).pm 4 [1, 2, 0, 3] rfl rfl⟩)
 clear HX
 go_loopg [3, 9] K (fun k v3 v9 wr => yvc' w0 r q bad K d1 P R rows k v3 v9 wr)
 case atStart => exact HST.out
 case round =>
  rename World => w
  obtain ⟨i, a, n, c, hik, rfl, rfl, hS⟩ := hrel
  clear HST
  have HX := Lib.hid hS
  clear hS
  by_cases hlt : i < K
  case neg =>
   obtain rfl : i = K := by omega
   have q0 : decide ((i : Int) < (i : Int)) = false := decide_eq_false (by omega)
   have q1 : decide (i < i) = false := decide_eq_false (by omega)
   clear hlt hik
   go_wp2_with (first | refine u0 ?_ | (refine uS ?_; clear HX; intro w HX) | (refine tWA ?_; clear HX; (first | (have hq := b; clear hq; intro w b2 HX) | intro w b HX); simp only [Act.put, k_a, k_b, k_c]) | (refine uP ?_; clear HX; intro w av nv cv HX))
   go_ret
   refine ⟨_, (1, .slice a n c, (cntN 3 i d1).1.map ivn) :: P, rfl, fun z hz => k_n _ hz, by rw [HD.out]; exact k_s, ?_⟩
   rw [HD.out]
   exact (HX.out.pm 4 [2, 3, 0, 1] rfl rfl : Sep w0 _ (ybc' 1 (.slice a n c) ((cntN 3 i d1).1.map ivn) :: yab' w0 P :: yds' r (cntN 3 i d1).2 :: yac' q (.cells #[.pointer (some ⟨r, 0, none⟩), .bool bad] 180 (0, 0)) :: R) rows).poolRow.pm 3 [1, 2, 0] rfl rfl
  case pos =>
   have q0 : decide (i < K) = true := decide_eq_true hlt
   have q1 : decide ((i : Int) < (K : Int)) = true := decide_eq_true (by omega)
   have q9 : i ≤ 4 := by have := HK.out; omega
   have hnx := yky' 3 i d1
   have hlen := yg9' 3 i d1
   obtain ⟨⟨os, dd⟩, hod⟩ : ∃ x, cntN 3 i d1 = x := ⟨_, rfl⟩
   rw [hod] at HX hnx hlen
   dsimp only at HX hnx hlen
   obtain ⟨⟨k1, e1⟩, g1⟩ : ∃ x, cntR 3 dd = x := ⟨_, rfl⟩
   rw [g1] at hnx
   have HNX := Lib.hid hnx
   have HG := Lib.hid g1
   have HBD := Lib.hid (show ∀ n, (os.map ivn).length = n * 1 → n + 1 ≤ 140737488355328 ∧ (n + 1) * 8 ≤ 140737488355328 from fun n hn => by rw [List.length_map, hlen] at hn; omega)
   clear hnx g1 hod hlen
   go_wp2_with (first | refine u0 ?_ | (refine uS ?_; clear HX; intro w HX) | (refine tWA ?_; clear HX; (first | (have hq := b; clear hq; intro w b2 HX) | intro w b HX); simp only [Act.put, k_a, k_b, k_c]) | (refine uP ?_; clear HX; intro w av nv cv HX))
   refine (ycl' HX.out 3 (by omega)).mono ?_
   rw [HG.out]
   rintro e w ⟨rfl, hx⟩
   replace HX := Lib.hid hx
   clear hx
   go_wp2_with (first | refine u0 ?_ | (refine uS ?_; clear HX; intro w HX) | (refine tWA ?_; clear HX; (first | (have hq := b; clear hq; intro w b2 HX) | intro w b HX); simp only [Act.put, k_a, k_b, k_c]) | (refine uP ?_; clear HX; intro w av nv cv HX))
   go_roundg (K - (i + 1))
   case rel => exact ⟨i + 1, av, nv, cv, by omega, rfl, by go_num, by rw [HNX.out]; dsimp only; rw [List.map_append]; exact HX.out.pm 5 [2, 3, 0, 4] rfl rfl⟩
   case measure => omega
def ya5' (t : Bs) : Int × Int × List OpS := (getR t).getD (0, 0, [])
def yhk' (w0 : World) (r q : Nat) (bad : Bool) (d : Rd) (P : List PRow) (R : List Thing) (rows : List (Value × Bs)) (e : Ending) (w' : World) : Prop :=
 ∃ v P', e = .returned (.agg #[.int .i64 (ya5' (yaj' 40000 d).1).1, .int .i64 (ya5' (yaj' 40000 d).1).2.1, v]) ∧ (∀ z ∈ P, z ∈ P') ∧ (5, v, (ya5' (yaj' 40000 d).1).2.2.flatMap OpS.cells) ∈ P' ∧
  Sep w0 w' (yds' r (yaj' 40000 d).2 :: yac' q (.cells #[.pointer (some ⟨r, 0, none⟩), .bool (bad || (getR (yaj' 40000 d).1).isNone)] 180 (0, 0)) :: yab' w0 P' :: R) rows
set_option maxRecDepth 100000 in
set_option maxHeartbeats 4000000 in
theorem yjc' {r q : Nat} {bad : Bool} {d : Rd} (h : Sep w0 w (yds' r d :: yac' q (.cells #[.pointer (some ⟨r, 0, none⟩), .bool bad] 180 (0, 0)) :: yab' w0 P :: R) rows) (hd : DoorN w0) :
  Calls Tryz.prog 103 #[.pointer (some ⟨q, 0, none⟩)] w (yhk' w0 r q bad d P R rows) := by
 have HX := Lib.hid h
 clear h
 obtain ⟨⟨t, d1⟩, h1⟩ : ∃ x, yaj' 40000 d = x := ⟨_, rfl⟩
 have htl := yez' 40000 d (by omega)
 rw [h1] at htl
 dsimp only at htl
 have H1 := Lib.hid (show _ ∧ _ from ⟨h1, htl⟩)
 clear h1 htl
 go_enter Tryz.func103, Tryz.ntmps103
 go_wp2_with (first | refine u0 ?_ | (refine uS ?_; clear HX; intro w HX) | (refine tWA ?_; clear HX; (first | (have hq := b; clear hq; intro w b2 HX) | intro w b HX); simp only [Act.put, k_a, k_b, k_c]))
 refine (yfj' HX.out.up1 40000 (by omega)).mono ?_
 rw [H1.out.1]
 rintro e w ⟨rfl, hx⟩
 replace HX := Lib.hid hx
 clear hx
 unfold sv
 have hz : (⟨t.toArray⟩ : ByteArray).size ≤ maxLen := by
  have h2 := H1.out.2
  have : (⟨t.toArray⟩ : ByteArray).size = t.length := by show t.toArray.size = _; simp
  unfold maxLen
  omega
 go_wp2_with (first | refine u0 ?_ | (refine uS ?_; clear HX; intro w HX) | (refine tWA ?_; clear HX; (first | (have hq := b; clear hq; intro w b2 HX) | intro w b HX); simp only [Act.put, k_a, k_b, k_c]) | (refine yne' (Lib.hid HX.out.up3) Tryz.underlying9 Tryz.underlying71 Tryz.underlying5 rfl hz rfl ?_; clear HX; intro w b9 c9 HX; simp only [Act.put, k_a, k_b, k_c]))
 refine (yq7' HX.out hd _ t k_s (by have := H1.out.2; omega)).mono ?_
 obtain ⟨o, ho⟩ : ∃ o, getR t = o := ⟨_, rfl⟩
 rw [ho]
 rintro e w ⟨vs, P', rfl, hP', hvs, hx⟩
 have HO := Lib.hid (show _ ∧ (∀ z ∈ P, z ∈ P') ∧ _ from ⟨ho, fun z hz => hP' z (k_n _ hz), hvs⟩)
 replace HX := Lib.hid hx
 clear hx
 clear ho hP' hvs hz
 obtain ⟨va, vn, vc, rfl⟩ : ∃ va vn vc, vs = .slice va vn vc := by
  obtain ⟨E, hE⟩ := HX.out.poolGet HO.out.2.2
  obtain ⟨a, n, c, e, -⟩ := hE
  exact ⟨a, n, c, e⟩
 have e3 : (yaj' 40000 d).2 = d1 := by rw [H1.out.1]
 have e1 : ya5' (yaj' 40000 d).1 = o.getD (0, 0, []) := by rw [H1.out.1]; unfold ya5'; dsimp only; rw [HO.out.1]
 have e2 : (getR (yaj' 40000 d).1).isNone = o.isNone := by rw [H1.out.1]; dsimp only; rw [HO.out.1]
 have HE := Lib.hid (show _ ∧ _ ∧ _ from ⟨e1, e2, e3⟩)
 clear e1 e2 e3
 cases o with
 | none =>
  cases bad with
  | true =>
   dsimp only [Option.getD, Option.isSome] at HX HO ⊢
   go_wp2_with (first | refine u0 ?_ | (refine uS ?_; clear HX; intro w HX) | (refine tWA ?_; clear HX; (first | (have hq := b; clear hq; intro w b2 HX) | intro w b HX); simp only [Act.put, k_a, k_b, k_c]))
   refine ybd' HX rfl rfl (by (repeat (first | (with_reducible exact k_s) | (with_reducible apply k_m)))) (by kernel_rfl) ?_
   unfold yhk'
   rw [HE.out.1, HE.out.2.1, HE.out.2.2]
   exact ⟨.slice va vn vc, P', rfl, HO.out.2.1, HO.out.2.2, HX.out.pm 5 [2, 4, 1] rfl rfl⟩
  | false =>
   dsimp only [Option.getD, Option.isSome] at HX HO ⊢
   go_wp2_with (first | refine u0 ?_ | (refine uS ?_; clear HX; intro w HX) | (refine tWA ?_; clear HX; (first | (have hq := b; clear hq; intro w b2 HX) | intro w b HX); simp only [Act.put, k_a, k_b, k_c]))
   refine ybd' HX rfl rfl (by (repeat (first | (with_reducible exact k_s) | (with_reducible apply k_m)))) (by kernel_rfl) ?_
   unfold yhk'
   rw [HE.out.1, HE.out.2.1, HE.out.2.2]
   exact ⟨.slice va vn vc, P', rfl, HO.out.2.1, HO.out.2.2, HX.out.pm 5 [2, 4, 1] rfl rfl⟩
 | some o =>
  obtain ⟨os, on, ol⟩ := o
  cases bad with
  | true =>
   dsimp only [Option.getD, Option.isSome] at HX HO ⊢
   go_wp2_with (first | refine u0 ?_ | (refine uS ?_; clear HX; intro w HX) | (refine tWA ?_; clear HX; (first | (have hq := b; clear hq; intro w b2 HX) | intro w b HX); simp only [Act.put, k_a, k_b, k_c]))
   refine ybd' HX rfl rfl (by (repeat (first | (with_reducible exact k_s) | (with_reducible apply k_m)))) (by kernel_rfl) ?_
   unfold yhk'
   rw [HE.out.1, HE.out.2.1, HE.out.2.2]
   exact ⟨.slice va vn vc, P', rfl, HO.out.2.1, HO.out.2.2, HX.out.pm 5 [2, 4, 1] rfl rfl⟩
  | false =>
   dsimp only [Option.getD, Option.isSome] at HX HO ⊢
   go_wp2_with (first | refine u0 ?_ | (refine uS ?_; clear HX; intro w HX) | (refine tWA ?_; clear HX; (first | (have hq := b; clear hq; intro w b2 HX) | intro w b HX); simp only [Act.put, k_a, k_b, k_c]))
   refine ybd' HX rfl rfl (by (repeat (first | (with_reducible exact k_s) | (with_reducible apply k_m)))) (by kernel_rfl) ?_
   unfold yhk'
   rw [HE.out.1, HE.out.2.1, HE.out.2.2]
   exact ⟨.slice va vn vc, P', rfl, HO.out.2.1, HO.out.2.2, HX.out.pm 5 [2, 4, 1] rfl rfl⟩
end
end Go.Proofs.YtcnkifbjlihaoaaGreatDoor

namespace Go.Av
def LexK (K : Nat → Int) (x y : Nat) : Prop := K x < K y ∨ K x = K y ∧ x < y
def SortF (K : Nat → Int) (σ : Nat → Nat) (a b : Nat) : Prop := ∀ i j, a ≤ i → i < j → j < b → LexK K (σ i) (σ j)
def ykk' (σ : Nat → Nat) (i j k : Nat) : Nat := if k = i then σ j else if k = j then σ i else σ k
structure PermF (a b : Nat) (σ σ' : Nat → Nat) : Prop where
 out : ∀ i, i < a ∨ b ≤ i → σ' i = σ i
 into : ∀ i, a ≤ i → i < b → ∃ j, a ≤ j ∧ j < b ∧ σ' i = σ j
 all : ∀ n, b ≤ n → ((List.range n).map σ').Perm ((List.range n).map σ)
theorem LexK.trans {K : Nat → Int} {x y z : Nat} (h1 : LexK K x y) (h2 : LexK K y z) : LexK K x z := by
 unfold LexK at *
 omega
theorem PermF.refl (a b : Nat) (σ : Nat → Nat) : PermF a b σ σ := ⟨fun _ _ => rfl, fun i h1 h2 => ⟨i, h1, h2, rfl⟩, fun _ _ => .refl _⟩
theorem PermF.trans {a b : Nat} {σ σ1 σ2 : Nat → Nat} (h : PermF a b σ σ1) (h' : PermF a b σ1 σ2) : PermF a b σ σ2 :=
 ⟨fun i hi => (h'.out i hi).trans (h.out i hi), fun i h1 h2 => by
  obtain ⟨j, h3, h4, h5⟩ := h'.into i h1 h2
  obtain ⟨k, h6, h7, h8⟩ := h.into j h3 h4
  exact ⟨k, h6, h7, h5.trans h8⟩, fun n hn => (h'.all n hn).trans (h.all n hn)⟩
theorem PermF.wide {a b c d : Nat} {σ σ' : Nat → Nat} (h : PermF a b σ σ') (h1 : c ≤ a) (h2 : b ≤ d) : PermF c d σ σ' :=
 ⟨fun i hi => h.out i (by omega), fun i h3 h4 => by
  by_cases hi : a ≤ i ∧ i < b
  ·obtain ⟨j, h5, h6, h7⟩ := h.into i hi.1 hi.2
   exact ⟨j, by omega, by omega, h7⟩
  ·exact ⟨i, h3, h4, h.out i (by omega)⟩, fun n hn => h.all n (by omega)⟩
theorem ypl' (σ : Nat → Nat) (n i j : Nat) :
  (List.range n).map (ykk' σ i j) = (((List.range n).map σ).set i (σ j)).set j (σ i) := by
 apply List.ext_getElem
 ·simp
 ·intro k h1 h2
  simp only [List.getElem_map, List.getElem_range, List.getElem_set, ykk']
  repeat' split
  all_goals first | rfl | (exfalso; omega) | (congr 1; omega)
theorem PermF.swap (σ : Nat → Nat) {a b i j : Nat} (hi : a ≤ i ∧ i < b) (hj : a ≤ j ∧ j < b) : PermF a b σ (ykk' σ i j) :=
 ⟨fun k hk => by unfold ykk'; rw [if_neg (by omega), if_neg (by omega)], fun k h1 h2 => by
  unfold ykk'
  by_cases h3 : k = i
  ·exact ⟨j, hj.1, hj.2, by rw [if_pos h3]⟩
  ·by_cases h4 : k = j
   ·exact ⟨i, hi.1, hi.2, by rw [if_neg h3, if_pos h4]⟩
   ·exact ⟨k, h1, h2, by rw [if_neg h3, if_neg h4]⟩, fun n hn => by
  rw [ypl' σ n i j]
  have h1 := @List.set_set_perm _ ((List.range n).map σ) i j (by simp; omega) (by simp; omega)
  simpa using h1⟩
def ygs' (σ : Nat → Nat) (a b n k : Nat) : Nat := if a ≤ k ∧ k < a + n then σ (k - a + b) else if b ≤ k ∧ k < b + n then σ (k - b + a) else σ k
theorem ypn' (σ : Nat → Nat) (a b : Nat) : ygs' σ a b 0 = σ := by
 funext k
 unfold ygs'
 repeat' split
 all_goals first | rfl | (exfalso; omega) | (congr 1; omega)
theorem ypm' (σ : Nat → Nat) {a b n i : Nat} (h : a + n ≤ b) (hi : i < n) : ykk' (ygs' σ a b i) (a + i) (b + i) = ygs' σ a b (i + 1) := by
 funext k
 unfold ykk' ygs'
 repeat' split
 all_goals first | rfl | (exfalso; omega) | (congr 1; omega)
theorem ygt' (σ : Nat → Nat) {a b n lo hi : Nat} (h : a + n ≤ b) (h1 : lo ≤ a) (h2 : b + n ≤ hi) : PermF lo hi σ (ygs' σ a b n) := by
 have : ∀ i, i ≤ n → PermF lo hi σ (ygs' σ a b i) := by
  intro i
  induction i with
  | zero => intro _; rw [ypn']; exact .refl _ _ _
  | succ i ih =>
   intro hi'
   rw [← ypm' σ h (by omega)]
   exact (ih (by omega)).trans (.swap _ (by omega) (by omega))
 exact this n (Nat.le_refl _)
def rotF (σ : Nat → Nat) (a m b k : Nat) : Nat := if a ≤ k ∧ k < a + (b - m) then σ (k - a + m) else if a + (b - m) ≤ k ∧ k < b then σ (k - (b - m)) else σ k
theorem yrv' (σ : Nat → Nat) {m i : Nat} (h : i ≤ m) : ygs' σ (m - i) m i = rotF σ (m - i) m (m + i) := by
 funext k
 unfold ygs' rotF
 repeat' split
 all_goals first | rfl | (exfalso; omega) | (congr 1; omega)
theorem yru' (σ : Nat → Nat) {m i j : Nat} (h : i ≤ m) (h2 : j < i) : rotF (ygs' σ (m - i) m j) (m - (i - j)) m (m + j) = rotF σ (m - i) m (m + j) := by
 funext k
 unfold rotF ygs'
 repeat' split
 all_goals first | rfl | (exfalso; omega) | (congr 1; omega)
theorem ypi' (σ : Nat → Nat) {m i j : Nat} (h : i ≤ m) (h2 : i < j) : rotF (ygs' σ (m - i) (m + j - i) i) (m - i) m (m + (j - i)) = rotF σ (m - i) m (m + j) := by
 funext k
 unfold rotF ygs'
 repeat' split
 all_goals first | rfl | (exfalso; omega) | (congr 1; omega)
theorem ypg' (σ : Nat → Nat) {m b : Nat} (h : m ≤ b) : rotF σ m m b = σ := by
 funext k
 unfold rotF
 repeat' split
 all_goals first | rfl | (exfalso; omega) | (congr 1; omega)
theorem yph' (σ : Nat → Nat) (a m : Nat) : rotF σ a m m = σ := by
 funext k
 unfold rotF
 repeat' split
 all_goals first | rfl | (exfalso; omega) | (congr 1; omega)
def movD (σ : Nat → Nat) (m k j : Nat) : Nat := if k < j ∧ j ≤ m then σ (j - 1) else if j = k then σ m else σ j
theorem ylj' (σ : Nat → Nat) (m : Nat) : movD σ m m = σ := by
 funext k
 unfold movD
 repeat' split
 all_goals first | rfl | (exfalso; omega) | (congr 1; omega)
theorem yq1' (σ : Nat → Nat) {m k : Nat} (h : k + 1 ≤ m) : ykk' (movD σ m (k + 1)) (k + 1) k = movD σ m k := by
 funext k
 unfold ykk' movD
 repeat' split
 all_goals first | rfl | (exfalso; omega) | (congr 1; omega)
theorem yq0' (σ : Nat → Nat) {m k lo hi : Nat} (h : k ≤ m) (h1 : lo ≤ k) (h2 : m < hi) : PermF lo hi σ (movD σ m k) := by
 obtain ⟨d, rfl⟩ : ∃ d, m = k + d := ⟨m - k, by omega⟩
 suffices ∀ e, e ≤ d → PermF lo hi σ (movD σ (k + d) (k + d - e)) by
  have := this d (Nat.le_refl _)
  rwa [show k + d - d = k by omega] at this
 intro e
 induction e with
 | zero => intro _; rw [Nat.sub_zero, ylj']; exact .refl _ _ _
 | succ e ih =>
  intro he
  have hs := yq1' σ (m := k + d) (k := k + d - (e + 1)) (by omega)
  rw [show k + d - (e + 1) + 1 = k + d - e by omega] at hs
  rw [← hs]
  exact (ih (by omega)).trans (.swap _ (by omega) (by omega))
theorem yib' : ∀ (f : Nat) (σ : Nat → Nat) (m i j lo hi : Nat), i + j ≤ f → 0 < i → 0 < j → i ≤ m → lo ≤ m - i → m + j ≤ hi → PermF lo hi σ (rotF σ (m - i) m (m + j))
 | 0, _, _, i, j, _, _, h, h1, h2, _, _, _ => by omega
 | f + 1, σ, m, i, j, lo, hi, h, h1, h2, h3, h4, h5 => by
  rcases Nat.lt_trichotomy i j with h6 | h6 | h6
  ·rw [← ypi' σ h3 h6]
   exact (ygt' σ (a := m - i) (b := m + j - i) (n := i) (by omega) h4 (by omega)).trans (yib' f _ m i (j - i) lo hi (by omega) h1 (by omega) h3 h4 (by omega))
  ·subst h6
   rw [← yrv' σ h3]
   exact ygt' σ (by omega) h4 h5
  ·rw [← yru' σ h3 h6]
   exact (ygt' σ (a := m - i) (b := m) (n := j) (by omega) h4 h5).trans (yib' f _ m (i - j) j lo hi (by omega) (by omega) h2 (by omega) (by omega) h5)
structure MergIn (K : Nat → Int) (σ : Nat → Nat) (a m b : Nat) : Prop where
 am : a < m
 mb : m < b
 left : SortF K σ a m
 right : SortF K σ m b
 tags : ∀ i j, a ≤ i → i < m → m ≤ j → j < b → σ i < σ j
def yhj' (K : Nat → Int) (σ σ' : Nat → Nat) (a b : Nat) : Prop := PermF a b σ σ' ∧ SortF K σ' a b
theorem yqz' {K : Nat → Int} {σ : Nat → Nat} {a m i : Nat} (h : MergIn K σ a m (m + 1)) (h1 : a ≤ i) (h2 : i ≤ m) (h3 : ∀ x, a ≤ x → x < i → K (σ x) ≤ K (σ m)) (h4 : ∀ x, i ≤ x → x < m → K (σ m) < K (σ x)) :
  yhj' K σ (movD σ m i) a (m + 1) := by
 refine ⟨yq0' σ h2 h1 (by omega), fun x y h5 h6 h7 => ?_⟩
 have ht := h.tags
 have hr := h.left
 unfold movD
 by_cases hx : x < i
 ·rw [if_neg (by omega), if_neg (c := x = i) (by omega)]
  by_cases hy : i < y
  ·rw [if_pos (by omega)]; exact hr _ _ (by omega) (by omega) (by omega)
  ·rw [if_neg (by omega)]
   by_cases hy2 : y = i
   ·rw [if_pos hy2]
    have h8 := h3 x h5 hx
    have h9 := ht x m h5 (by omega) (by omega) (by omega)
    unfold LexK; omega
   ·rw [if_neg hy2]; exact hr _ _ (by omega) (by omega) (by omega)
 ·rw [if_pos (c := i < y ∧ y ≤ m) (by omega)]
  by_cases hx2 : x = i
  ·rw [if_neg (by omega), if_pos hx2]; exact .inl (h4 _ (by omega) (by omega))
  ·rw [if_pos (by omega)]; exact hr _ _ (by omega) (by omega) (by omega)
structure CutOk (K : Nat → Int) (σ : Nat → Nat) (a m b mid s e : Nat) : Prop where
 as_ : a ≤ s
 sm : s ≤ m
 smid : s ≤ mid
 me : m ≤ e
 eb : e ≤ b
 mide : mid ≤ e
 amid : a < mid
 midb : mid < b
 sum : s + e = mid + m
 cross1 : ∀ i j, a ≤ i → i < s → e ≤ j → j < b → K (σ i) ≤ K (σ j)
 cross2 : ∀ i j, s ≤ i → i < m → m ≤ j → j < e → K (σ j) < K (σ i)
theorem SortF.le {K : Nat → Int} {σ : Nat → Nat} {a b i j : Nat} (h : SortF K σ a b) (h1 : a ≤ i) (h2 : i ≤ j) (h3 : j < b) : K (σ i) ≤ K (σ j) := by
 rcases Nat.lt_or_ge i j with h4 | h4
 ·have := h i j h1 h4 h3
  unfold LexK at this
  omega
 ·obtain rfl : i = j := by omega
  exact Int.le_refl _
section
variable {K : Nat → Int} {σ σ2 σ3 : Nat → Nat} {a m b mid s e : Nat}
theorem CutOk.rot (h : MergIn K σ a m b) (c : CutOk K σ a m b mid s e) : PermF a b σ (rotF σ s m e) := by
 have := c.as_; have := c.sm; have := c.me; have := c.eb
 by_cases h1 : s = m
 ·subst h1; rw [ypg' σ c.me]; exact .refl _ _ _
 ·by_cases h2 : m = e
  ·subst h2; rw [yph' σ s m]; exact .refl _ _ _
  ·have := yib' (m - s + (e - m)) σ m (m - s) (e - m) a b (Nat.le_refl _) (by omega) (by omega) (by omega) (by omega) (by omega)
   rwa [show m - (m - s) = s by omega, show m + (e - m) = e by omega] at this
theorem CutOk.rot_at (c : CutOk K σ a m b mid s e) (k : Nat) : rotF σ s m e k = if s ≤ k ∧ k < mid then σ (k - s + m) else if mid ≤ k ∧ k < e then σ (k - mid + s) else σ k := by
 have := c.sum; have := c.smid; have := c.me; have := c.sm
 unfold rotF
 rw [show s + (e - m) = mid by omega]
 split
 ·rfl
 ·split
  ·congr 1; omega
  ·rfl
theorem CutOk.done (h : MergIn K σ a m b) (c : CutOk K σ a m b mid s e) (h1 : a < s ∧ s < mid → yhj' K (rotF σ s m e) σ2 a mid) (h1' : ¬ (a < s ∧ s < mid) → σ2 = rotF σ s m e)
  (h2 : mid < e ∧ e < b → yhj' K σ2 σ3 mid b) (h2' : ¬ (mid < e ∧ e < b) → σ3 = σ2) : yhj' K σ σ3 a b := by
 have q1 := c.sum; have q2 := c.eb; have q3 := c.me; have q4 := c.sm; have q5 := c.smid; have q6 := c.as_; have q7 := c.mide; have q8 := c.amid; have q9 := c.midb
 have p1 : PermF a mid (rotF σ s m e) σ2 := by
  by_cases hh : a < s ∧ s < mid
  ·exact (h1 hh).1
  ·rw [h1' hh]; exact .refl _ _ _
 have p2 : PermF mid b σ2 σ3 := by
  by_cases hh : mid < e ∧ e < b
  ·exact (h2 hh).1
  ·rw [h2' hh]; exact .refl _ _ _
 have s1 : SortF K σ2 a mid := by
  by_cases hh : a < s ∧ s < mid
  ·exact (h1 hh).2
  ·rw [h1' hh]
   intro i j g1 g2 g3
   rw [c.rot_at, c.rot_at]
   by_cases k1 : s = mid
   ·rw [if_neg (by omega), if_neg (by omega), if_neg (by omega), if_neg (by omega)]
    exact h.left _ _ g1 g2 (by omega)
   ·rw [if_pos (by omega), if_pos (by omega)]
    exact h.right _ _ (by omega) (by omega) (by omega)
 have s2 : SortF K σ3 mid b := by
  by_cases hh : mid < e ∧ e < b
  ·exact (h2 hh).2
  ·rw [h2' hh]
   intro i j g1 g2 g3
   rw [p1.out _ (.inr g1), p1.out _ (.inr (by omega)), c.rot_at, c.rot_at, if_neg (by omega), if_neg (c := s ≤ j ∧ j < mid) (by omega)]
   by_cases k1 : mid = e
   ·rw [if_neg (by omega), if_neg (by omega)]
    exact h.right _ _ (by omega) g2 g3
   ·rw [if_pos (by omega), if_pos (by omega)]
    exact h.left _ _ (by omega) (by omega) (by omega)
 have cr : ∀ i j, a ≤ i → i < mid → mid ≤ j → j < b → LexK K (rotF σ s m e i) (rotF σ s m e j) := by
  intro i j g1 g2 g3 g4
  rw [c.rot_at, c.rot_at, if_neg (c := s ≤ j ∧ j < mid) (by omega)]
  by_cases k1 : i < s
  ·rw [if_neg (by omega), if_neg (by omega)]
   by_cases k2 : j < e
   ·rw [if_pos (by omega)]; exact h.left _ _ g1 (by omega) (by omega)
   ·rw [if_neg (by omega)]
    have z1 := c.cross1 i j g1 k1 (by omega) g4
    have z2 := h.tags i j g1 (by omega) (by omega) g4
    unfold LexK; omega
  ·rw [if_pos (by omega)]
   by_cases k2 : j < e
   ·rw [if_pos (by omega)]; exact .inl (c.cross2 _ _ (by omega) (by omega) (by omega) (by omega))
   ·rw [if_neg (by omega)]; exact h.right _ _ (by omega) (by omega) g4
 refine ⟨((CutOk.rot h c).trans (p1.wide (Nat.le_refl _) (by omega))).trans (p2.wide (by omega) (Nat.le_refl _)), fun i j g1 g2 g3 => ?_⟩
 by_cases k1 : j < mid
 ·rw [p2.out _ (.inl (by omega)), p2.out _ (.inl k1)]; exact s1 _ _ g1 g2 k1
 ·by_cases k2 : mid ≤ i
  ·exact s2 _ _ k2 g2 g3
  ·obtain ⟨i', e1, e2, e3⟩ := p1.into i g1 (by omega)
   obtain ⟨j', e4, e5, e6⟩ := p2.into j (by omega) g3
   rw [p2.out _ (.inl (by omega)), e3, e6, p1.out _ (.inr e4)]
   exact cr _ _ e1 e2 e4 e5
end
structure InBlk (K : Nat → Int) (σ : Nat → Nat) (a b : Nat) : Prop where
 sort : SortF K σ a b
 own : ∀ i, a ≤ i → i < b → a ≤ σ i ∧ σ i < b
theorem InBlk.join {K : Nat → Int} {σ σ' : Nat → Nat} {a m b : Nat} (ham : a ≤ m) (hmb : m ≤ b) (h2 : InBlk K σ a m) (h3 : InBlk K σ m b) (h4 : yhj' K σ σ' a b) : InBlk K σ' a b :=
 ⟨h4.2, fun i g1 g2 => by
  obtain ⟨j, e1, e2, e3⟩ := h4.1.into i g1 g2
  rw [e3]
  by_cases hj : j < m
  ·have := h2.own j e1 hj
   omega
  ·have := h3.own j (by omega) e2
   omega⟩
theorem InBlk.keep {K : Nat → Int} {σ σ' : Nat → Nat} {a b c d : Nat} (h : InBlk K σ a b) (hp : PermF c d σ σ') (hd : b ≤ c ∨ d ≤ a) : InBlk K σ' a b :=
 ⟨fun i j g1 g2 g3 => by rw [hp.out i (by omega), hp.out j (by omega)]; exact h.sort i j g1 g2 g3, fun i g1 g2 => by rw [hp.out i (by omega)]; exact h.own i g1 g2⟩
theorem InBlk.snoc {K : Nat → Int} {σ : Nat → Nat} {a i j : Nat} (h : InBlk K σ a i) (hi : σ i = i) (h1 : a ≤ j) (h2 : j ≤ i) (h3 : ∀ x, j ≤ x → x < i → K (σ i) < K (σ x)) (h4 : j = a ∨ K (σ (j - 1)) ≤ K (σ i)) : InBlk K (movD σ i j) a (i + 1) := by
 by_cases hai : a = i
 ·obtain rfl : j = i := by omega
  subst hai
  rw [ylj']
  refine ⟨fun x y g1 g2 g3 => by omega, fun x g1 g2 => ?_⟩
  have : x = a := by omega
  rw [this, hi]
  omega
 have hm : MergIn K σ a i (i + 1) := ⟨by omega, by omega, h.sort, fun x y g1 g2 g3 => by omega, fun x y g1 g2 g3 g4 => by
  obtain rfl : y = i := by omega
  have := h.own x g1 g2
  omega⟩
 have ho := yqz' hm h1 h2 (fun x g1 g2 => by
  rcases h4 with h4 | h4
  ·omega
  ·have := h.sort.le (i := x) (j := j - 1) g1 (by omega) (by omega)
   omega) h3
 refine ⟨ho.2, fun x g1 g2 => ?_⟩
 obtain ⟨y, e1, e2, e3⟩ := ho.1.into x g1 g2
 rw [e3]
 by_cases hy : y < i
 ·have := h.own y e1 hy; omega
 ·obtain rfl : y = i := by omega
  omega
end Go.Av

namespace Go.Av
open Go.RowKit
section
variable {P : Program} {w0 w : World} {R Ts Ts' : List Thing} {rows : List (Value × Bs)}
variable {ops : Array Oper} {Q : Exit → Act → World → Prop} {rest : List Oper} {a : Act} {dst : Option Tmp} {tyy : TypeId} {pos : String} {aft : Array Edge} {g : Option (Nat × Bool)}
end
end Go.Av

namespace Go.Av
open Go.RowKit
end Go.Av
namespace Go.Proofs.YtcnkifbjlihaoaaGreatDoor
open Go.RowKit Go.Av
section
variable {w0 w : World} {R : List Thing} {rows : List (Value × Bs)} {g off n c : Nat} {f : Nat → Bs} {σ : Nat → Nat}
end
end Go.Proofs.YtcnkifbjlihaoaaGreatDoor

namespace Go.Av
section
variable {P : Program} {ops : Array Oper} {Q : Exit → Act → World → Prop} {md : Region.Mode} {S : World → Prop}
theorem yb7' {N i : Nat} {o : Oper} {fuel : Nat} {listed : Array Bool} {a a' : Act} {w : World} (hr : Region.ready md ops listed = [i]) (ho : ops[i]? = some o) (hw : Region.wanted o (yielded ops a.tmps) = false) (ha : a' = a.put o.dst undef) (hS : S w)
  (h : ybh' P md ops Q S N fuel (listed.setIfInBounds i true) a' w) : ybh' P md ops Q S N (fuel + 1) listed a w := by
 refine ybb' hr ho (fun K hK => ?_)
 unfold wpList
 rw [if_neg (by rw [hw]; simp)]
 unfold wpList
 rw [← ha]
 exact hK _ _ hS h
end
end Go.Av

namespace Go.Proofs.YtcnkifbjlihaoaaGreatDoor
open Go.RowKit Go.Av
section
variable {w0 w : World} {R : List Thing} {rows : List (Value × Bs)} {g off n c : Nat} {f : Nat → Bs} {σ : Nat → Nat} {Ky : Bs → Int} {ok : Bs → Prop}
end
end Go.Proofs.YtcnkifbjlihaoaaGreatDoor

namespace Go.Proofs.YtcnkifbjlihaoaaGreatDoor
open Go.RowKit Go.Av
section
variable {w0 : World} {R : List Thing} {rows : List (Value × Bs)} {g off n c : Nat} {f : Nat → Bs} {Ky : Bs → Int} {ok : Bs → Prop}
end
end Go.Proofs.YtcnkifbjlihaoaaGreatDoor

namespace Go.Proofs.YtcnkifbjlihaoaaGreatDoor
open Go.RowKit Go.Av
section
variable {w0 : World} {R : List Thing} {rows : List (Value × Bs)} {g off n c : Nat} {f : Nat → Bs} {Ky : Bs → Int} {ok : Bs → Prop}
end
end Go.Proofs.YtcnkifbjlihaoaaGreatDoor

namespace Go.Av
def BlkA (K : Nat → Int) (σ : Nat → Nat) (n bs a : Nat) : Prop := ∀ q, q * bs < a → q * bs < n → InBlk K σ (q * bs) (min (q * bs + bs) n)
theorem BlkA.whole {K : Nat → Int} {σ : Nat → Nat} {n bs : Nat} (h : BlkA K σ n bs n) (hn : n ≤ bs) : InBlk K σ 0 n := by
 by_cases h0 : n = 0
 ·subst h0
  exact ⟨fun i j g1 g2 g3 => by omega, fun i g1 g2 => by omega⟩
 ·have := h 0 (by omega) (by omega)
  rw [Nat.zero_mul, Nat.zero_add, show min bs n = n by omega] at this
  exact this
end Go.Av
namespace Go.Proofs.YtcnkifbjlihaoaaGreatDoor
open Go.RowKit Go.Av
section
variable {w0 : World} {R : List Thing} {rows : List (Value × Bs)} {g off n c : Nat} {f : Nat → Bs} {Ky : Bs → Int} {ok : Bs → Prop}
end
end Go.Proofs.YtcnkifbjlihaoaaGreatDoor

namespace Go.Av
open Go.RowKit
def yys' (p : Bs) : Nat := (yaz' p).length
def yh5' (l : List Bs) : List Bs := [8, 7, 6, 5, 4, 3, 2, 1].flatMap fun d => l.filter fun p => yys' p == d
def purT (l : List Bs) (S : TreeS) : TreeS := l.foldl (fun S p => { S with l := remT p S.l }) S
theorem yrj' {K : Nat} : ∀ (l : List Bs) {S : TreeS}, TreeB K S → TreeB K (purT l S)
 | [], _, h => h
 | p :: l, S, h => yrj' l (yyj' h p)
end Go.Av
namespace Go.Proofs.YtcnkifbjlihaoaaGreatDoor
open Go.RowKit Go.Av
section
variable {w0 w : World} {t : Nat} {S : TreeS} {P P' : List PRow} {R : List Thing} {rows : List (Value × Bs)}
end
end Go.Proofs.YtcnkifbjlihaoaaGreatDoor

namespace Go.Av
open Go.RowKit
structure WaitS where
 sess : Int
 ops : List OpS
 close : Bool
 fails : Bool
abbrev ybz' := List (Bs × Int)
abbrev yd2' := List (Int × WaitS)
structure PartS where
 t : TreeS
 held : ybz'
 zxid : Int
 wait : yd2'
 decided : List Int
 closed : List Int
def yam' (l : List OpS) : Nat := (l.filter fun o => o.kind == 1).length
def ydw' (l : List OpS) : Nat := if yam' l = 0 then 0 else l.findIdx fun o => o.kind == 1
def yaw' (W : yd2') : Nat := (W.map fun e => if e.2.fails then 0 else yam' e.2.ops).sum
def ya3' (o : OpS) : List Bs := match yap' o.p with
 | none => [o.p]
 | some up => if o.kind == 1 && seqF o.flags then [o.p, up] else [o.p]
def yda' (p q : Bs) : Bool := decide (q = p) || (decide (q = (yap' p).getD []) || decide (yap' q = some p))
def ybn' (H : ybz') (who : Int) (p : Bs) : Bool := ya4' p && H.any fun e => e.2 != who && yda' p e.1
def setH (H : ybz') (p : Bs) (who : Int) : ybz' := if (H.any fun e => decide (e.1 = p)) then H.map (fun e => if e.1 = p then (p, who) else e) else H ++ [(p, who)]
def ymh' (H : ybz') (who : Int) (ps : List Bs) : Option Bs := match ps.find? (fun p => !ya4' p) with
 | some p => some p
 | none => ps.find? fun p => ybn' H who p
def ygb' (H : ybz') (who : Int) (ps : List Bs) : ybz' := if (ymh' H who ps).isSome then H else ps.foldl (fun H p => setH H p who) H
def yis' (H : ybz') (who : Int) : ybz' := H.filter fun e => e.2 != who
def yc0' (W : yd2') (sess : Int) : Bool := W.any fun e => e.2.close && e.2.sess == sess
def yyn' (W : yd2') (sess : Int) : Bool := W.any fun e => e.2.sess == sess
def yeh' (H : ybz') (id : Int) (ops : List OpS) : Option Nat := ops.findIdx? fun o => (ya3' o).any fun p => ybn' H id p
def yd8' (S : PartS) (id sess : Int) (ops : List OpS) : Int × Int :=
 if sess ∈ S.closed then (11, -1)
 else if yc0' S.wait sess = true then (12, -1)
 else match yeh' S.held id ops with
  | some i => (12, i)
  | none => if 0 < yam' ops ∧ 0 < yaw' S.wait ∧ S.t.room < yaw' S.wait + S.t.l.length + yam' ops then (12, ydw' ops) else (0, -1)
def yb0' (S : PartS) (sess num : Int) (ops : List OpS) : ReplyS × PartS :=
 if mayS sess num ops ≠ 0 then (yea' num (mayS sess num ops) (-1) 0, S)
 else if (yd8' S 0 sess ops).1 ≠ 0 then ({ yea' num (yd8' S 0 sess ops).1 (yd8' S 0 sess ops).2 ops.length with zxid := S.zxid + 1 }, { S with zxid := S.zxid + 1 })
 else ((ya1' S.t sess num (S.zxid + 1) ops).1, { S with zxid := S.zxid + 1, t := (ya1' S.t sess num (S.zxid + 1) ops).2 })
def hasW (W : yd2') (id : Int) : Bool := W.any fun e => e.1 == id
def ylc' (S : PartS) (id sess : Int) : Bool := decide (id < 1) || (decide (sess < 1) || (hasW S.wait id || decide (id ∈ S.decided)))
def yfm' (H : ybz') (id : Int) (ops : List OpS) : ybz' := ops.foldl (fun H o => ygb' H id (ya3' o)) H
def ykd' (S : PartS) (id sess : Int) (ops : List OpS) : (Int × Int) × PartS :=
 if ylc' S id sess = true then ((1, -1), S)
 else if mayS sess 1 ops ≠ 0 then ((mayS sess 1 ops, -1), S)
 else if (yd8' S id sess ops).1 ≠ 0 then (yd8' S id sess ops, S)
 else (if (ybw' S.t sess S.zxid ops).2.2 = true then (0, -1) else ((ybw' S.t sess S.zxid ops).1.err, (ybw' S.t sess S.zxid ops).1.at_),
  { S with held := yfm' S.held id ops, wait := S.wait ++ [(id, ⟨sess, ops, false, !(ybw' S.t sess S.zxid ops).2.2⟩)] })
def yfc' (S : PartS) (id sess : Int) : Int × PartS :=
 if ylc' S id sess = true then (1, S)
 else if sess ∈ S.closed then (11, S)
 else if yyn' S.wait sess = true then (12, S)
 else if (ymh' S.held id (ofT S.t sess)).isSome = true then (12, S)
 else (0, { S with held := ygb' S.held id (ofT S.t sess), wait := S.wait ++ [(id, ⟨sess, [], true, false⟩)] })
def yd3' (W : yd2') (id : Int) : Option WaitS := (W.find? fun e => e.1 == id).map (·.2)
def delW (W : yd2') (id : Int) : yd2' := W.filter fun e => e.1 != id
def ybr' (S : PartS) (id : Int) (commit : Bool) : (List ResS × Int) × PartS := match yd3' S.wait id with
 | none => (([], 4), S)
 | some x =>
  if (!commit || x.fails) = true then (([], 0), { S with zxid := S.zxid + 1, held := yis' S.held id, wait := delW S.wait id, decided := S.decided ++ [id] })
  else if x.close = true then (([], 0), { S with zxid := S.zxid + 1, held := yis' S.held id, wait := delW S.wait id, decided := S.decided ++ [id], t := purT (yh5' (ofT S.t x.sess)) S.t, closed := if x.sess ∈ S.closed then S.closed else S.closed ++ [x.sess] })
  else (((ybw' S.t x.sess (S.zxid + 1) x.ops).1.rs, 0), { S with zxid := S.zxid + 1, held := yis' S.held id, wait := delW S.wait id, decided := S.decided ++ [id], t := (ybw' S.t x.sess (S.zxid + 1) x.ops).2.1 })
end Go.Av

namespace Go.Av
theorem ymk' (a b : Bs) : (a == b) = decide (a = b) := by
 by_cases h : a = b
 ·subst h; simp
 ·rw [decide_eq_false h, beq_eq_false_iff_ne]; exact h
end Go.Av
namespace Go.Proofs.YtcnkifbjlihaoaaGreatDoor
open Go.RowKit Go.Av
def hkv (e : Bs × Int) : Value × Value := (sv e.1, .int .i64 e.2)
def LkO (l : Nat) (H : ybz') (L : List Thing) : Prop := ∃ m, L = [yac' l (.cells #[.map (some m)] 223 (0, 0)), yay' .string m (H.map hkv)]
def ThLk (l : Nat) (H : ybz') : Thing := Bun (LkO l H)
section
variable {w0 w : World} {l : Nat} {H : ybz'} {R : List Thing} {rows : List (Value × Bs)}
theorem yww' (h : Sep w0 w (ThLk l H :: R) rows) : ∃ m, Sep w0 w (yac' l (.cells #[.map (some m)] 223 (0, 0)) :: yay' .string m (H.map hkv) :: R) rows := by
 obtain ⟨L, ⟨m, rfl⟩, hS⟩ := h.opens
 exact ⟨m, hS⟩
theorem yfh' {m : Nat} (h : Sep w0 w (yac' l (.cells #[.map (some m)] 223 (0, 0)) :: yay' .string m (H.map hkv) :: R) rows) : Sep w0 w (ThLk l H :: R) rows :=
 Sep.shut (O := LkO l H) ⟨m, rfl⟩ h
def yu5' (w0 : World) (l m r : Nat) (H : ybz') (R : List Thing) (rows : List (Value × Bs)) (f : Bs × Int → Bool) (k : Nat) (w : World) : Prop :=
 ∃ left : ybz', left.length = k ∧ (∀ e ∈ left, e ∈ H) ∧ (∀ e ∈ H, e ∈ left ∨ f e = false) ∧ Sep w0 w (yfb' .string m r (H.map hkv) (left.map hkv) :: yac' l (.cells #[.map (some m)] 223 (0, 0)) :: R) rows
set_option maxRecDepth 100000 in
set_option maxHeartbeats 8000000 in
theorem yop' (h : Sep w0 w (ThLk l H :: R) rows) (hd : DoorN w0) (who : Int) (p : ByteArray) (hp : p.size ≤ 100000) (hH : ∀ e ∈ H, e.1.length ≤ 100000) :
  Calls Tryz.prog 143 #[.pointer (some ⟨l, 0, none⟩), .int .i64 who, .string p] w fun e w' => e = .returned (.bool (ybn' H who p.data.toList)) ∧ Sep w0 w' (ThLk l H :: R) rows := by
 have HX := Lib.hid h
 have HH := Lib.hid hH
 clear h hH
 obtain ⟨res, hres⟩ : ∃ res, ybn' H who p.data.toList = res := ⟨_, rfl⟩
 rw [hres]
 have HRES := Lib.hid hres
 clear hres
 go_enter Tryz.func143, Tryz.ntmps143
 go_wp2_with (first | refine u0 ?_ | (refine uS ?_; clear HX; intro w HX) | (refine uA ?_; clear HX; (first | (have hq := b; clear hq; intro w b2 HX) | intro w b HX)))
 refine (yfv' p _ (hd.sep HX.out).1 (by unfold maxLen; omega)).mono ?_
 obtain ⟨g, hg⟩ : ∃ g, ya4' p.data.toList = g := ⟨_, rfl⟩
 rw [hg]
 rintro e w1 ⟨rfl, hu⟩
 replace HX := Lib.hid (HX.out.keep hu)
 clear hu
 cases g with
 | false =>
  obtain rfl : res = false := by rw [← HRES.out]; unfold ybn'; rw [hg]; rfl
  clear hg HRES
  go_wp2_with (first | refine u0 ?_ | (refine uS ?_; clear HX; intro w HX) | (refine uA ?_; clear HX; (first | (have hq := b; clear hq; intro w b2 HX) | intro w b HX)))
  go_ret
  exact ⟨rfl, HX.out⟩
 | true =>
  have HR0 := Lib.hid (show res = H.any fun e => e.2 != who && yda' p.data.toList e.1 by rw [← HRES.out]; unfold ybn'; rw [hg]; rfl)
  clear hg HRES
  go_wp2_with (first | refine u0 ?_ | (refine uS ?_; clear HX; intro w HX) | (refine uA ?_; clear HX; (first | (have hq := b; clear hq; intro w b2 HX) | intro w b HX)))
  refine (ydh' p _ (hd.sep HX.out).1 (by unfold maxLen; omega)).mono ?_
  obtain ⟨pp, hpp⟩ : ∃ pp, yap' p.data.toList = pp := ⟨_, rfl⟩
  rw [hpp]
  rintro e w1 ⟨rfl, hu⟩
  replace HX := Lib.hid (HX.out.keep hu)
  have HPP := Lib.hid hpp
  clear hu hpp
  obtain ⟨up, hup⟩ : ∃ up : ByteArray, up = ⟨(pp.getD []).toArray⟩ := ⟨_, rfl⟩
  have hupv : sv (pp.getD []) = .string up := by rw [hup]; rfl
  obtain ⟨zz, hzz⟩ : ∃ zz, pp.isSome = zz := ⟨_, rfl⟩
  rw [hupv, hzz]
  have HUP := Lib.hid (show up.data.toList = pp.getD [] by rw [hup])
  clear hup hupv hzz
  obtain ⟨m, hS⟩ := yww' HX.out
  replace HX := Lib.hid hS
  clear hS
  go_upto_region 4 with (first | refine u0 ?_ | (refine uS ?_; clear HX; intro w HX) | (refine uA ?_; clear HX; (first | (have hq := b; clear hq; intro w b2 HX) | intro w b HX)))
  obtain ⟨r, w9, hrun, h9⟩ := yhb' (P := Tryz.prog) HX.out.up1 Tryz.underlying221
  have HST := Lib.hid (show yu5' w0 l m r H R rows (fun e => e.2 != who && yda' p.data.toList e.1) H.length w9 from ⟨H, rfl, fun _ h => h, fun e he => .inl he, h9⟩)
  go_wp2_with (first | refine u0 ?_ | (refine uS ?_; clear HX; intro w HX) | (refine uA ?_; clear HX; (first | (have hq := b; clear hq; intro w b2 HX) | intro w b HX)))
  clear HX hrun h9
  go_loopg [9, 10, 11, 12] H.length (fun k _ _ _ _ wr => yu5' w0 l m r H R rows (fun e => e.2 != who && yda' p.data.toList e.1) k wr)
  case atStart => exact HST.out
  case round =>
   obtain ⟨left, hk, hin, hall, hS⟩ := hrel
   clear HST
   rcases yj2' (P := Tryz.prog) hkv hS with ⟨rfl, hn⟩ | ⟨l1, ge, l2, w1, rfl, hn, h1, hen⟩
   ·have HX := Lib.hid hS
    obtain rfl : res = false := by
     rw [HR0.out, List.any_eq_false]
     intro e he
     rcases hall e he with h | h
     ·cases h
     ·exact fun hh => by have h' : (e.2 != who && yda' p.data.toList e.1) = false := h; rw [h'] at hh; cases hh
    clear hS hk hin hall
    go_wp2_with (first | refine u0 ?_ | (refine uS ?_; clear HX; intro w HX) | (refine uA ?_; clear HX; (first | (have hq := b; clear hq; intro w b2 HX) | intro w b HX)))
    go_ret
    exact ⟨rfl, yfh' (yfe' HX.out).up1⟩
   ·have HX := Lib.hid h1
    have hge := hin ge (by simp)
    have HGE := Lib.hid (HH.out ge hge)
    have HR := Lib.hid (show (ge.2 != who && yda' p.data.toList ge.1) = true → true = res from fun hf => by rw [HR0.out]; exact (List.any_eq_true.2 ⟨ge, hge, hf⟩).symm)
    have HF := Lib.hid (show _ ∧ _ ∧ _ from ⟨hk, hin, hall⟩)
    clear hS h1 hk hin hall hge
    obtain ⟨q, x⟩ := ge
    dsimp only [hkv] at hn hen HGE HR HX
    obtain ⟨qs, hqs⟩ : ∃ qs : ByteArray, qs = ⟨q.toArray⟩ := ⟨_, rfl⟩
    have hqv : sv q = .string qs := by rw [hqs]; rfl
    have HQ := Lib.hid (show qs.data.toList = q by rw [hqs])
    rw [hqv] at hn hen
    clear hqs hqv
    by_cases hx : x = who
    ·have q1 : (x == who) = true := by rw [hx]; exact beq_self_eq_true _
     have HFE := Lib.hid (show (x != who && yda' p.data.toList q) = false by rw [hx]; simp)
     clear hx HR
     go_wp2_with (first | refine u0 ?_ | (refine uS ?_; clear HX; intro w HX) | (refine uA ?_; clear HX; (first | (have hq := b; clear hq; intro w b2 HX) | intro w b HX)))
     go_roundg (l1 ++ l2).length
     case rel =>
      obtain ⟨hk, hin, hall⟩ := HF.out
      refine ⟨l1 ++ l2, rfl, fun x hx => hin x ?_, fun x hx => ?_, HX.out⟩
      ·rcases List.mem_append.1 hx with h | h <;> simp [h]
      ·rcases hall x hx with h | h
       ·rcases List.mem_append.1 h with h | h
        ·exact .inl (List.mem_append_left _ h)
        ·rcases List.mem_cons.1 h with rfl | h
         ·exact .inr HFE.out
         ·exact .inl (List.mem_append_right _ h)
       ·exact .inr h
     case measure =>
      obtain ⟨hk, hin, hall⟩ := HF.out
      simp at hk ⊢; omega
    ·have q1 : (x == who) = false := by rw [beq_eq_false_iff_ne]; exact hx
     have HXW := Lib.hid (show (x != who) = true by rw [bne_iff_ne]; exact hx)
     clear hx
     go_wp2_with (first | refine u0 ?_ | (refine uS ?_; clear HX; intro w HX) | (refine uA ?_; clear HX; (first | (have hq := b; clear hq; intro w b2 HX) | intro w b HX)))
     refine (ydh' qs _ (hd.sep HX.out).1 (by rw [show qs.size = qs.data.toList.length by simp, HQ.out]; unfold maxLen; have := HGE.out; omega)).mono ?_
     rw [HQ.out]
     obtain ⟨z1, hz1⟩ : ∃ z, (qs.toList == p.toList) = z := ⟨_, rfl⟩
     obtain ⟨z2, hz2⟩ : ∃ z, (qs.toList == up.toList) = z := ⟨_, rfl⟩
     have e1 : decide (q = p.data.toList) = z1 := by rw [← hz1, ynd', HQ.out]; exact (ymk' ..).symm
     have e2 : decide (q = (yap' p.data.toList).getD []) = z2 := by rw [← hz2, ynd', HQ.out, HUP.out, HPP.out]; exact (ymk' ..).symm
     have HNR := Lib.hid (show yda' p.data.toList q = (z1 || (z2 || decide (yap' q = some p.data.toList))) by unfold yda'; rw [e1, e2])
     clear e1 e2
     cases hpq : yap' q with
     | none =>
      rintro e w1 ⟨rfl, hu⟩
      replace HX := Lib.hid (HX.out.keep hu)
      have HPQ := Lib.hid hpq
      clear hu hpq
      dsimp only [Option.isSome, Option.getD]
      unfold sv
      cases z1 with
      | true =>
       have HFE := Lib.hid (show (x != who && yda' p.data.toList q) = true by rw [HXW.out, HNR.out]; rfl)
       obtain rfl : res = true := (HR.out HFE.out).symm
       go_wp2_with (first | refine u0 ?_ | (refine uS ?_; clear HX; intro w HX) | (refine uA ?_; clear HX; (first | (have hq := b; clear hq; intro w b2 HX) | intro w b HX)))
       go_ret
       exact ⟨rfl, yfh' (yfe' HX.out).up1⟩
      | false =>
       cases z2 with
       | true =>
        have HFE := Lib.hid (show (x != who && yda' p.data.toList q) = true by rw [HXW.out, HNR.out]; rfl)
        obtain rfl : res = true := (HR.out HFE.out).symm
        go_wp2_with (first | refine u0 ?_ | (refine uS ?_; clear HX; intro w HX) | (refine uA ?_; clear HX; (first | (have hq := b; clear hq; intro w b2 HX) | intro w b HX)))
        go_ret
        exact ⟨rfl, yfh' (yfe' HX.out).up1⟩
       | false =>
        have HFE := Lib.hid (show (x != who && yda' p.data.toList q) = false by rw [HXW.out, HNR.out, HPQ.out]; rfl)
        go_wp2_with (first | refine u0 ?_ | (refine uS ?_; clear HX; intro w HX) | (refine uA ?_; clear HX; (first | (have hq := b; clear hq; intro w b2 HX) | intro w b HX)))
        go_roundg (l1 ++ l2).length
        case rel =>
         obtain ⟨hk, hin, hall⟩ := HF.out
         refine ⟨l1 ++ l2, rfl, fun x hx => hin x ?_, fun x hx => ?_, HX.out⟩
         ·rcases List.mem_append.1 hx with h | h <;> simp [h]
         ·rcases hall x hx with h | h
          ·rcases List.mem_append.1 h with h | h
           ·exact .inl (List.mem_append_left _ h)
           ·rcases List.mem_cons.1 h with rfl | h
            ·exact .inr HFE.out
            ·exact .inl (List.mem_append_right _ h)
          ·exact .inr h
        case measure =>
         obtain ⟨hk, hin, hall⟩ := HF.out
         simp at hk ⊢; omega
     | some u =>
      rintro e w1 ⟨rfl, hu⟩
      replace HX := Lib.hid (HX.out.keep hu)
      have HPQ := Lib.hid hpq
      clear hu hpq
      dsimp only [Option.isSome, Option.getD]
      unfold sv
      obtain ⟨us, hus⟩ : ∃ us : ByteArray, us = ⟨u.toArray⟩ := ⟨_, rfl⟩
      have HU := Lib.hid (show us.data.toList = u by rw [hus])
      rw [← hus]
      clear hus
      obtain ⟨z4, hz4⟩ : ∃ z, (us.toList == p.toList) = z := ⟨_, rfl⟩
      have e4 : decide (some u = some p.data.toList) = z4 := by rw [← hz4, ynd', HU.out]; exact (by rw [ymk']; exact decide_eq_decide.2 ⟨fun h => Option.some.inj h, fun h => congrArg some h⟩)
      have HN4 := Lib.hid (show yda' p.data.toList q = (z1 || (z2 || z4)) by rw [HNR.out, HPQ.out, e4])
      clear e4
      cases z1 with
      | true =>
       have HFE := Lib.hid (show (x != who && yda' p.data.toList q) = true by rw [HXW.out, HN4.out]; rfl)
       obtain rfl : res = true := (HR.out HFE.out).symm
       go_wp2_with (first | refine u0 ?_ | (refine uS ?_; clear HX; intro w HX) | (refine uA ?_; clear HX; (first | (have hq := b; clear hq; intro w b2 HX) | intro w b HX)))
       go_ret
       exact ⟨rfl, yfh' (yfe' HX.out).up1⟩
      | false =>
       cases z2 with
       | true =>
        have HFE := Lib.hid (show (x != who && yda' p.data.toList q) = true by rw [HXW.out, HN4.out]; rfl)
        obtain rfl : res = true := (HR.out HFE.out).symm
        go_wp2_with (first | refine u0 ?_ | (refine uS ?_; clear HX; intro w HX) | (refine uA ?_; clear HX; (first | (have hq := b; clear hq; intro w b2 HX) | intro w b HX)))
        go_ret
        exact ⟨rfl, yfh' (yfe' HX.out).up1⟩
       | false =>
        cases z4 with
        | true =>
         have HFE := Lib.hid (show (x != who && yda' p.data.toList q) = true by rw [HXW.out, HN4.out]; rfl)
         obtain rfl : res = true := (HR.out HFE.out).symm
         go_wp2_with (first | refine u0 ?_ | (refine uS ?_; clear HX; intro w HX) | (refine uA ?_; clear HX; (first | (have hq := b; clear hq; intro w b2 HX) | intro w b HX)))
         go_ret
         exact ⟨rfl, yfh' (yfe' HX.out).up1⟩
        | false =>
         have HFE := Lib.hid (show (x != who && yda' p.data.toList q) = false by rw [HXW.out, HN4.out]; rfl)
         go_wp2_with (first | refine u0 ?_ | (refine uS ?_; clear HX; intro w HX) | (refine uA ?_; clear HX; (first | (have hq := b; clear hq; intro w b2 HX) | intro w b HX)))
         go_roundg (l1 ++ l2).length
         case rel =>
          obtain ⟨hk, hin, hall⟩ := HF.out
          refine ⟨l1 ++ l2, rfl, fun x hx => hin x ?_, fun x hx => ?_, HX.out⟩
          ·rcases List.mem_append.1 hx with h | h <;> simp [h]
          ·rcases hall x hx with h | h
           ·rcases List.mem_append.1 h with h | h
            ·exact .inl (List.mem_append_left _ h)
            ·rcases List.mem_cons.1 h with rfl | h
             ·exact .inr HFE.out
             ·exact .inl (List.mem_append_right _ h)
           ·exact .inr h
         case measure =>
          obtain ⟨hk, hin, hall⟩ := HF.out
          simp at hk ⊢; omega
end
end Go.Proofs.YtcnkifbjlihaoaaGreatDoor

namespace Go.Av
open Go.RowKit Go.MapKept Go.ChangeMaps
section
variable {P : Program} {w w0 : World} {d : TypeDesc} {m r : Nat} {t k e : TypeId} {R : List Thing} {rows : List (Value × Bs)}
end
theorem yun' (H : ybz') (p : Bs) (who : Int) : (setH H p who).length ≤ H.length + 1 := by
 unfold setH
 split
 ·rw [List.length_map]; omega
 ·rw [List.length_append]; simp
theorem yry' {H : ybz'} {p : Bs} {who : Int} {e : Bs × Int} (h : e ∈ setH H p who) : e = (p, who) ∨ e ∈ H := by
 unfold setH at h
 split at h
 ·obtain ⟨x, hx, rfl⟩ := List.mem_map.1 h
  by_cases hp : x.1 = p
  ·rw [if_pos hp]; exact .inl rfl
  ·rw [if_neg hp]; exact .inr hx
 ·rcases List.mem_append.1 h with h | h
  ·exact .inr h
  ·exact .inl (List.mem_singleton.1 h)
end Go.Av
namespace Go.Proofs.YtcnkifbjlihaoaaGreatDoor
open Go.RowKit Go.Av
section
variable {w0 w : World} {l : Nat} {H : ybz'} {P P' : List PRow} {R : List Thing} {rows : List (Value × Bs)}
end
end Go.Proofs.YtcnkifbjlihaoaaGreatDoor

namespace Go.Av
theorem yk5' (who : Int) : ∀ (ps : List Bs) (H : ybz'), (ps.foldl (fun H p => setH H p who) H).length ≤ H.length + ps.length
 | [], H => by simp
 | p :: ps, H => by
  have h1 := yk5' who ps (setH H p who)
  have h2 := yun' H p who
  rw [List.foldl_cons, List.length_cons]
  omega
theorem ygk' {who : Int} {e : Bs × Int} : ∀ (ps : List Bs) (H : ybz'), e ∈ ps.foldl (fun H p => setH H p who) H → (e.1 ∈ ps ∧ e.2 = who) ∨ e ∈ H
 | [], H, h => .inr h
 | p :: ps, H, h => by
  rcases ygk' ps (setH H p who) h with h | h
  ·exact .inl ⟨k_n _ h.1, h.2⟩
  ·rcases yry' h with h | h
   ·exact .inl ⟨by rw [h]; exact k_s, by rw [h]⟩
   ·exact .inr h
end Go.Av
namespace Go.Proofs.YtcnkifbjlihaoaaGreatDoor
open Go.RowKit Go.Av
section
variable {w0 w : World} {l : Nat} {H : ybz'} {P P' : List PRow} {R : List Thing} {rows : List (Value × Bs)}
set_option maxRecDepth 100000 in
theorem ymu' (h : Sep w0 w R rows) : Calls Tryz.prog 59 #[] w fun e w' => ∃ l, e = .returned (.pointer (some ⟨l, 0, none⟩)) ∧ Sep w0 w' (ThLk l [] :: R) rows := by
 have HX := Lib.hid h
 clear h
 go_enter Tryz.func59, Tryz.ntmps59
 go_wp2_with (first | refine u0 ?_ | (refine uS ?_; clear HX; intro w HX) | (refine uA ?_; clear HX; (first | (have hq := b; clear hq; intro w b2 HX) | intro w b HX)) | (refine uN ?_; clear HX; intro w mm HX))
 go_ret
 exact ⟨_, rfl, yfh' HX.out⟩
end
end Go.Proofs.YtcnkifbjlihaoaaGreatDoor

namespace Go.Av
open Go.RowKit
structure WaitG where
 id : Int
 x : WaitS
 v : Value
def WaitG.kv (g : WaitG) : Value × Value := (.int .i64 g.id, .agg #[.int .i64 g.x.sess, g.v, .bool g.x.close, .bool g.x.fails])
def WaitG.ent (g : WaitG) : Int × WaitS := (g.id, g.x)
def ikv (i : Int) : Value × Value := (.int .i64 i, .bool true)
theorem ycv' (a b : List OpS) : yam' (a ++ b) = yam' a + yam' b := by unfold yam'; rw [List.filter_append, List.length_append]
theorem ydk' (o : OpS) : yam' [o] = if o.kind = 1 then 1 else 0 := by
 unfold yam'
 by_cases h : o.kind = 1
 ·rw [if_pos h]; simp [h]
 ·rw [if_neg h]; simp [h]
theorem yfg' (l : List OpS) : yam' l ≤ l.length := List.length_filter_le _ _
theorem ygj' {l : List OpS} (h : yam' l = 0) : ydw' l = 0 := by unfold ydw'; rw [if_pos h]
theorem yi0' {a : List OpS} (o : OpS) (h : yam' a ≠ 0) : ydw' (a ++ [o]) = ydw' a := by
 unfold ydw'
 rw [if_neg h, if_neg (by rw [ycv']; omega), List.findIdx_append, if_pos]
 unfold yam' at h
 obtain ⟨x, hx⟩ := List.exists_mem_of_length_pos (Nat.pos_of_ne_zero h)
 obtain ⟨h1, h2⟩ := List.mem_filter.1 hx
 exact List.findIdx_lt_length_of_exists ⟨x, h1, h2⟩
theorem yoz' {a : List OpS} {o : OpS} (h : yam' a = 0) (ho : o.kind = 1) : ydw' (a ++ [o]) = a.length := by
 have hn : ∀ x ∈ a, (x.kind == 1) = false := fun x hx => by
  cases hh : (x.kind == 1) with
  | false => rfl
  | true =>
   have : x ∈ a.filter fun o => o.kind == 1 := List.mem_filter.2 ⟨hx, hh⟩
   unfold yam' at h
   rw [List.eq_nil_of_length_eq_zero h] at this
   cases this
 unfold ydw'
 rw [if_neg (by rw [ycv', ydk', if_pos ho]; omega), List.findIdx_append, if_neg]
 ·simp [ho]
 ·have : List.findIdx (fun o => o.kind == 1) a = a.length := List.findIdx_eq_length.2 hn
  omega
end Go.Av
namespace Go.Proofs.YtcnkifbjlihaoaaGreatDoor
open Go.RowKit Go.Av
theorem sn_x1 : StructN Tryz.prog 123 7 := ⟨by kernel_rfl⟩
theorem sn_x2 : StructN Tryz.prog 144 4 := ⟨by kernel_rfl⟩
theorem z_x2 : yco' Tryz.prog 144 #[.int .i64 0, .slice none 0 0, .bool false, .bool false] := by unfold yco'; kernel_rfl
abbrev ybg' (room : Int) (t lk : Nat) (zxid : Int) (mw md mc : Nat) : Array Value := #[.int .i64 room, .pointer (some ⟨t, 0, none⟩), .pointer (some ⟨lk, 0, none⟩), .int .i64 zxid, .map (some mw), .map (some md), .map (some mc)]
def PtO (b : Nat) (S : PartS) (P : List PRow) (L : List Thing) : Prop :=
 ∃ (t lk mw md mc : Nat) (gs : List WaitG), L = [yac' b (.cells (ybg' S.t.room t lk S.zxid mw md mc) 123 (0, 0)), yaq' t S.t P, ThLk lk S.held, yay' (.int .i64) mw (gs.map WaitG.kv), yay' (.int .i64) md (S.decided.map ikv), yay' (.int .i64) mc (S.closed.map ikv)] ∧
  gs.map WaitG.ent = S.wait ∧ ∀ g ∈ gs, (5, g.v, g.x.ops.flatMap OpS.cells) ∈ P
def ycc' (b : Nat) (S : PartS) (P : List PRow) : Thing := Bun (PtO b S P)
section
variable {w0 w : World} {b : Nat} {S : PartS} {P P' : List PRow} {R : List Thing} {rows : List (Value × Bs)}
theorem yd4' (h : Sep w0 w (ycc' b S P :: R) rows) : ∃ (t lk mw md mc : Nat) (gs : List WaitG), gs.map WaitG.ent = S.wait ∧ (∀ g ∈ gs, (5, g.v, g.x.ops.flatMap OpS.cells) ∈ P) ∧
  Sep w0 w (yac' b (.cells (ybg' S.t.room t lk S.zxid mw md mc) 123 (0, 0)) :: yaq' t S.t P :: ThLk lk S.held :: yay' (.int .i64) mw (gs.map WaitG.kv) :: yay' (.int .i64) md (S.decided.map ikv) :: yay' (.int .i64) mc (S.closed.map ikv) :: R) rows := by
 obtain ⟨L, ⟨t, lk, mw, md, mc, gs, rfl, h1, h2⟩, hS⟩ := h.opens
 exact ⟨t, lk, mw, md, mc, gs, h1, h2, hS⟩
theorem ycx' {t lk mw md mc : Nat} {gs : List WaitG} (h : Sep w0 w (yac' b (.cells (ybg' S.t.room t lk S.zxid mw md mc) 123 (0, 0)) :: yaq' t S.t P :: ThLk lk S.held :: yay' (.int .i64) mw (gs.map WaitG.kv) :: yay' (.int .i64) md (S.decided.map ikv) :: yay' (.int .i64) mc (S.closed.map ikv) :: R) rows)
  (h1 : gs.map WaitG.ent = S.wait) (h2 : ∀ g ∈ gs, (5, g.v, g.x.ops.flatMap OpS.cells) ∈ P) : Sep w0 w (ycc' b S P :: R) rows :=
 Sep.shut (O := PtO b S P) ⟨t, lk, mw, md, mc, gs, rfl, h1, h2⟩ h
theorem yeo' (h : Sep w0 w (ycc' b S P :: R) rows) (hP : ∀ r ∈ P, r ∈ P') : Sep w0 w (ycc' b S P' :: R) rows := by
 obtain ⟨t, lk, mw, md, mc, gs, h1, h2, hS⟩ := yd4' h
 exact ycx' (ybi' hS.up1 hP).up1 h1 (fun g hg => hP _ (h2 g hg))
set_option maxRecDepth 100000 in
set_option maxHeartbeats 4000000 in
theorem yho' (h : Sep w0 w (yab' w0 P :: R) rows) (l : List OpS) (v : Value) (hv : (5, v, l.flatMap OpS.cells) ∈ P) (hn : l.length ≤ 100000) :
  Calls Tryz.prog 93 #[v] w fun e w' => e = .returned (.tuple #[.int .i64 (yam' l : Nat), .int .i64 (ydw' l : Nat)]) ∧ Sep w0 w' (yab' w0 P :: R) rows := by
 obtain ⟨E, hE⟩ := h.poolGet hv
 obtain ⟨a, n, c, rfl, hl0, -, -, hne⟩ := ReadRow.some hE
 rw [yar' yai'] at hl0
 obtain rfl : l.length = n := by omega
 have HNE := Lib.hid hne
 have HV := Lib.hid hv
 have HX := Lib.hid h
 have HN := Lib.hid hn
 clear h hE hne hv hl0
 go_enter Tryz.func93, Tryz.ntmps93
 go_wp2_with (first | refine u0 ?_ | (refine uS ?_; clear HX; intro w HX) | (refine uA ?_; clear HX; (first | (have hq := b; clear hq; intro w b2 HX) | intro w b HX)))
 have HST := HX
 clear HX
 go_loopg [2, 3, 8] l.length (fun k v2 v3 v8 wr => ∃ i : Nat, i + k = l.length ∧ v2 = .int .i64 (yam' (l.take i) : Nat) ∧ v3 = .int .i64 (ydw' (l.take i) : Nat) ∧ v8 = .int .i64 (i : Int) ∧ Sep w0 wr (yab' w0 P :: R) rows)
 case atStart => exact ⟨0, by simp, rfl, rfl, rfl, HST.out⟩
 case round =>
  rename World => w
  obtain ⟨i, hik, rfl, rfl, rfl, hS⟩ := hrel
  clear HST
  have HX := Lib.hid hS
  clear hS
  by_cases hlt : i < l.length
  case neg =>
   obtain rfl : i = l.length := by omega
   rw [List.take_length]
   clear hlt hik
   go_wp2_with (first | refine u0 ?_ | (refine uS ?_; clear HX; intro w HX) | (refine uA ?_; clear HX; (first | (have hq := b; clear hq; intro w b2 HX) | intro w b HX)))
   go_ret2
   exact ⟨rfl, HX.out⟩
  case pos =>
   obtain ⟨g, off, rfl⟩ := HNE.out (by intro e; have := congrArg List.length e; rw [yar' yai'] at this; simp at this; omega)
   obtain ⟨E, hE⟩ := HX.out.poolGet HV.out
   have hl := yc2' (P := Tryz.prog) (f := OpS.cells) (i := i) hE yai' sn_op hlt
   have htk : l.take (i + 1) = l.take i ++ [l[i]] := List.take_succ_eq_append_getElem hlt
   have hcn := yfg' (l.take i)
   have hti : (l.take i).length = i := by rw [List.length_take]; omega
   have q0 : decide (i < l.length) = true := decide_eq_true hlt
   obtain ⟨o, ho⟩ : ∃ o, l[i] = o := ⟨_, rfl⟩
   rw [ho] at hl htk
   have hca : yam' (l.take (i + 1)) = yam' (l.take i) + (if o.kind = 1 then 1 else 0) := by rw [htk, ycv', ydk']
   obtain ⟨kind, path, data, ver, flags⟩ := o
   simp only [OpS.cells] at hl
   dsimp only at hca
   by_cases hk : kind = 1
   ·have q1 : (kind != 1) = false := by rw [hk]; rfl
    rw [if_pos hk] at hca
    by_cases h0 : yam' (l.take i) = 0
    ·have hfi := yoz' (o := ⟨kind, path, data, ver, flags⟩) h0 hk
     rw [← htk, hti] at hfi
     rw [h0, ygj' h0]
     have HFI := Lib.hid (show _ ∧ _ from ⟨hca, hfi⟩)
     clear hE ho hfi hk hca hcn htk
     go_wp2_with (first | refine u0 ?_ | (refine uS ?_; clear HX; intro w HX) | (refine uA ?_; clear HX; (first | (have hq := b; clear hq; intro w b2 HX) | intro w b HX)) | ((with_reducible apply yau' hl); (· rfl); (· rfl); simp only [Act.put, k_a, k_b, k_c]))
     go_roundg (l.length - (i + 1))
     case rel => exact ⟨i + 1, by omega, by rw [HFI.out.1, h0]; rfl, by rw [HFI.out.2], by go_num, HX.out.drop⟩
     case measure => omega
    ·have hfi := yi0' ⟨kind, path, data, ver, flags⟩ h0
     rw [← htk] at hfi
     have HFI := Lib.hid (show _ ∧ _ from ⟨hca, hfi⟩)
     obtain ⟨cc, hcc⟩ : ∃ cc, yam' (l.take i) = cc := ⟨_, rfl⟩
     rw [hcc] at h0 HFI hcn ⊢
     have q2 : ((cc : Int) == 0) = false := by rw [beq_eq_false_iff_ne]; omega
     have q3 : cc ≤ 100000 := by have := HN.out; omega
     clear hE ho hfi hk hca hcn htk hcc
     go_wp2_with (first | refine u0 ?_ | (refine uS ?_; clear HX; intro w HX) | (refine uA ?_; clear HX; (first | (have hq := b; clear hq; intro w b2 HX) | intro w b HX)) | ((with_reducible apply yau' hl); (· rfl); (· rfl); simp only [Act.put, k_a, k_b, k_c]))
     go_roundg (l.length - (i + 1))
     case rel => exact ⟨i + 1, by omega, by rw [HFI.out.1]; go_num, by rw [HFI.out.2], by go_num, HX.out.drop⟩
     case measure => omega
   ·have q1 : (kind != 1) = true := by rw [bne_iff_ne]; exact hk
    rw [if_neg hk, Nat.add_zero] at hca
    have hfi : ydw' (l.take (i + 1)) = ydw' (l.take i) := by
     by_cases h0 : yam' (l.take i) = 0
     ·rw [ygj' h0, ygj' (by rw [hca]; exact h0)]
     ·rw [htk]; exact yi0' _ h0
    have HFI := Lib.hid (show _ ∧ _ from ⟨hca, hfi⟩)
    clear hE ho hfi hk hca hcn htk
    go_wp2_with (first | refine u0 ?_ | (refine uS ?_; clear HX; intro w HX) | (refine uA ?_; clear HX; (first | (have hq := b; clear hq; intro w b2 HX) | intro w b HX)) | ((with_reducible apply yau' hl); (· rfl); (· rfl); simp only [Act.put, k_a, k_b, k_c]))
    go_roundg (l.length - (i + 1))
    case rel => exact ⟨i + 1, by omega, by rw [HFI.out.1]; rfl, by rw [HFI.out.2], by go_num, HX.out.drop⟩
    case measure => omega
end
end Go.Proofs.YtcnkifbjlihaoaaGreatDoor

namespace Go.Av
open Go.RowKit
theorem yum' {f : Int} (h0 : 0 ≤ f) (h3 : f ≤ 3) : (bits .and .i64 f 2 != 0) = seqF f := by
 rcases (show f = 0 ∨ f = 1 ∨ f = 2 ∨ f = 3 by omega) with rfl | rfl | rfl | rfl <;> decide
end Go.Av
namespace Go.Proofs.YtcnkifbjlihaoaaGreatDoor
open Go.RowKit Go.Av
section
variable {w0 w : World} {b : Nat} {S : PartS} {P P' : List PRow} {R : List Thing} {rows : List (Value × Bs)}
def yv5' (w0 : World) (l : List Bs) (R : List Thing) (rows : List (Value × Bs)) (e : Ending) (w' : World) : Prop :=
 ∃ v, e = .returned v ∧ Sep w0 w' (ybc' 1 v (l.map sv) :: R) rows
set_option maxRecDepth 100000 in
set_option maxHeartbeats 4000000 in
theorem yss' (h : Sep w0 w R rows) (hd : DoorN w0) (o : OpS) (hp : o.path.size ≤ 100000) (h0 : 0 ≤ o.flags) (h3 : o.flags ≤ 3) :
  Calls Tryz.prog 72 #[o.val] w (yv5' w0 (ya3' o) R rows) := by
 have hsq := yum' h0 h3
 obtain ⟨ws, hws⟩ : ∃ ws, ya3' o = ws := ⟨_, rfl⟩
 rw [hws]
 have HWS := Lib.hid hws
 have HX := Lib.hid h
 clear h hws h0 h3
 obtain ⟨kind, path, data, ver, flags⟩ := o
 unfold OpS.val
 dsimp only at hp hsq ⊢
 obtain ⟨zs, hzs⟩ : ∃ z, seqF flags = z := ⟨_, rfl⟩
 rw [hzs] at hsq
 have HZS := Lib.hid hzs
 clear hzs
 have HBD := Lib.hid (show ∀ n, [sv path.data.toList].length = n * 1 → n + 1 ≤ 140737488355328 ∧ (n + 1) * 16 ≤ 140737488355328 from fun n hn => by simp at hn; omega)
 go_enter Tryz.func72, Tryz.ntmps72
 go_upto_region 2 with (first | refine u0 ?_ | (refine uS ?_; clear HX; intro w HX) | (refine uA ?_; clear HX; (first | (have hq := b; clear hq; intro w b2 HX) | intro w b HX)) | (refine uP ?_; clear HX; intro w av nv cv HX))
 have h9 := HX.out.cellRow (K := 1) (n := 1) (cs := [Value.string path]) rfl (by omega)
 replace HX := Lib.hid h9
 clear h9
 go_wp2_with (first | refine u0 ?_ | (refine uS ?_; clear HX; intro w HX) | (refine uA ?_; clear HX; (first | (have hq := b; clear hq; intro w b2 HX) | intro w b HX)) | (refine uP ?_; clear HX; intro w av nv cv HX))
 refine (ydh' path _ (hd.sep HX.out).1 (by unfold maxLen; omega)).mono ?_
 cases hpa : yap' path.data.toList with
 | none =>
  rintro e w1 ⟨rfl, hu⟩
  replace HX := Lib.hid (HX.out.keep hu)
  obtain rfl : ws = [path.data.toList] := by rw [← HWS.out]; unfold ya3'; rw [show yap' (OpS.p ⟨kind, path, data, ver, flags⟩) = none from hpa]; rfl
  clear hu hpa
  dsimp only [Option.isSome, Option.getD]
  unfold sv
  go_wp2_with (first | refine u0 ?_ | (refine uS ?_; clear HX; intro w HX) | (refine uA ?_; clear HX; (first | (have hq := b; clear hq; intro w b2 HX) | intro w b HX)) | (refine uP ?_; clear HX; intro w av nv cv HX))
  go_ret
  exact ⟨_, rfl, HX.out.cut1⟩
 | some up =>
  rintro e w1 ⟨rfl, hu⟩
  replace HX := Lib.hid (HX.out.keep hu)
  have HW2 := Lib.hid (show ws = if kind == 1 && zs then [path.data.toList, up] else [path.data.toList] by rw [← HWS.out]; unfold ya3'; rw [show yap' (OpS.p ⟨kind, path, data, ver, flags⟩) = some up from hpa, ← HZS.out]; rfl)
  clear hu hpa
  dsimp only [Option.isSome, Option.getD]
  obtain ⟨us, hus⟩ : ∃ us : ByteArray, us = ⟨up.toArray⟩ := ⟨_, rfl⟩
  have husv : sv up = .string us := by rw [hus]; rfl
  rw [husv]
  have HUS := Lib.hid husv
  clear hus husv
  obtain ⟨zk, hzk⟩ : ∃ z, (kind == 1) = z := ⟨_, rfl⟩
  rw [hzk] at HW2
  cases zk with
  | false =>
   obtain rfl : ws = [path.data.toList] := HW2.out
   go_wp2_with (first | refine u0 ?_ | (refine uS ?_; clear HX; intro w HX) | (refine uA ?_; clear HX; (first | (have hq := b; clear hq; intro w b2 HX) | intro w b HX)) | (refine uP ?_; clear HX; intro w av nv cv HX))
   go_ret
   exact ⟨_, rfl, HX.out.cut1⟩
  | true =>
   cases zs with
   | false =>
    obtain rfl : ws = [path.data.toList] := HW2.out
    go_wp2_with (first | refine u0 ?_ | (refine uS ?_; clear HX; intro w HX) | (refine uA ?_; clear HX; (first | (have hq := b; clear hq; intro w b2 HX) | intro w b HX)) | (refine uP ?_; clear HX; intro w av nv cv HX))
    go_ret
    exact ⟨_, rfl, HX.out.cut1⟩
   | true =>
    obtain rfl : ws = [path.data.toList, up] := HW2.out
    go_wp2_with (first | refine u0 ?_ | (refine uS ?_; clear HX; intro w HX) | (refine uA ?_; clear HX; (first | (have hq := b; clear hq; intro w b2 HX) | intro w b HX)) | (refine uP ?_; clear HX; intro w av nv cv HX))
    go_ret
    refine ⟨_, rfl, ?_⟩
    rw [List.map_cons, List.map_cons, List.map_nil, HUS.out]
    exact HX.out.cut1.cut1
end
end Go.Proofs.YtcnkifbjlihaoaaGreatDoor

namespace Go.Av
open Go.RowKit
def wG (g : WaitG) : Nat := if g.x.fails then 0 else yam' g.x.ops
theorem ymf' (gs : List WaitG) : yaw' (gs.map WaitG.ent) = (gs.map wG).sum := by
 unfold yaw'
 rw [List.map_map]
 rfl
theorem yoh' {a b : List Nat} (h : a.Perm b) : a.sum = b.sum := by
 induction h with
 | nil => rfl
 | cons x _ ih => rw [List.sum_cons, List.sum_cons, ih]
 | swap x y l => simp only [List.sum_cons]; omega
 | trans _ _ h1 h2 => exact h1.trans h2
end Go.Av
namespace Go.Proofs.YtcnkifbjlihaoaaGreatDoor
open Go.RowKit Go.Av
section
variable {w0 w : World} {b : Nat} {S : PartS} {P P' : List PRow} {R : List Thing} {rows : List (Value × Bs)}
def yve' (w0 : World) (mw r : Nat) (gs : List WaitG) (P : List PRow) (R : List Thing) (rows : List (Value × Bs)) (k : Nat) (v3 : Value) (w : World) : Prop :=
 ∃ left done : List WaitG, left.length = k ∧ (done ++ left).Perm gs ∧ v3 = .int .i64 ((done.map wG).sum : Nat) ∧ Sep w0 w (yfb' (.int .i64) mw r (gs.map WaitG.kv) (left.map WaitG.kv) :: yab' w0 P :: R) rows
set_option maxRecDepth 100000 in
set_option maxHeartbeats 8000000 in
theorem ypp' (h : Sep w0 w (yab' w0 P :: ycc' b S P :: R) rows) (hW : yaw' S.wait ≤ 100000) (hO : ∀ e ∈ S.wait, e.2.ops.length ≤ 100000) :
  Calls Tryz.prog 29 #[.pointer (some ⟨b, 0, none⟩)] w fun e w' => e = .returned (.int .i64 (yaw' S.wait : Nat)) ∧ Sep w0 w' (yab' w0 P :: ycc' b S P :: R) rows := by
 obtain ⟨t, lk, mw, md, mc, gs, hgs, hv, hS⟩ := yd4' h.up1
 rw [← hgs] at hW hO
 have HG := Lib.hid (show _ ∧ _ ∧ _ ∧ _ from ⟨hgs, hv, hW, hO⟩)
 obtain ⟨R', hR'⟩ : ∃ R', yaq' t S.t P :: ThLk lk S.held :: yay' (.int .i64) md (S.decided.map ikv) :: yay' (.int .i64) mc (S.closed.map ikv) :: R = R' := ⟨_, rfl⟩
 have HRR := Lib.hid hR'
 have h1 : Sep w0 w (yay' (.int .i64) mw (gs.map WaitG.kv) :: yab' w0 P :: yac' b (.cells (ybg' S.t.room t lk S.zxid mw md mc) 123 (0, 0)) :: R') rows := by
  rw [← hR']
  exact hS.pm 7 [3, 6, 0, 1, 2, 4, 5] rfl rfl
 have HX := Lib.hid h1
 clear h hgs hv hS hR' h1 hW hO
 go_enter Tryz.func29, Tryz.ntmps29
 go_upto_region 2 with (first | refine u0 ?_ | (refine uS ?_; clear HX; intro w HX) | (refine uA ?_; clear HX; (first | (have hq := b; clear hq; intro w b2 HX) | intro w b HX)))
 obtain ⟨r, w9, hrun, h9⟩ := yhb' (P := Tryz.prog) HX.out Tryz.underlying120
 have HST := Lib.hid (show yve' w0 mw r gs P (yac' b (.cells (ybg' S.t.room t lk S.zxid mw md mc) 123 (0, 0)) :: R') rows gs.length (.int .i64 (0 : Int)) w9 from ⟨gs, [], rfl, by simp, rfl, h9⟩)
 go_wp2_with (first | refine u0 ?_ | (refine uS ?_; clear HX; intro w HX) | (refine uA ?_; clear HX; (first | (have hq := b; clear hq; intro w b2 HX) | intro w b HX)))
 clear HX hrun h9
 go_loopg [3, 5, 6, 7] gs.length (fun k v3 _ _ _ wr => yve' w0 mw r gs P (yac' b (.cells (ybg' S.t.room t lk S.zxid mw md mc) 123 (0, 0)) :: R') rows k v3 wr)
 case atStart => exact HST.out
 case round =>
  obtain ⟨left, done, hk, hpm, rfl, hS⟩ := hrel
  clear HST
  rcases yj2' (P := Tryz.prog) WaitG.kv hS with ⟨rfl, hn⟩ | ⟨l1, g, l2, w1, rfl, hn, h1, hen⟩
  ·have HX := Lib.hid hS
   have HT := Lib.hid (show (done.map wG).sum = yaw' S.wait by rw [← HG.out.1, ymf']; exact yoh' ((by simpa using hpm : done.Perm gs).map wG))
   clear hS hk hpm
   go_wp2_with (first | refine u0 ?_ | (refine uS ?_; clear HX; intro w HX) | (refine uA ?_; clear HX; (first | (have hq := b; clear hq; intro w b2 HX) | intro w b HX)))
   go_ret
   have h5 := yfe' HX.out
   rw [← HRR.out] at h5
   refine ⟨by rw [HT.out]; rfl, ?_⟩
   exact (ycx' (b := b) (t := t) (lk := lk) (mw := mw) (md := md) (mc := mc) (gs := gs) (S := S) (R := yab' w0 P :: R) (h5.pm 7 [2, 3, 4, 0, 5, 6, 1] rfl rfl) HG.out.1 HG.out.2.1).up1
  ·have hg : g ∈ gs := hpm.mem_iff.1 (by simp)
   have hgv := HG.out.2.1 g hg
   obtain ⟨E, hE⟩ := h1.up1.poolGet hgv
   obtain ⟨ga, gn, gc, hvs, -⟩ := ReadRow.some hE
   have htot : ((done ++ (l1 ++ g :: l2)).map wG).sum = yaw' (gs.map WaitG.ent) := by rw [ymf']; exact yoh' (hpm.map wG)
   have hbd : (done.map wG).sum + wG g ≤ 100000 := by
    have := HG.out.2.2.1
    rw [← htot] at this
    simp only [List.map_append, List.map_cons, List.sum_append, List.sum_cons] at this
    omega
   have hol := HG.out.2.2.2 g.ent (List.mem_map_of_mem hg)
   have HF := Lib.hid (show _ ∧ _ from ⟨hk, (show (done ++ [g] ++ (l1 ++ l2)).Perm gs from List.Perm.trans (by simp only [List.append_assoc]; refine List.Perm.append_left _ ?_; rw [List.singleton_append]; exact List.perm_middle.symm) hpm)⟩)
   have HS := Lib.hid (show ((done ++ [g]).map wG).sum = (done.map wG).sum + wG g by simp)
   have HX := Lib.hid h1
   clear hS h1 hk hpm hg hE htot
   obtain ⟨id, ⟨gs1, gops, gcl, gfa⟩, gv⟩ := g
   dsimp only [WaitG.kv, WaitG.ent] at hn hen hgv hvs hol HX
   subst hvs
   have HGV := Lib.hid (show _ ∧ _ from ⟨hgv, hol⟩)
   obtain ⟨sd, hsd⟩ : ∃ sd, (done.map wG).sum = sd := ⟨_, rfl⟩
   rw [hsd] at HS hbd ⊢
   clear hgv hol hsd
   cases gfa with
   | true =>
    go_wp2_with (first | refine u0 ?_ | (refine uS ?_; clear HX; intro w HX) | (refine uA ?_; clear HX; (first | (have hq := b; clear hq; intro w b2 HX) | intro w b HX)))
    go_roundg (l1 ++ l2).length
    case rel =>
     refine ⟨l1 ++ l2, _, rfl, HF.out.2, by rw [HS.out]; rfl, HX.out.drop⟩
    case measure =>
     have := HF.out.1
     simp at this ⊢; omega
   | false =>
    have hb2 : sd + yam' gops ≤ 100000 := hbd
    clear hbd
    go_wp2_with (first | refine u0 ?_ | (refine uS ?_; clear HX; intro w HX) | (refine uA ?_; clear HX; (first | (have hq := b; clear hq; intro w b2 HX) | intro w b HX)))
    refine (yho' HX.out.up2 gops _ HGV.out.1 HGV.out.2).mono ?_
    rintro e w ⟨rfl, hx⟩
    replace HX := Lib.hid hx
    clear hx
    obtain ⟨cc, hcc⟩ : ∃ cc, yam' gops = cc := ⟨_, rfl⟩
    rw [hcc] at hb2 ⊢
    have HCC := Lib.hid hcc
    clear hcc
    go_wp2_with (first | refine u0 ?_ | (refine uS ?_; clear HX; intro w HX) | (refine uA ?_; clear HX; (first | (have hq := b; clear hq; intro w b2 HX) | intro w b HX)))
    go_roundg (l1 ++ l2).length
    case rel =>
     refine ⟨l1 ++ l2, _, rfl, HF.out.2, by rw [HS.out, show wG ⟨id, ⟨gs1, gops, gcl, false⟩, .slice ga gn gc⟩ = cc from HCC.out]; go_num, HX.out.cut1.up1⟩
    case measure =>
     have := HF.out.1
     simp at this ⊢; omega
def yu4' (w0 : World) (mw r : Nat) (gs : List WaitG) (f : Int × WaitS → Bool) (R : List Thing) (rows : List (Value × Bs)) (k : Nat) (w : World) : Prop :=
 ∃ left : List WaitG, left.length = k ∧ (∀ g ∈ left, g ∈ gs) ∧ (∀ g ∈ gs, g ∈ left ∨ f g.ent = false) ∧ Sep w0 w (yfb' (.int .i64) mw r (gs.map WaitG.kv) (left.map WaitG.kv) :: R) rows
set_option maxRecDepth 100000 in
set_option maxHeartbeats 8000000 in
theorem ymm' (h : Sep w0 w (yab' w0 P :: ycc' b S P :: R) rows) (sess : Int) :
  Calls Tryz.prog 140 #[.pointer (some ⟨b, 0, none⟩), .int .i64 sess] w fun e w' => e = .returned (.bool (yc0' S.wait sess)) ∧ Sep w0 w' (yab' w0 P :: ycc' b S P :: R) rows := by
 obtain ⟨t, lk, mw, md, mc, gs, hgs, hv, hS⟩ := yd4' h.up1
 have HG := Lib.hid (show _ ∧ _ from ⟨hgs, hv⟩)
 obtain ⟨R', hR'⟩ : ∃ R', yaq' t S.t P :: ThLk lk S.held :: yay' (.int .i64) md (S.decided.map ikv) :: yay' (.int .i64) mc (S.closed.map ikv) :: R = R' := ⟨_, rfl⟩
 have HRR := Lib.hid hR'
 have h1 : Sep w0 w (yay' (.int .i64) mw (gs.map WaitG.kv) :: yab' w0 P :: yac' b (.cells (ybg' S.t.room t lk S.zxid mw md mc) 123 (0, 0)) :: R') rows := by
  rw [← hR']
  exact hS.pm 7 [3, 6, 0, 1, 2, 4, 5] rfl rfl
 have HX := Lib.hid h1
 obtain ⟨res, hres⟩ : ∃ res, yc0' S.wait sess = res := ⟨_, rfl⟩
 rw [hres]
 have HRES := Lib.hid (show res = gs.any fun g => (fun e : Int × WaitS => e.2.close && e.2.sess == sess) g.ent by rw [← hres, ← hgs]; unfold yc0'; rw [List.any_map]; rfl)
 clear h hgs hv hS hR' h1 hres
 go_enter Tryz.func140, Tryz.ntmps140
 go_upto_region 1 with (first | refine u0 ?_ | (refine uS ?_; clear HX; intro w HX) | (refine uA ?_; clear HX; (first | (have hq := b; clear hq; intro w b2 HX) | intro w b HX)))
 obtain ⟨r, w9, hrun, h9⟩ := yhb' (P := Tryz.prog) HX.out Tryz.underlying120
 have HST := Lib.hid (show yu4' w0 mw r gs (fun e : Int × WaitS => e.2.close && e.2.sess == sess) (yab' w0 P :: yac' b (.cells (ybg' S.t.room t lk S.zxid mw md mc) 123 (0, 0)) :: R') rows gs.length w9 from ⟨gs, rfl, fun _ h => h, fun g hg => .inl hg, h9⟩)
 go_wp2_with (first | refine u0 ?_ | (refine uS ?_; clear HX; intro w HX) | (refine uA ?_; clear HX; (first | (have hq := b; clear hq; intro w b2 HX) | intro w b HX)))
 clear HX hrun h9
 go_loopg [6] gs.length (fun k _ wr => yu4' w0 mw r gs (fun e : Int × WaitS => e.2.close && e.2.sess == sess) (yab' w0 P :: yac' b (.cells (ybg' S.t.room t lk S.zxid mw md mc) 123 (0, 0)) :: R') rows k wr)
 case atStart => exact HST.out
 case round =>
  obtain ⟨left, hk, hin, hall, hS⟩ := hrel
  clear HST
  rcases yj2' (P := Tryz.prog) WaitG.kv hS with ⟨rfl, hn⟩ | ⟨l1, g, l2, w1, rfl, hn, h1, hen⟩
  ·have HX := Lib.hid hS
   obtain rfl : res = false := by
    rw [HRES.out, List.any_eq_false]
    intro g hg
    rcases hall g hg with h | h
    ·cases h
    ·exact fun hh => Bool.false_ne_true (h.symm.trans hh)
   clear hS hk hin hall
   go_wp2_with (first | refine u0 ?_ | (refine uS ?_; clear HX; intro w HX) | (refine uA ?_; clear HX; (first | (have hq := b; clear hq; intro w b2 HX) | intro w b HX)))
   go_ret
   have h5 := yfe' HX.out
   rw [← HRR.out] at h5
   refine ⟨rfl, ?_⟩
   exact (ycx' (b := b) (t := t) (lk := lk) (mw := mw) (md := md) (mc := mc) (gs := gs) (S := S) (R := yab' w0 P :: R) (h5.pm 7 [2, 3, 4, 0, 5, 6, 1] rfl rfl) HG.out.1 HG.out.2).up1
  ·have hg := hin g (by simp)
   obtain ⟨E, hE⟩ := h1.up1.poolGet (HG.out.2 g hg)
   obtain ⟨ga, gn, gc, hvs, -⟩ := ReadRow.some hE
   have HF := Lib.hid (show _ ∧ _ ∧ _ from ⟨hk, hin, hall⟩)
   have HR := Lib.hid (show (fun e : Int × WaitS => e.2.close && e.2.sess == sess) g.ent = true → res = true from fun hf => by rw [HRES.out]; exact List.any_eq_true.2 ⟨g, hg, hf⟩)
   have HX := Lib.hid h1
   clear hS h1 hk hin hall hg hE
   obtain ⟨id, ⟨gs1, gops, gcl, gfa⟩, gv⟩ := g
   dsimp only [WaitG.kv, WaitG.ent] at hn hen hvs HX HR
   subst hvs
   cases gcl with
   | false =>
    have HFE := Lib.hid (show (false && gs1 == sess) = false from rfl)
    go_wp2_with (first | refine u0 ?_ | (refine uS ?_; clear HX; intro w HX) | (refine uA ?_; clear HX; (first | (have hq := b; clear hq; intro w b2 HX) | intro w b HX)))
    go_roundg (l1 ++ l2).length
    case rel =>
     obtain ⟨hk, hin, hall⟩ := HF.out
     refine ⟨l1 ++ l2, rfl, fun x hx => hin x ?_, fun x hx => ?_, HX.out.drop⟩
     ·rcases List.mem_append.1 hx with h | h <;> simp [h]
     ·rcases hall x hx with h | h
      ·rcases List.mem_append.1 h with h | h
       ·exact .inl (List.mem_append_left _ h)
       ·rcases List.mem_cons.1 h with rfl | h
        ·exact .inr HFE.out
        ·exact .inl (List.mem_append_right _ h)
      ·exact .inr h
    case measure =>
     obtain ⟨hk, hin, hall⟩ := HF.out
     simp at hk ⊢; omega
   | true =>
    by_cases hs : gs1 = sess
    ·have q1 : (gs1 == sess) = true := by rw [hs]; exact beq_self_eq_true _
     have HFE := Lib.hid (show (true && gs1 == sess) = true by rw [q1]; rfl)
     obtain rfl : res = true := HR.out HFE.out
     go_wp2_with (first | refine u0 ?_ | (refine uS ?_; clear HX; intro w HX) | (refine uA ?_; clear HX; (first | (have hq := b; clear hq; intro w b2 HX) | intro w b HX)))
     go_ret
     replace HX := Lib.hid HX.out.drop
     have h5 := yfe' HX.out
     rw [← HRR.out] at h5
     refine ⟨rfl, ?_⟩
     exact (ycx' (b := b) (t := t) (lk := lk) (mw := mw) (md := md) (mc := mc) (gs := gs) (S := S) (R := yab' w0 P :: R) (h5.pm 7 [2, 3, 4, 0, 5, 6, 1] rfl rfl) HG.out.1 HG.out.2).up1
    ·have q1 : (gs1 == sess) = false := by rw [beq_eq_false_iff_ne]; exact hs
     have HFE := Lib.hid (show (true && gs1 == sess) = false by rw [q1]; rfl)
     go_wp2_with (first | refine u0 ?_ | (refine uS ?_; clear HX; intro w HX) | (refine uA ?_; clear HX; (first | (have hq := b; clear hq; intro w b2 HX) | intro w b HX)))
     go_roundg (l1 ++ l2).length
     case rel =>
      obtain ⟨hk, hin, hall⟩ := HF.out
      refine ⟨l1 ++ l2, rfl, fun x hx => hin x ?_, fun x hx => ?_, HX.out.drop⟩
      ·rcases List.mem_append.1 hx with h | h <;> simp [h]
      ·rcases hall x hx with h | h
       ·rcases List.mem_append.1 h with h | h
        ·exact .inl (List.mem_append_left _ h)
        ·rcases List.mem_cons.1 h with rfl | h
         ·exact .inr HFE.out
         ·exact .inl (List.mem_append_right _ h)
       ·exact .inr h
     case measure =>
      obtain ⟨hk, hin, hall⟩ := HF.out
      simp at hk ⊢; omega
end
end Go.Proofs.YtcnkifbjlihaoaaGreatDoor

namespace Go.Proofs.YtcnkifbjlihaoaaGreatDoor
open Go.RowKit Go.Av
section
variable {w0 w : World} {b : Nat} {S : PartS} {P P' : List PRow} {R : List Thing} {rows : List (Value × Bs)}
abbrev yhl' (b b4 b5 : Nat) (id : Int) (S : PartS) (P : List PRow) (R : List Thing) : List Thing := yac' b5 (.cells #[.int .i64 id] 2 (0, 0)) :: yac' b4 (.cells #[.pointer (some ⟨b, 0, none⟩)] 24 (0, 0)) :: ycc' b S P :: R
set_option maxRecDepth 100000 in
set_option maxHeartbeats 4000000 in
theorem ywa' {b4 b5 : Nat} {id : Int} (h : Sep w0 w (yhl' b b4 b5 id S P R) rows) (hd : DoorN w0) (p : ByteArray) (hp : p.size ≤ 100000) (hH : ∀ e ∈ S.held, e.1.length ≤ 100000) :
  Calls Tryz.prog 142 #[.string p, .pointer (some ⟨b4, 0, none⟩), .pointer (some ⟨b5, 0, none⟩)] w fun e w' => e = .returned (.bool (ybn' S.held id p.data.toList)) ∧ Sep w0 w' (yhl' b b4 b5 id S P R) rows := by
 obtain ⟨t, lk, mw, md, mc, gs, h1, h2, hS⟩ := yd4' h.up2
 have HG := Lib.hid (show _ ∧ _ from ⟨h1, h2⟩)
 obtain ⟨R', hR'⟩ : ∃ R', yaq' t S.t P :: yay' (.int .i64) mw (gs.map WaitG.kv) :: yay' (.int .i64) md (S.decided.map ikv) :: yay' (.int .i64) mc (S.closed.map ikv) :: R = R' := ⟨_, rfl⟩
 have h3 : Sep w0 w (ThLk lk S.held :: yac' b5 (.cells #[.int .i64 id] 2 (0, 0)) :: yac' b4 (.cells #[.pointer (some ⟨b, 0, none⟩)] 24 (0, 0)) :: yac' b (.cells (ybg' S.t.room t lk S.zxid mw md mc) 123 (0, 0)) :: R') rows := by
  rw [← hR']
  exact hS.pm 8 [2, 6, 7, 0, 1, 3, 4, 5] rfl rfl
 have HRR := Lib.hid hR'
 have HX := Lib.hid h3
 clear h h1 h2 hS h3 hR'
 go_enter Tryz.func142, Tryz.ntmps142
 go_wp2_with (first | refine u0 ?_ | (refine uS ?_; clear HX; intro w HX) | (refine uA ?_; clear HX; (first | (have hq := b5; clear hq; intro w b6 HX) | (have hq := b4; clear hq; intro w b5 HX) | (have hq := b3; clear hq; intro w b4 HX) | (have hq := b2; clear hq; intro w b3 HX) | (have hq := b; clear hq; intro w b2 HX) | intro w b HX)))
 refine rM (fun W => Sep w0 W (ThLk lk S.held :: yac' b5 (.cells #[.int .i64 id] 2 (0, 0)) :: yac' b4 (.cells #[.pointer (some ⟨b, 0, none⟩)] 24 (0, 0)) :: yac' b (.cells (ybg' S.t.room t lk S.zxid mw md mc) 123 (0, 0)) :: R') rows) 7 ?_
 intro KEEPX
 replace HX := Lib.hid HX.out.drew
 refine rT [(0, true), (1, false), (2, false), (3, true), (4, true), (5, false)] 2 ?_
 apply Exists.intro; refine ⟨?_, HX.out, ?_⟩
 ·iterate 6 (refine xE ?_)
  exact rfl
 refine r1 1 6 fun K hK => ?_
 go_wp2_with fail
 refine (yop' HX.out hd id p hp hH).mono ?_
 rintro e w ⟨rfl, hx⟩
 replace HX := Lib.hid hx
 clear hx
 go_wp2_with fail
 refine hK _ _ HX.out ?_
 clear hK
 refine rL [7] 0 ?_
 simp only [List.filterMap_cons, List.filterMap_nil, k_i, k_j, k_k]
 go_wp2_with fail
 go_ret
 have h5 := HX.out
 rw [← HRR.out] at h5
 exact ⟨rfl, (ycx' (b := b) (t := t) (lk := lk) (mw := mw) (md := md) (mc := mc) (gs := gs) (S := S) (R := yac' b5 _ :: yac' b4 _ :: R) (h5.pm 8 [3, 4, 0, 5, 6, 7, 1, 2] rfl rfl) HG.out.1 HG.out.2).pm 3 [1, 2, 0] rfl rfl⟩
abbrev cloV (b4 b5 : Nat) : Value := .func (.func 142) #[] #[.pointer (some ⟨b4, 0, none⟩), .pointer (some ⟨b5, 0, none⟩)]
def yvv' (w0 : World) (R : List Thing) (rows : List (Value × Bs)) (z : Bool) (e : Ending) (w' : World) : Prop :=
 ∃ r : Int, e = .returned (.int .i64 r) ∧ decide (0 ≤ r) = z ∧ Sep w0 w' R rows
set_option maxRecDepth 100000 in
set_option maxHeartbeats 2000000 in
theorem yo3' {b4 b5 : Nat} {id : Int} (h : Sep w0 w (yab' w0 P :: yhl' b b4 b5 id S P R) rows) (hd : DoorN w0) (ws : List Bs) (v : Value) (hv : (1, v, ws.map sv) ∈ P) (hp : ∀ p ∈ ws, p.length ≤ 100000) (hH : ∀ e ∈ S.held, e.1.length ≤ 100000) (hn : ws.length ≤ 100000) :
  Calls Tryz.prog 179 #[v, cloV b4 b5] w (yvv' w0 (yab' w0 P :: yhl' b b4 b5 id S P R) rows (ws.any fun p => ybn' S.held id p)) := by
 obtain ⟨E, hE⟩ := h.poolGet hv
 obtain ⟨a, n, c, rfl, hl0, -, -, hne⟩ := ReadRow.some hE
 rw [List.length_map, Nat.mul_one] at hl0
 subst hl0
 have HNE := Lib.hid hne
 have HV := Lib.hid (show _ ∧ _ from ⟨hv, hp⟩)
 have HX := Lib.hid h
 clear h hE hne hv hp
 go_enter Tryz.func179, Tryz.ntmps179
 go_wp2_with (first | refine u0 ?_ | (refine uS ?_; clear HX; intro w HX) | (refine uA ?_; clear HX; (first | (have hq := b5; clear hq; intro w b6 HX) | (have hq := b4; clear hq; intro w b5 HX) | (have hq := b3; clear hq; intro w b4 HX) | (have hq := b2; clear hq; intro w b3 HX) | (have hq := b; clear hq; intro w b2 HX) | intro w b HX)))
 go_loopg [5, 8] ws.length (fun k _ v wr => ∃ i : Nat, i + k = ws.length ∧ v = .int .i64 (i : Int) ∧ (∀ p ∈ ws.take i, ybn' S.held id p = false) ∧ Sep w0 wr (yab' w0 P :: yhl' b b4 b5 id S P R) rows)
 case atStart => exact ⟨0, by simp, rfl, by simp, HX.out⟩
 case round =>
  rename World => w
  obtain ⟨i, hik, rfl, hno, hS⟩ := hrel
  replace HX := Lib.hid hS
  have HNO := Lib.hid hno
  clear hS hno
  by_cases hlt : i < ws.length
  case neg =>
   obtain rfl : i = ws.length := by omega
   clear hlt hik
   go_wp2_with (first | refine u0 ?_ | (refine uS ?_; clear HX; intro w HX) | (refine uA ?_; clear HX; (first | (have hq := b5; clear hq; intro w b6 HX) | (have hq := b4; clear hq; intro w b5 HX) | (have hq := b3; clear hq; intro w b4 HX) | (have hq := b2; clear hq; intro w b3 HX) | (have hq := b; clear hq; intro w b2 HX) | intro w b HX)))
   go_ret
   have h1 := HNO.out
   rw [List.take_length] at h1
   exact ⟨-1, rfl, by rw [List.any_eq_false.2 fun o ho => by simp [h1 o ho]]; rfl, HX.out⟩
  case pos =>
   obtain ⟨g, off, rfl⟩ := HNE.out (by intro e; rw [List.map_eq_nil_iff] at e; rw [e] at hlt; simp at hlt)
   obtain ⟨E, hE⟩ := HX.out.poolGet HV.out.1
   have hl := yee' (P := Tryz.prog) (ty := 9) (i := i) (v := sv ws[i]) hE (by kernel_rfl) (by simp [hlt])
   have HTK := Lib.hid (show ws.take (i + 1) = ws.take i ++ [ws[i]] from List.take_succ_eq_append_getElem hlt)
   have HIN := Lib.hid (show ws[i] ∈ ws from List.getElem_mem hlt)
   obtain ⟨p, hp⟩ : ∃ p, ws[i] = p := ⟨_, rfl⟩
   rw [hp] at hl HTK HIN
   have HPS := Lib.hid (HV.out.2 p HIN.out)
   have q0 : decide (i < ws.length) = true := decide_eq_true hlt
   unfold sv at hl
   clear hE hp
   go_wp2_with (first | refine u0 ?_ | (refine uS ?_; clear HX; intro w HX) | (refine uA ?_; clear HX; (first | (have hq := b5; clear hq; intro w b6 HX) | (have hq := b4; clear hq; intro w b5 HX) | (have hq := b3; clear hq; intro w b4 HX) | (have hq := b2; clear hq; intro w b3 HX) | (have hq := b; clear hq; intro w b2 HX) | intro w b HX)) | ((with_reducible apply yau' hl); (· rfl); (· rfl); simp only [Act.put, k_a, k_b, k_c]))
   refine (ywa' (HX.out.pm 4 [1, 2, 3, 0] rfl rfl : Sep w0 _ (yhl' b b4 b5 id S P (yab' w0 P :: R)) rows) hd ⟨p.toArray⟩ (by show p.toArray.size ≤ _; rw [List.size_toArray]; exact HPS.out) hH).mono ?_
   have e1 : (⟨p.toArray⟩ : ByteArray).data.toList = p := rfl
   rw [e1]
   obtain ⟨z, hz⟩ : ∃ z, ybn' S.held id p = z := ⟨_, rfl⟩
   rw [hz]
   rintro e w ⟨rfl, hx⟩
   clear HX hl e1
   have HX := Lib.hid (show Sep w0 w (yab' w0 P :: yhl' b b4 b5 id S P R) rows from hx.pm 4 [3, 0, 1, 2] rfl rfl)
   have HZ := Lib.hid hz
   clear hx hz
   cases z with
   | true =>
    go_wp2_with (first | refine u0 ?_ | (refine uS ?_; clear HX; intro w HX) | (refine uA ?_; clear HX; (first | (have hq := b5; clear hq; intro w b6 HX) | (have hq := b4; clear hq; intro w b5 HX) | (have hq := b3; clear hq; intro w b4 HX) | (have hq := b2; clear hq; intro w b3 HX) | (have hq := b; clear hq; intro w b2 HX) | intro w b HX)))
    go_ret
    refine ⟨(i : Int), rfl, ?_, HX.out⟩
    rw [List.any_eq_true.2 ⟨p, HIN.out, HZ.out⟩]
    exact decide_eq_true (by omega)
   | false =>
    go_wp2_with (first | refine u0 ?_ | (refine uS ?_; clear HX; intro w HX) | (refine uA ?_; clear HX; (first | (have hq := b5; clear hq; intro w b6 HX) | (have hq := b4; clear hq; intro w b5 HX) | (have hq := b3; clear hq; intro w b4 HX) | (have hq := b2; clear hq; intro w b3 HX) | (have hq := b; clear hq; intro w b2 HX) | intro w b HX)))
    go_roundg (ws.length - (i + 1))
    case rel => exact ⟨i + 1, by omega, by go_num, by
     rw [HTK.out]
     intro q hq
     rcases List.mem_append.1 hq with hq | hq
     ·exact HNO.out q hq
     ·rw [List.mem_singleton] at hq; rw [hq]; exact HZ.out, HX.out⟩
    case measure => omega
set_option maxRecDepth 100000 in
theorem ymo' {b4 b5 : Nat} {id : Int} (h : Sep w0 w (yab' w0 P :: yhl' b b4 b5 id S P R) rows) (hd : DoorN w0) (ws : List Bs) (v : Value) (hv : (1, v, ws.map sv) ∈ P) (hp : ∀ p ∈ ws, p.length ≤ 100000) (hH : ∀ e ∈ S.held, e.1.length ≤ 100000) (hn : ws.length ≤ 100000) :
  Calls Tryz.prog 141 #[v, cloV b4 b5] w fun e w' => e = .returned (.bool (ws.any fun p => ybn' S.held id p)) ∧ Sep w0 w' (yab' w0 P :: yhl' b b4 b5 id S P R) rows := by
 have HC := Lib.hid (yo3' h hd ws v hv hp hH hn)
 clear h hv hn hp
 obtain ⟨z, hz⟩ : ∃ z, (ws.any fun p => ybn' S.held id p) = z := ⟨_, rfl⟩
 rw [hz] at HC ⊢
 clear hz
 go_enter Tryz.func141, Tryz.ntmps141
 go_wp2_with fail
 refine HC.out.mono ?_
 rintro e w ⟨r, rfl, hr, hS⟩
 have HX := Lib.hid hS
 clear hS HC
 go_wp2_with fail
 go_ret
 refine ⟨?_, HX.out⟩
 rw [← hr]
 rfl
theorem yt4' {d : List Int} {m : Nat} (h : Sep w0 w (yay' (.int .i64) m (d.map ikv) :: R) rows) (i : Int) : (Instr.lookup 121 (.map (some m)) (.int .i64 i) false).run Tryz.prog w = .ok (.bool (decide (i ∈ d))) w := by
 have hM := h.mapIs
 by_cases hi : i ∈ d
 ·rw [decide_eq_true hi]
  exact yh3' hM Tryz.underlying121 Tryz.underlying2 (key := .int .i64 i) (by first | trivial | rfl | exact ⟨_, rfl⟩) (List.mem_map.2 ⟨i, hi, rfl⟩) false
 ·rw [decide_eq_false hi]
  refine yhd' hM Tryz.underlying121 Tryz.underlying2 (key := .int .i64 i) (by first | trivial | rfl | exact ⟨_, rfl⟩) (fun q hq e => ?_) (by kernel_rfl) false
  obtain ⟨j, hj, rfl⟩ := List.mem_map.1 hq
  simp only [ikv, Value.int.injEq, true_and] at e
  exact hi (e ▸ hj)
end
end Go.Proofs.YtcnkifbjlihaoaaGreatDoor

namespace Go.Av
theorem yku' {H : ybz'} {id : Int} {ops : List OpS} (h : ∀ o ∈ ops, ((ya3' o).any fun p => ybn' H id p) = false) : yeh' H id ops = none := by
 unfold yeh'
 rw [List.findIdx?_eq_none_iff]
 exact h
theorem yon' {H : ybz'} {id : Int} {ops : List OpS} {i : Nat} (hi : i < ops.length) (h : ∀ o ∈ ops.take i, ((ya3' o).any fun p => ybn' H id p) = false) (hb : ((ya3' ops[i]).any fun p => ybn' H id p) = true) : yeh' H id ops = some i := by
 unfold yeh'
 rw [List.findIdx?_eq_some_iff_getElem]
 refine ⟨hi, hb, fun j hj => ?_⟩
 have := h ops[j] (List.mem_iff_getElem.2 ⟨j, by rw [List.length_take]; omega, by rw [List.getElem_take]⟩)
 rw [this]
 exact Bool.false_ne_true
theorem ysu' (o : OpS) {K : Nat} (h : o.p.length ≤ K) (hK : 200 ≤ K) : ∀ p ∈ ya3' o, p.length ≤ K := by
 intro p hp
 unfold ya3' at hp
 split at hp
 ·rw [List.mem_singleton] at hp; rw [hp]; exact h
 ·rename_i up hu
  have hup := yi5' hu
  split at hp
  ·rcases List.mem_cons.1 hp with rfl | hp
   ·exact h
   ·rw [List.mem_singleton] at hp; rw [hp]; omega
  ·rw [List.mem_singleton] at hp; rw [hp]; exact h
theorem yst' (o : OpS) : (ya3' o).length ≤ 100000 := by
 unfold ya3'
 split
 ·simp
 ·split <;> simp
theorem yml' {S : PartS} {id sess : Int} {ops : List OpS} (h : sess ∈ S.closed) : yd8' S id sess ops = (11, -1) := by unfold yd8'; rw [if_pos h]
theorem ykv' {S : PartS} {id sess : Int} {ops : List OpS} (h : ¬ sess ∈ S.closed) (h2 : yc0' S.wait sess = true) : yd8' S id sess ops = (12, -1) := by unfold yd8'; rw [if_neg h, if_pos h2]
theorem yoq' {S : PartS} {id sess : Int} {ops : List OpS} (h : ¬ sess ∈ S.closed) (h2 : yc0' S.wait sess = false) {i : Nat} (h3 : yeh' S.held id ops = some i) : yd8' S id sess ops = (12, (i : Int)) := by
 unfold yd8'; rw [if_neg h, if_neg (by rw [h2]; exact Bool.false_ne_true), h3]
theorem yp5' {S : PartS} {id sess : Int} {ops : List OpS} (h : ¬ sess ∈ S.closed) (h2 : yc0' S.wait sess = false) (h3 : yeh' S.held id ops = none) :
  yd8' S id sess ops = if 0 < yam' ops ∧ 0 < yaw' S.wait ∧ S.t.room < yaw' S.wait + S.t.l.length + yam' ops then (12, (ydw' ops : Int)) else (0, -1) := by
 unfold yd8'; rw [if_neg h, if_neg (by rw [h2]; exact Bool.false_ne_true), h3]
end Go.Av
namespace Go.Proofs.YtcnkifbjlihaoaaGreatDoor
open Go.RowKit Go.Av
section
variable {w0 w : World} {b : Nat} {S : PartS} {P P' : List PRow} {R : List Thing} {rows : List (Value × Bs)}
def yvu' (w0 : World) (b : Nat) (S : PartS) (P : List PRow) (R : List Thing) (rows : List (Value × Bs)) (r : Int × Int) (e : Ending) (w' : World) : Prop :=
 ∃ P', e = .returned (.tuple #[.int .i64 r.1, .int .i64 r.2]) ∧ (∀ q ∈ P, q ∈ P') ∧ Sep w0 w' (yab' w0 P' :: ycc' b S P' :: R) rows
def yu6' (w0 : World) (b b2 b3 : Nat) (id : Int) (ops : List OpS) (S : PartS) (P : List PRow) (R : List Thing) (rows : List (Value × Bs)) (k : Nat) (v : Value) (w : World) : Prop :=
 ∃ (i : Nat) (P' : List PRow), i + k = ops.length ∧ v = .int .i64 (i : Int) ∧ (∀ q ∈ P, q ∈ P') ∧ (∀ o ∈ ops.take i, ((ya3' o).any fun p => ybn' S.held id p) = false) ∧ Sep w0 w (yab' w0 P' :: yhl' b b2 b3 id S P' R) rows
set_option maxRecDepth 100000 in
set_option maxHeartbeats 8000000 in
theorem ys4' (h : Sep w0 w (yab' w0 P :: ycc' b S P :: R) rows) (hd : DoorN w0) (id sess : Int) (ops : List OpS) (v : Value) (hv : (5, v, ops.flatMap OpS.cells) ∈ P) (hg : ∀ o ∈ ops, o.path.size ≤ 100000 ∧ 0 ≤ o.flags ∧ o.flags ≤ 3) (hn : ops.length ≤ 1000)
  (hH : ∀ e ∈ S.held, e.1.length ≤ 100000) (hW : yaw' S.wait ≤ 50000) (hO : ∀ e ∈ S.wait, e.2.ops.length ≤ 100000) (hT : S.t.l.length ≤ 500 ∧ S.t.room ≤ 500) :
  Calls Tryz.prog 62 #[.pointer (some ⟨b, 0, none⟩), .int .i64 id, .int .i64 sess, v] w (yvu' w0 b S P R rows (yd8' S id sess ops)) := by
 obtain ⟨E, hE⟩ := h.poolGet hv
 obtain ⟨a, n, c, rfl, hl0, -, -, hne⟩ := ReadRow.some hE
 rw [yar' yai'] at hl0
 obtain rfl : ops.length = n := by omega
 have HNE := Lib.hid hne
 have HV := Lib.hid (show _ ∧ _ ∧ _ from ⟨hv, hg, hn⟩)
 have HB := Lib.hid (show _ ∧ _ ∧ _ ∧ _ from ⟨hH, hW, hO, hT⟩)
 have HX := Lib.hid h
 obtain ⟨res, hres⟩ : ∃ res, yd8' S id sess ops = res := ⟨_, rfl⟩
 rw [hres]
 have HRES := Lib.hid hres
 clear h hE hne hv hl0 hg hH hW hO hT hres
 go_enter Tryz.func62, Tryz.ntmps62
 go_upto_region 1 with (first | refine u0 ?_ | (refine uS ?_; clear HX; intro w HX) | (refine uA ?_; clear HX; (first | (have hq := b4; clear hq; intro w b5 HX) | (have hq := b3; clear hq; intro w b4 HX) | (have hq := b2; clear hq; intro w b3 HX) | (have hq := b; clear hq; intro w b2 HX) | intro w b HX)))
 obtain ⟨t, lk, mw, md, mc, gs, hgs, hgv, hS⟩ := yd4' HX.out.up3
 have HG := Lib.hid (show _ ∧ _ from ⟨hgs, hgv⟩)
 have hk := yt4' hS.up5 sess
 obtain ⟨zc, hzc⟩ : ∃ z, decide (sess ∈ S.closed) = z := ⟨_, rfl⟩
 rw [hzc] at hk
 have HZC := Lib.hid hzc
 clear HX hgs hgv hzc
 have HX := Lib.hid hS
 clear hS
 cases zc with
 | true =>
  obtain rfl : res = (11, -1) := by rw [← HRES.out]; exact yml' (of_decide_eq_true HZC.out)
  go_wp2_with (first | refine u0 ?_ | (refine uS ?_; clear HX; intro w HX) | (refine uA ?_; clear HX; (first | (have hq := b4; clear hq; intro w b5 HX) | (have hq := b3; clear hq; intro w b4 HX) | (have hq := b2; clear hq; intro w b3 HX) | (have hq := b; clear hq; intro w b2 HX) | intro w b HX)))
  go_ret2
  exact ⟨P, rfl, fun q hq => hq, (ycx' HX.out HG.out.1 HG.out.2).pm 4 [3, 0] rfl rfl⟩
 | false =>
  have HNC := Lib.hid (of_decide_eq_false HZC.out)
  go_wp2_with (first | refine u0 ?_ | (refine uS ?_; clear HX; intro w HX) | (refine uA ?_; clear HX; (first | (have hq := b4; clear hq; intro w b5 HX) | (have hq := b3; clear hq; intro w b4 HX) | (have hq := b2; clear hq; intro w b3 HX) | (have hq := b; clear hq; intro w b2 HX) | intro w b HX)))
  have h9 := (ycx' HX.out HG.out.1 HG.out.2).up3
  clear HX hk
  have HX := Lib.hid h9
  clear h9
  refine (ymm' HX.out sess).mono ?_
  obtain ⟨z2, hz2⟩ : ∃ z, yc0' S.wait sess = z := ⟨_, rfl⟩
  rw [hz2]
  rintro e w ⟨rfl, hx⟩
  replace HX := Lib.hid hx
  have HZ2 := Lib.hid hz2
  clear hx hz2
  cases z2 with
  | true =>
   obtain rfl : res = (12, -1) := by rw [← HRES.out]; exact ykv' HNC.out HZ2.out
   go_wp2_with (first | refine u0 ?_ | (refine uS ?_; clear HX; intro w HX) | (refine uA ?_; clear HX; (first | (have hq := b4; clear hq; intro w b5 HX) | (have hq := b3; clear hq; intro w b4 HX) | (have hq := b2; clear hq; intro w b3 HX) | (have hq := b; clear hq; intro w b2 HX) | intro w b HX)))
   go_ret2
   exact ⟨P, rfl, fun q hq => hq, HX.out.pm 4 [0, 1] rfl rfl⟩
  | false =>
   go_wp2_with (first | refine u0 ?_ | (refine uS ?_; clear HX; intro w HX) | (refine uA ?_; clear HX; (first | (have hq := b4; clear hq; intro w b5 HX) | (have hq := b3; clear hq; intro w b4 HX) | (have hq := b2; clear hq; intro w b3 HX) | (have hq := b; clear hq; intro w b2 HX) | intro w b HX)))
   have HST := Lib.hid (show yu6' w0 b b2 b3 id ops S P R rows ops.length (.int .i64 (0 : Int)) w from ⟨0, P, by simp, rfl, fun q hq => hq, by simp, HX.out.pm 4 [0, 2, 3, 1] rfl rfl⟩)
   clear HX
   go_loopg [10, 11, 28] ops.length (fun k _ _ v wr => yu6' w0 b b2 b3 id ops S P R rows k v wr)
   case atStart => exact HST.out
   case round =>
    rename World => w
    obtain ⟨i, P1, hik, rfl, hP1, hno, hS⟩ := hrel
    clear HST
    have HX := Lib.hid hS
    have HP1 := Lib.hid (show _ ∧ _ from ⟨hP1, hno⟩)
    clear hS hP1 hno
    by_cases hlt : i < ops.length
    case neg =>
     obtain rfl : i = ops.length := by omega
     have hno := HP1.out.2
     rw [List.take_length] at hno
     have HRM := Lib.hid (show res = _ from HRES.out.symm.trans (yp5' HNC.out HZ2.out (yku' hno)))
     clear hno hlt hik
     go_wp2_with (first | refine u0 ?_ | (refine uS ?_; clear HX; intro w HX) | (refine uA ?_; clear HX; (first | (have hq := b4; clear hq; intro w b5 HX) | (have hq := b3; clear hq; intro w b4 HX) | (have hq := b2; clear hq; intro w b3 HX) | (have hq := b; clear hq; intro w b2 HX) | intro w b HX)))
     refine (yho' HX.out ops _ (HP1.out.1 _ HV.out.1) (by have := HV.out.2.2; omega)).mono ?_
     obtain ⟨cn, hcn⟩ : ∃ cn, yam' ops = cn := ⟨_, rfl⟩
     obtain ⟨fc, hfc⟩ : ∃ fc, ydw' ops = fc := ⟨_, rfl⟩
     rw [hcn, hfc] at HRM ⊢
     have hcb : cn ≤ 1000 := by rw [← hcn]; have h1 := yfg' ops; have h2 := HV.out.2.2; omega
     rintro e w ⟨rfl, hx⟩
     clear HX hcn hfc
     have HX := Lib.hid hx
     clear hx
     go_wp2_with (first | refine u0 ?_ | (refine uS ?_; clear HX; intro w HX) | (refine uA ?_; clear HX; (first | (have hq := b4; clear hq; intro w b5 HX) | (have hq := b3; clear hq; intro w b4 HX) | (have hq := b2; clear hq; intro w b3 HX) | (have hq := b; clear hq; intro w b2 HX) | intro w b HX)))
     refine (ypp' HX.out.up3.up1 (by have := HB.out.2.1; omega) HB.out.2.2.1).mono ?_
     obtain ⟨wn, hwn⟩ : ∃ wn, yaw' S.wait = wn := ⟨_, rfl⟩
     rw [hwn] at HRM ⊢
     have hwb : wn ≤ 50000 := by rw [← hwn]; exact HB.out.2.1
     rintro e w ⟨rfl, hx⟩
     clear HX hwn
     obtain ⟨t, lk, mw, md, mc, gs, hgs, hgv, hS⟩ := yd4' hx.up1
     have HG := Lib.hid (show _ ∧ _ from ⟨hgs, hgv⟩)
     obtain ⟨R', hR'⟩ : ∃ R', ThLk lk S.held :: yay' (.int .i64) mw (gs.map WaitG.kv) :: yay' (.int .i64) md (S.decided.map ikv) :: yay' (.int .i64) mc (S.closed.map ikv) :: yab' w0 P1 :: yac' b3 (.cells #[.int .i64 id] 2 (0, 0)) :: R = R' := ⟨_, rfl⟩
     have h3 : Sep w0 w (yaq' t S.t P1 :: yac' b (.cells (ybg' S.t.room t lk S.zxid mw md mc) 123 (0, 0)) :: yac' b2 (.cells #[.pointer (some ⟨b, 0, none⟩)] 24 (0, 0)) :: R') rows := by
      rw [← hR']
      exact hS.pm 9 [1, 0, 8, 2, 3, 4, 5, 6, 7] rfl rfl
     have HRR := Lib.hid hR'
     have HX := Lib.hid h3
     have hlb := HB.out.2.2.2.1
     have HFIN := Lib.hid (show ∀ w', Sep w0 w' (yaq' t S.t P1 :: yac' b (.cells (ybg' S.t.room t lk S.zxid mw md mc) 123 (0, 0)) :: yac' b2 (.cells #[.pointer (some ⟨b, 0, none⟩)] 24 (0, 0)) :: R') rows → Sep w0 w' (yab' w0 P1 :: ycc' b S P1 :: R) rows from fun w' h5 => by
      rw [← hR'] at h5
      exact (ycx' (b := b) (t := t) (lk := lk) (mw := mw) (md := md) (mc := mc) (gs := gs) (S := S) (R := yab' w0 P1 :: R) (h5.pm 9 [1, 0, 3, 4, 5, 6, 7] rfl rfl) hgs hgv).up1)
     clear hx hgs hgv hS hR' h3
     go_wp2_with (first | refine u0 ?_ | (refine uS ?_; clear HX; intro w HX) | (refine uA ?_; clear HX; (first | (have hq := b4; clear hq; intro w b5 HX) | (have hq := b3; clear hq; intro w b4 HX) | (have hq := b2; clear hq; intro w b3 HX) | (have hq := b; clear hq; intro w b2 HX) | intro w b HX)))
     by_cases hc0 : 0 < cn
     ·by_cases hw0 : 0 < wn
      ·have hq1 : decide (0 < (cn : Int)) = true := decide_eq_true (by omega)
       have hq2 : decide (0 < (wn : Int)) = true := decide_eq_true (by omega)
       have hq3 : decide (0 < cn) = true := decide_eq_true hc0
       have hq4 : decide (0 < wn) = true := decide_eq_true hw0
       obtain ⟨ln, hln⟩ : ∃ ln, S.t.l.length = ln := ⟨_, rfl⟩
       rw [hln] at HRM hlb
       have hs1 : IntKind.i64.wrap ((wn : Int) + (ln : Int)) = (wn : Int) + (ln : Int) := IntWalk.i64_in _ (by omega)
       have hs2 : IntKind.i64.wrap ((wn : Int) + (ln : Int) + (cn : Int)) = (wn : Int) + (ln : Int) + (cn : Int) := IntWalk.i64_in _ (by omega)
       have HLN := Lib.hid hln
       clear hln
       by_cases hrm : S.t.room < (wn : Int) + (ln : Int) + (cn : Int)
       ·obtain rfl : res = (12, (fc : Int)) := by rw [HRM.out, if_pos ⟨hc0, hw0, hrm⟩]
        have hq5 : decide (S.t.room < (wn : Int) + (ln : Int) + (cn : Int)) = true := decide_eq_true hrm
        refine rM (fun W => Sep w0 W (yaq' t S.t P1 :: yac' b (.cells (ybg' S.t.room t lk S.zxid mw md mc) 123 (0, 0)) :: yac' b2 (.cells #[.pointer (some ⟨b, 0, none⟩)] 24 (0, 0)) :: R') rows) 22 ?_
        intro KEEPX
        replace HX := Lib.hid HX.out.drew
        refine rT [(0, false), (1, false), (2, false), (3, false), (4, false), (5, false), (6, false), (7, false), (8, true), (9, false), (10, false), (11, true), (14, false), (16, true), (17, false), (18, false), (19, true)] 5 ?_
        apply Exists.intro; refine ⟨?_, HX.out, ?_⟩
        ·iterate 17 (first | refine xE ?_ | ((first | apply yav' | apply yas'); (· (simp only [k_i, k_j, k_k]; try rfl)); (· rfl); (· (intros; go_simp; (try simp only [hq1, hq2, hq3, hq4, hq5, hs1, hs2, ↓reduceIte, and_self, Int.toNat_natCast]); try with_reducible rfl)); (· (simp only [Act.put, k_a, k_b, k_c, k_d, k_e, k_f, k_g, k_h, NodeS.cells, OpS.cells, ResS.cells]; try rfl))))
         exact rfl
        refine r1 4 12 fun K hK => ?_
        go_wp2_with fail
        refine (yfo' HX.out).mono ?_
        rw [HLN.out]
        rintro e w1 ⟨rfl, hu⟩
        replace HX := Lib.hid (HX.out.keep hu)
        clear hu
        go_wp2_with fail
        refine hK _ _ HX.out ?_
        clear hK
        refine rT [(13, false), (15, false), (20, false), (21, false)] 0 ?_
        apply Exists.intro; refine ⟨?_, HX.out, ?_⟩
        ·iterate 4 (first | refine xE ?_ | ((first | apply yav' | apply yas'); (· (simp only [k_i, k_j, k_k]; try rfl)); (· rfl); (· (intros; go_simp; (try simp only [hq1, hq2, hq3, hq4, hq5, hs1, hs2, ↓reduceIte, and_self, Int.toNat_natCast]); try with_reducible rfl)); (· (simp only [Act.put, k_a, k_b, k_c, k_d, k_e, k_f, k_g, k_h, NodeS.cells, OpS.cells, ResS.cells]; try rfl))))
         exact rfl
        refine yah' (by kernel_rfl) ?_ _
        go_wp2_with (first | refine u0 ?_ | (refine uS ?_; clear HX; intro w HX) | (refine uA ?_; clear HX; (first | (have hq := b4; clear hq; intro w b5 HX) | (have hq := b3; clear hq; intro w b4 HX) | (have hq := b2; clear hq; intro w b3 HX) | (have hq := b; clear hq; intro w b2 HX) | intro w b HX)))
        go_ret2
        exact ⟨P1, rfl, HP1.out.1, HFIN.out _ HX.out⟩
       ·obtain rfl : res = (0, -1) := by rw [HRM.out, if_neg (fun hh => hrm hh.2.2)]
        have hq5 : decide (S.t.room < (wn : Int) + (ln : Int) + (cn : Int)) = false := decide_eq_false hrm
        refine rM (fun W => Sep w0 W (yaq' t S.t P1 :: yac' b (.cells (ybg' S.t.room t lk S.zxid mw md mc) 123 (0, 0)) :: yac' b2 (.cells #[.pointer (some ⟨b, 0, none⟩)] 24 (0, 0)) :: R') rows) 22 ?_
        intro KEEPX
        replace HX := Lib.hid HX.out.drew
        refine rT [(0, false), (1, false), (2, false), (3, false), (4, false), (5, false), (6, false), (7, false), (8, true), (9, false), (10, false), (11, true), (14, false), (16, true), (17, false), (18, false), (19, true)] 5 ?_
        apply Exists.intro; refine ⟨?_, HX.out, ?_⟩
        ·iterate 17 (first | refine xE ?_ | ((first | apply yav' | apply yas'); (· (simp only [k_i, k_j, k_k]; try rfl)); (· rfl); (· (intros; go_simp; (try simp only [hq1, hq2, hq3, hq4, hq5, hs1, hs2, ↓reduceIte, and_self, Int.toNat_natCast]); try with_reducible rfl)); (· (simp only [Act.put, k_a, k_b, k_c, k_d, k_e, k_f, k_g, k_h, NodeS.cells, OpS.cells, ResS.cells]; try rfl))))
         exact rfl
        refine r1 4 12 fun K hK => ?_
        go_wp2_with fail
        refine (yfo' HX.out).mono ?_
        rw [HLN.out]
        rintro e w1 ⟨rfl, hu⟩
        replace HX := Lib.hid (HX.out.keep hu)
        clear hu
        go_wp2_with fail
        refine hK _ _ HX.out ?_
        clear hK
        refine rT [(13, false), (15, false), (20, false), (21, false)] 0 ?_
        apply Exists.intro; refine ⟨?_, HX.out, ?_⟩
        ·iterate 4 (first | refine xE ?_ | ((first | apply yav' | apply yas'); (· (simp only [k_i, k_j, k_k]; try rfl)); (· rfl); (· (intros; go_simp; (try simp only [hq1, hq2, hq3, hq4, hq5, hs1, hs2, ↓reduceIte, and_self, Int.toNat_natCast]); try with_reducible rfl)); (· (simp only [Act.put, k_a, k_b, k_c, k_d, k_e, k_f, k_g, k_h, NodeS.cells, OpS.cells, ResS.cells]; try rfl))))
         exact rfl
        refine yah' (by kernel_rfl) ?_ _
        go_wp2_with (first | refine u0 ?_ | (refine uS ?_; clear HX; intro w HX) | (refine uA ?_; clear HX; (first | (have hq := b4; clear hq; intro w b5 HX) | (have hq := b3; clear hq; intro w b4 HX) | (have hq := b2; clear hq; intro w b3 HX) | (have hq := b; clear hq; intro w b2 HX) | intro w b HX)))
        go_ret2
        exact ⟨P1, rfl, HP1.out.1, HFIN.out _ HX.out⟩
      ·obtain rfl : res = (0, -1) := by rw [HRM.out, if_neg (fun hh => hw0 hh.2.1)]
       have hq1 : decide (0 < (cn : Int)) = true := decide_eq_true (by omega)
       have hq2 : decide (0 < (wn : Int)) = false := decide_eq_false (by omega)
       have hq3 : decide (0 < cn) = true := decide_eq_true hc0
       have hq4 : decide (0 < wn) = false := decide_eq_false hw0
       refine rM (fun W => Sep w0 W (yaq' t S.t P1 :: yac' b (.cells (ybg' S.t.room t lk S.zxid mw md mc) 123 (0, 0)) :: yac' b2 (.cells #[.pointer (some ⟨b, 0, none⟩)] 24 (0, 0)) :: R') rows) 22 ?_
       intro KEEPX
       replace HX := Lib.hid HX.out.drew
       refine rT [(0, false), (1, false), (2, false), (3, false), (4, false), (5, false), (6, false), (7, false), (8, true), (9, false), (10, false), (11, true), (14, false), (16, true), (17, false), (18, false), (19, true)] 5 ?_
       apply Exists.intro; refine ⟨?_, HX.out, ?_⟩
       ·iterate 17 (first | refine xE ?_ | ((first | apply yav' | apply yas'); (· (simp only [k_i, k_j, k_k]; try rfl)); (· rfl); (· (intros; go_simp; (try simp only [hq1, hq2, hq3, hq4, ↓reduceIte, and_self, Int.toNat_natCast]); try with_reducible rfl)); (· (simp only [Act.put, k_a, k_b, k_c, k_d, k_e, k_f, k_g, k_h, NodeS.cells, OpS.cells, ResS.cells]; try rfl))))
        exact rfl
       apply yb7' (fuel := 4) (i := 12)
       ·kernel_rfl
       ·simp only [k_i, k_j, k_k]; try rfl
       ·rfl
       ·simp only [Act.put, k_a, k_b, k_c]; try rfl
       ·exact HX.out
       refine rT [(13, false), (15, false), (20, false), (21, false)] 0 ?_
       apply Exists.intro; refine ⟨?_, HX.out, ?_⟩
       ·iterate 4 (first | refine xE ?_ | ((first | apply yav' | apply yas'); (· (simp only [k_i, k_j, k_k]; try rfl)); (· rfl); (· (intros; go_simp; (try simp only [hq1, hq2, hq3, hq4, ↓reduceIte, and_self, Int.toNat_natCast]); try with_reducible rfl)); (· (simp only [Act.put, k_a, k_b, k_c, k_d, k_e, k_f, k_g, k_h, NodeS.cells, OpS.cells, ResS.cells]; try rfl))))
        exact rfl
       refine yah' (by kernel_rfl) ?_ _
       go_wp2_with (first | refine u0 ?_ | (refine uS ?_; clear HX; intro w HX) | (refine uA ?_; clear HX; (first | (have hq := b4; clear hq; intro w b5 HX) | (have hq := b3; clear hq; intro w b4 HX) | (have hq := b2; clear hq; intro w b3 HX) | (have hq := b; clear hq; intro w b2 HX) | intro w b HX)))
       go_ret2
       exact ⟨P1, rfl, HP1.out.1, HFIN.out _ HX.out⟩
     ·obtain rfl : res = (0, -1) := by rw [HRM.out, if_neg (fun hh => hc0 hh.1)]
      have hq1 : decide (0 < (cn : Int)) = false := decide_eq_false (by omega)
      have hq3 : decide (0 < cn) = false := decide_eq_false hc0
      refine rM (fun W => Sep w0 W (yaq' t S.t P1 :: yac' b (.cells (ybg' S.t.room t lk S.zxid mw md mc) 123 (0, 0)) :: yac' b2 (.cells #[.pointer (some ⟨b, 0, none⟩)] 24 (0, 0)) :: R') rows) 22 ?_
      intro KEEPX
      replace HX := Lib.hid HX.out.drew
      refine rT [(0, false), (1, false), (2, false), (3, false), (4, false), (5, false), (6, false), (7, false), (8, true), (9, false), (10, false), (11, true), (14, false), (16, true), (17, false), (18, false), (19, true)] 5 ?_
      apply Exists.intro; refine ⟨?_, HX.out, ?_⟩
      ·iterate 17 (first | refine xE ?_ | ((first | apply yav' | apply yas'); (· (simp only [k_i, k_j, k_k]; try rfl)); (· rfl); (· (intros; go_simp; (try simp only [hq1, hq3, ↓reduceIte, and_self, Int.toNat_natCast]); try with_reducible rfl)); (· (simp only [Act.put, k_a, k_b, k_c, k_d, k_e, k_f, k_g, k_h, NodeS.cells, OpS.cells, ResS.cells]; try rfl))))
       exact rfl
      apply yb7' (fuel := 4) (i := 12)
      ·kernel_rfl
      ·simp only [k_i, k_j, k_k]; try rfl
      ·rfl
      ·simp only [Act.put, k_a, k_b, k_c]; try rfl
      ·exact HX.out
      refine rT [(13, false), (15, false), (20, false), (21, false)] 0 ?_
      apply Exists.intro; refine ⟨?_, HX.out, ?_⟩
      ·iterate 4 (first | refine xE ?_ | ((first | apply yav' | apply yas'); (· (simp only [k_i, k_j, k_k]; try rfl)); (· rfl); (· (intros; go_simp; (try simp only [hq1, hq3, ↓reduceIte, and_self, Int.toNat_natCast]); try with_reducible rfl)); (· (simp only [Act.put, k_a, k_b, k_c, k_d, k_e, k_f, k_g, k_h, NodeS.cells, OpS.cells, ResS.cells]; try rfl))))
       exact rfl
      refine yah' (by kernel_rfl) ?_ _
      go_wp2_with (first | refine u0 ?_ | (refine uS ?_; clear HX; intro w HX) | (refine uA ?_; clear HX; (first | (have hq := b4; clear hq; intro w b5 HX) | (have hq := b3; clear hq; intro w b4 HX) | (have hq := b2; clear hq; intro w b3 HX) | (have hq := b; clear hq; intro w b2 HX) | intro w b HX)))
      go_ret2
      exact ⟨P1, rfl, HP1.out.1, HFIN.out _ HX.out⟩
    case pos =>
     obtain ⟨g, off, rfl⟩ := HNE.out (by intro e; have := congrArg List.length e; rw [yar' yai'] at this; simp at this; omega)
     obtain ⟨E, hE⟩ := HX.out.poolGet (HP1.out.1 _ HV.out.1)
     have hl := yc2' (P := Tryz.prog) (f := OpS.cells) (i := i) hE yai' sn_op hlt
     have HTK := Lib.hid (show ops.take (i + 1) = ops.take i ++ [ops[i]] from List.take_succ_eq_append_getElem hlt)
     have hbl := fun hb => yon' (H := S.held) (id := id) hlt HP1.out.2 hb
     have hgo := HV.out.2.1 ops[i] (List.getElem_mem hlt)
     obtain ⟨o, ho⟩ : ∃ o, ops[i] = o := ⟨_, rfl⟩
     rw [ho] at hl HTK hbl hgo
     have HBL := Lib.hid hbl
     have HGO := Lib.hid hgo
     have q0 : decide (i < ops.length) = true := decide_eq_true hlt
     have q9 : i ≤ 1000 := by have := HV.out.2.2; omega
     have hwl : ∀ p ∈ ya3' o, p.length ≤ 100000 := ysu' o (by show o.path.data.toList.length ≤ _; have := hgo.1; simpa using this) (by omega)
     have HWL := Lib.hid hwl
     obtain ⟨kind, path, data, ver, flags⟩ := o
     simp only [OpS.cells] at hl
     clear hE ho hbl hgo hwl
     go_wp2_with (first | refine u0 ?_ | (refine uS ?_; clear HX; intro w HX) | (refine uA ?_; clear HX; (first | (have hq := b4; clear hq; intro w b5 HX) | (have hq := b3; clear hq; intro w b4 HX) | (have hq := b2; clear hq; intro w b3 HX) | (have hq := b; clear hq; intro w b2 HX) | intro w b HX)) | ((with_reducible apply yau' hl); (· rfl); (· rfl); simp only [Act.put, k_a, k_b, k_c]))
     refine (yss' HX.out hd ⟨kind, path, data, ver, flags⟩ HGO.out.1 HGO.out.2.1 HGO.out.2.2).mono ?_
     rintro e w ⟨vw, rfl, hx⟩
     obtain ⟨wa, wn, wc, rfl, hwl, -, -⟩ := hx.rowLen
     obtain ⟨Q, hQ⟩ : ∃ Q, (1, Value.slice wa wn wc, (ya3' ⟨kind, path, data, ver, flags⟩).map sv) :: P1 = Q := ⟨_, rfl⟩
     have h9 := hx.up2.up1.poolRow
     rw [hQ] at h9
     have hsub : ∀ q ∈ P1, q ∈ Q := by rw [← hQ]; exact fun q hq => k_n _ hq
     have HQ := Lib.hid (show (1, Value.slice wa wn wc, (ya3' ⟨kind, path, data, ver, flags⟩).map sv) ∈ Q ∧ ∀ q ∈ P, q ∈ Q from ⟨by rw [← hQ]; exact k_s, fun q hq => hsub q (HP1.out.1 q hq)⟩)
     have h11 : Sep w0 w (yab' w0 Q :: yhl' b b2 b3 id S Q (yac' b4 (.cells #[.int .i64 kind, .string path, .string data, .int .i64 ver, .int .i64 flags] 89 (0, 0)) :: R)) rows := (yeo' h9.up4 hsub).pm 5 [1, 3, 4, 0, 2] rfl rfl
     clear HX hl hx h9 hQ hsub hwl
     have HX := Lib.hid h11
     clear h11
     go_wp2_with (first | refine u0 ?_ | (refine uS ?_; clear HX; intro w HX) | (refine uA ?_; clear HX; (first | (have hq := b4; clear hq; intro w b5 HX) | (have hq := b3; clear hq; intro w b4 HX) | (have hq := b2; clear hq; intro w b3 HX) | (have hq := b; clear hq; intro w b2 HX) | intro w b HX)))
     refine (ymo' HX.out hd (ya3' ⟨kind, path, data, ver, flags⟩) _ HQ.out.1 HWL.out HB.out.1 (yst' _)).mono ?_
     obtain ⟨z, hz⟩ : ∃ z, ((ya3' ⟨kind, path, data, ver, flags⟩).any fun p => ybn' S.held id p) = z := ⟨_, rfl⟩
     rw [hz]
     rintro e w ⟨rfl, hx⟩
     replace HX := Lib.hid hx
     have HZ := Lib.hid hz
     clear hx hz
     cases z with
     | true =>
      obtain rfl : res = (12, (i : Int)) := by rw [← HRES.out]; exact yoq' HNC.out HZ2.out (HBL.out HZ.out)
      go_wp2_with (first | refine u0 ?_ | (refine uS ?_; clear HX; intro w HX) | (refine uA ?_; clear HX; (first | (have hq := b4; clear hq; intro w b5 HX) | (have hq := b3; clear hq; intro w b4 HX) | (have hq := b2; clear hq; intro w b3 HX) | (have hq := b; clear hq; intro w b2 HX) | intro w b HX)))
      go_ret2
      exact ⟨Q, rfl, HQ.out.2, HX.out.pm 5 [0, 3] rfl rfl⟩
     | false =>
      go_wp2_with (first | refine u0 ?_ | (refine uS ?_; clear HX; intro w HX) | (refine uA ?_; clear HX; (first | (have hq := b4; clear hq; intro w b5 HX) | (have hq := b3; clear hq; intro w b4 HX) | (have hq := b2; clear hq; intro w b3 HX) | (have hq := b; clear hq; intro w b2 HX) | intro w b HX)))
      go_roundg (ops.length - (i + 1))
      case rel => exact ⟨i + 1, Q, by omega, by go_num, HQ.out.2, by
       rw [HTK.out]
       intro q hq
       rcases List.mem_append.1 hq with hq | hq
       ·exact HP1.out.2 q hq
       ·rw [List.mem_singleton] at hq; rw [hq]; exact HZ.out, HX.out.pm 5 [0, 1, 2, 3] rfl rfl⟩
      case measure => omega
end
end Go.Proofs.YtcnkifbjlihaoaaGreatDoor

namespace Go.Av
theorem ynp' : ∀ (x d : Bs), (∀ c ∈ d, c ≠ 47) → (cutS (x ++ d)).dropLast = (cutS x).dropLast ∧ (cutS (x ++ d)).length = (cutS x).length
 | [], d, h => by
  have h1 : (cutS d).length = 1 := by rw [ydu', List.count_eq_zero.2 (fun hh => h 47 hh rfl)]
  rw [List.nil_append]
  refine ⟨?_, h1⟩
  match hc : cutS d, h1 with
  | [y], _ => rfl
 | c :: r, d, h => by
  obtain ⟨h1, h2⟩ := ynp' r d h
  rw [List.cons_append]
  unfold cutS
  by_cases hc : c = 47
  ·rw [if_pos hc, if_pos hc]
   refine ⟨?_, by rw [List.length_cons, List.length_cons, h2]⟩
   have n1 := yc8' (r ++ d)
   have n2 := yc8' r
   rw [List.dropLast_cons_of_ne_nil n1, List.dropLast_cons_of_ne_nil n2, h1]
  ·rw [if_neg hc, if_neg hc]
   match ha : cutS (r ++ d), hb : cutS r with
   | [], _ => exact absurd ha (yc8' _)
   | _ :: _, [] => exact absurd hb (yc8' _)
   | x1 :: t1, x2 :: t2 =>
    rw [ha, hb] at h1 h2
    simp only [List.length_cons] at h2
    cases t1 with
    | nil =>
     cases t2 with
     | nil => exact ⟨rfl, rfl⟩
     | cons y t2 => simp at h2
    | cons y t1 =>
     cases t2 with
     | nil => simp at h2
     | cons z t2 =>
      simp only [List.dropLast_cons_cons] at h1 ⊢
      injection h1 with h3 h4
      rw [h3, h4]
      exact ⟨rfl, by simp at h2 ⊢; omega⟩
theorem yiy' : ∀ (k u : Nat), u < 10 ^ (k + 1) → ∀ c ∈ Lib.decDigits u, c ≠ 47
 | 0, u, h => by
  rw [Lib.decDigits, dif_pos (by simpa using h)]
  intro c hc
  rw [List.mem_singleton] at hc
  have hu : u < 10 := by simpa using h
  rcases (show u = 0 ∨ u = 1 ∨ u = 2 ∨ u = 3 ∨ u = 4 ∨ u = 5 ∨ u = 6 ∨ u = 7 ∨ u = 8 ∨ u = 9 by omega) with rfl | rfl | rfl | rfl | rfl | rfl | rfl | rfl | rfl | rfl <;> (rw [hc]; decide)
 | k + 1, u, h => by
  rw [Lib.decDigits]
  split
  ·rename_i hu
   intro c hc
   rw [List.mem_singleton] at hc
   rcases (show u = 0 ∨ u = 1 ∨ u = 2 ∨ u = 3 ∨ u = 4 ∨ u = 5 ∨ u = 6 ∨ u = 7 ∨ u = 8 ∨ u = 9 by omega) with rfl | rfl | rfl | rfl | rfl | rfl | rfl | rfl | rfl | rfl <;> (rw [hc]; decide)
  ·intro c hc
   rcases List.mem_append.1 hc with hc | hc
   ·exact yiy' k (u / 10) (by rw [Nat.pow_succ] at h; omega) c hc
   ·rw [List.mem_singleton] at hc
    have hm : u % 10 < 10 := Nat.mod_lt _ (by omega)
    rcases (show u % 10 = 0 ∨ u % 10 = 1 ∨ u % 10 = 2 ∨ u % 10 = 3 ∨ u % 10 = 4 ∨ u % 10 = 5 ∨ u % 10 = 6 ∨ u % 10 = 7 ∨ u % 10 = 8 ∨ u % 10 = 9 by omega) with e | e | e | e | e | e | e | e | e | e <;> (rw [hc, e]; decide)
theorem yt7' {n : Int} (h0 : 0 ≤ n) (h : n ≤ 2147483647) : ∀ c ∈ padD n, c ≠ 47 := by
 intro c hc
 unfold padD at hc
 rcases List.mem_append.1 hc with hc | hc
 ·rw [List.mem_replicate] at hc
  rw [hc.2]
  decide
 ·exact yiy' 9 n.toNat (by omega) c hc
theorem yfy' {p q : Bs} {n : Int} (h : yba' p n = some q) : yap' q = yap' p ∧ ya4' q = true := by
 unfold yba' at h
 split at h
 ·cases h
 ·rename_i h1
  split at h
  ·rename_i h2
   cases h
   have hg : ya4' p = true := by
    cases hh : ya4' p with
    | true => rfl
    | false => exact absurd (.inl hh) h1
   have hn : 0 ≤ n ∧ n ≤ 2147483647 := by omega
   refine ⟨?_, h2⟩
   cases p with
   | nil => cases hg
   | cons c r =>
    obtain ⟨h3, h4⟩ := ynp' r (padD n) (yt7' hn.1 hn.2)
    unfold yap' yaz'
    rw [if_pos h2, if_pos hg]
    show (if (cutS (r ++ padD n)).length < 2 then none else some (ofP (cutS (r ++ padD n)).dropLast)) = if (cutS r).length < 2 then none else some (ofP (cutS r).dropLast)
    rw [h3, h4]
  ·cases h
end Go.Av

namespace Go.Av
open Go.RowKit
def ydj' (S : TreeS) : Prop := ∀ k ∈ S.l.map (·.1), ya4' k = true
theorem ytr' (room : Int) : ydj' ⟨room, []⟩ := fun k hk => by simp at hk
theorem yyy' {S : TreeS} (h : ydj' S) {q : Bs} (hq : ya4' q = true) (n : NodeS) : ydj' { S with l := layT q n S.l } := by
 intro k hk
 have hk : k ∈ (layT q n S.l).map (·.1) := hk
 unfold layT at hk
 rw [yfr'] at hk
 have h1 := ((ydl' q n S.l).map (·.1)).mem_iff.1 hk
 rcases List.mem_cons.1 h1 with h1 | h1
 ·rw [h1]; exact hq
 ·exact h k h1
theorem yyk' {S : TreeS} (h : ydj' S) (q : Bs) : ydj' { S with l := remT q S.l } := by
 intro k hk
 have hk : k ∈ (remT q S.l).map (·.1) := hk
 unfold remT at hk
 rw [yfr', yk1'] at hk
 exact h k (List.mem_filter.1 hk).1
theorem yy1' {S : TreeS} (h : ydj' S) (q : Bs) (n : NodeS) : ydj' { S with l := setT q n S.l } := by
 intro k hk
 have hk : k ∈ (setT q n S.l).map (·.1) := hk
 rw [yic'] at hk
 exact h k hk
theorem ytn' {S : TreeS} {p : Bs} (h : (endT S p).1 = 0) : (endT S p).2 = p := by
 unfold endT at h ⊢
 split at h
 ·cases h
 ·rename_i h1
  rw [if_neg h1]
  split at h
  ·cases h
  ·rename_i h2
   rw [if_neg h2]
theorem yrh' {S : TreeS} {o : OpS} (hg : ya4' o.p = true) (h : (yax' S o).1 = 0) : ya4' (yax' S o).2 = true := by
 obtain ⟨x, hx⟩ : ∃ x, yax' S o = x := ⟨_, rfl⟩
 rw [hx] at h ⊢
 unfold yax' at hx
 split at hx
 ·subst hx
  rw [ytn' h]; exact hg
 ·split at hx
  ·subst hx; cases h
  ·split at hx
   ·subst hx; cases h
   ·split at hx
    ·split at hx
     ·subst hx; cases h
     ·rename_i q h5
      subst hx
      rw [ytn' h]
      exact (yfy' h5).2
    ·subst hx
     rw [ytn' h]; exact hg
theorem ytc' {S : TreeS} (h : ydj' S) {o : OpS} (hg : ya4' o.p = true) (sess zxid : Int) : ydj' (ybq' S o sess zxid).2 := by
 unfold ybq'
 split
 ·exact h
 ·rename_i h1
  exact yyy' h (yrh' hg (by simpa using h1)) _
theorem ys6' {S : TreeS} (h : ydj' S) (o : OpS) (zxid : Int) : ydj' (ybo' S o zxid).2 := by
 unfold ybo'
 split
 ·exact h
 ·split
  ·exact h
  ·split
   ·exact h
   ·split
    ·exact yyk' h _
    ·split
     ·exact yy1' h _ _
     ·exact h
theorem do_g {S : TreeS} (h : ydj' S) (o : OpS) (sess zxid : Int) : ydj' (doT S o sess zxid).2 := by
 unfold doT
 split
 ·exact h
 ·rename_i h1
  have h1 : ybk' o = 0 := by simpa using h1
  split
  ·exact h
  ·split
   ·exact ytc' h (yb2' (yce' h1).1).2.2.1 sess zxid
   ·split
    ·exact ys6' h o zxid
    ·exact h
theorem yr8' {sess zxid : Int} : ∀ (l : List OpS) {S : TreeS}, ydj' S → ydj' (yao' sess zxid l S).2.1
 | [], S, h => h
 | o :: l, S, h => by
  have h1 := do_g h o sess zxid
  unfold yao'
  split
  ·exact h1
  ·exact yr8' l h1
theorem yvh' {S : TreeS} (h : ydj' S) (sess zxid : Int) (ops : List OpS) : ydj' (ybw' S sess zxid ops).2.1 := by
 unfold ybw'
 split
 ·exact h
 ·split
  ·exact h
  ·split
   ·exact h
   ·exact yr8' ops h
theorem yrs' {S : TreeS} (h : ydj' S) (sess num zxid : Int) (ops : List OpS) : ydj' (ya1' S sess num zxid ops).2 := by
 unfold ya1'
 split
 ·exact h
 ·exact yvh' h sess zxid ops
theorem yyg' : ∀ (l : List Bs) {S : TreeS}, ydj' S → ydj' (purT l S)
 | [], S, h => h
 | p :: l, S, h => yyg' l (yyk' h p)
theorem yl0' {K : Nat} {S : TreeS} (h : TreeB K S) (sess num zxid : Int) (ops : List OpS) : TreeB (K + 16) (ya1' S sess num zxid ops).2 := by
 unfold ya1'
 split
 ·exact h.mono (by omega)
 ·exact yqy' h sess zxid ops
theorem yh1' (S : TreeS) (sess zxid : Int) (ops : List OpS) : (ybw' S sess zxid ops).2.1.room = S.room := by
 unfold ybw'
 split
 ·rfl
 ·split
  ·rfl
  ·split
   ·rfl
   ·exact yji' ops S
theorem yew' (S : TreeS) (sess num zxid : Int) (ops : List OpS) : (ya1' S sess num zxid ops).2.room = S.room := by
 unfold ya1'
 split
 ·rfl
 ·exact yh1' S sess zxid ops
theorem yke' : ∀ (l : List Bs) (S : TreeS), (purT l S).room = S.room
 | [], S => rfl
 | p :: l, S => yke' l _
end Go.Av

namespace Go.Av
structure PartB (K : Nat) (S : PartS) : Prop where
 tree : TreeB (16 * K) S.t
 held : ∀ e ∈ S.held, ya4' e.1 = true
 wait : ∀ e ∈ S.wait, e.2.ops.length ≤ 16 ∧ ∀ o ∈ e.2.ops, ybk' o = 0
 many : S.wait.length ≤ K
 zx : 0 ≤ S.zxid ∧ S.zxid ≤ K
 apart : ∀ e ∈ S.wait, e.1 ∉ S.decided
 good : ydj' S.t
theorem ysr' {W : yd2'} (h : ∀ e ∈ W, e.2.ops.length ≤ 16) : yaw' W ≤ 16 * W.length := by
 induction W with
 | nil => simp [yaw']
 | cons e W ih =>
  have h1 := ih (fun x hx => h x (k_n _ hx))
  have h2 := h e k_s
  have h3 := yfg' e.2.ops
  unfold yaw' at h1 ⊢
  rw [List.map_cons, List.sum_cons, List.length_cons]
  split <;> omega
theorem PartB.wanted {K : Nat} {S : PartS} (h : PartB K S) : yaw' S.wait ≤ 16 * K := Nat.le_trans (ysr' (fun e he => (h.wait e he).1)) (Nat.mul_le_mul_left _ h.many)
theorem PartB.keys {K : Nat} {S : PartS} (h : PartB K S) : ∀ e ∈ S.held, e.1.length ≤ 100000 := fun e he => Nat.le_trans (yb3' (h.held e he)) (by omega)
def newP (room : Int) : PartS := ⟨⟨room, []⟩, [], 0, [], [], []⟩
theorem yx8' (room : Int) (h : 1 ≤ room ∧ room ≤ 500) : PartB 0 (newP room) := ⟨yuw' room h, by simp [newP], by simp [newP], by simp [newP], by simp [newP], by simp [newP], ytr' room⟩
theorem yfx' {sess num : Int} {l : List OpS} (h : mayS sess num l = 0) : l.length ≤ 16 ∧ ∀ o ∈ l, ybk' o = 0 := by
 unfold mayS at h
 split at h
 ·cases h
 ·split at h
  ·cases h
  ·split at h
   ·rename_i h3; exact absurd h h3
   ·rename_i h2 h3
    refine ⟨by omega, fun o ho => ?_⟩
    have h3 : ydc' l = 0 := by simpa using h3
    unfold ydc' at h3
    cases hf : l.find? (fun o => ybk' o != 0) with
    | none =>
     have := List.find?_eq_none.1 hf o ho
     simpa using this
    | some q =>
     rw [hf] at h3
     have := List.find?_some hf
     rw [bne_iff_ne] at this
     exact absurd h3 this
theorem yt6' {o : OpS} (h : ybk' o = 0) : o.path.size ≤ 100000 ∧ 0 ≤ o.flags ∧ o.flags ≤ 3 := by
 obtain ⟨-, -, h3, -, h5, h6⟩ := yb2' (yce' h).1
 have := yb3' h3
 refine ⟨?_, h5, h6⟩
 have e : o.path.size = o.p.length := by unfold OpS.p; simp
 omega
end Go.Av
namespace Go.Proofs.YtcnkifbjlihaoaaGreatDoor
open Go.RowKit Go.Av
section
variable {w0 w : World} {b : Nat} {S : PartS} {P P' : List PRow} {R : List Thing} {rows : List (Value × Bs)}
set_option maxRecDepth 100000 in
set_option maxHeartbeats 4000000 in
theorem ym1' (h : Sep w0 w (yab' w0 P :: R) rows) (room : Int) (h1 : 1 ≤ room) (h2 : room ≤ 500) :
  Calls Tryz.prog 10 #[.int .i64 room] w fun e w' => ∃ b, e = .returned (.tuple #[.pointer (some ⟨b, 0, none⟩), .int .i64 0]) ∧ Sep w0 w' (yab' w0 P :: ycc' b (newP room) P :: R) rows := by
 have HX := Lib.hid h
 clear h
 go_enter Tryz.func10, Tryz.ntmps10
 go_wp2_with (first | refine u0 ?_ | (refine uS ?_; clear HX; intro w HX) | (refine uA ?_; clear HX; (first | (have hq := b; clear hq; intro w b2 HX) | intro w b HX)) | (refine uN ?_; clear HX; intro w mm HX))
 refine (ynf' HX.out room h1 h2).mono ?_
 rintro e w ⟨t, rfl, hx⟩
 replace HX := Lib.hid hx
 clear hx
 go_wp2_with (first | refine u0 ?_ | (refine uS ?_; clear HX; intro w HX) | (refine uA ?_; clear HX; (first | (have hq := b; clear hq; intro w b2 HX) | intro w b HX)) | (refine uN ?_; clear HX; intro w mm HX))
 refine (ymu' HX.out).mono ?_
 rintro e w ⟨l, rfl, hx⟩
 replace HX := Lib.hid hx
 clear hx
 go_wp2_with (first | ((with_reducible apply ygu' (.int .i64) HX); (· rfl); clear HX; first | (have hq := mm2; clear hq; intro w mm3 HX) | (have hq := mm; clear hq; intro w mm2 HX) | intro w mm HX); simp only [Act.put, k_a, k_b, k_c] | refine u0 ?_ | (refine uS ?_; clear HX; intro w HX) | (refine uA ?_; clear HX; (first | (have hq := b; clear hq; intro w b2 HX) | intro w b HX)) | (refine uN ?_; clear HX; intro w mm HX))
 go_ret2
 refine ⟨_, rfl, ?_⟩
 exact (ycx' (b := b) (t := t) (lk := l) (mw := mm) (md := mm2) (mc := mm3) (gs := []) (S := newP room) (R := yab' w0 P :: R) (HX.out.pm 7 [0, 6, 4, 3, 2, 1, 5] rfl rfl) rfl (by simp)).up1
def yvz' (w0 : World) (b : Nat) (P : List PRow) (R : List Thing) (rows : List (Value × Bs)) (m : ReplyS × PartS) (e : Ending) (w' : World) : Prop :=
 ∃ v P', e = .returned v ∧ (∀ q ∈ P, q ∈ P') ∧ yjt' P' m.1 v ∧ Sep w0 w' (yab' w0 P' :: ycc' b m.2 P' :: R) rows
set_option maxRecDepth 100000 in
set_option maxHeartbeats 8000000 in
theorem yqr' {K : Nat} (h : Sep w0 w (yab' w0 P :: ycc' b S P :: R) rows) (hd : DoorN w0) (hB : PartB K S) (hK : K ≤ 1000) (sess num : Int) (ops : List OpS) (v : Value) (hv : (5, v, ops.flatMap OpS.cells) ∈ P) (hp : ∀ o ∈ ops, o.path.size ≤ 100000) :
  Calls Tryz.prog 15 #[.pointer (some ⟨b, 0, none⟩), .agg #[.int .i64 sess, .int .i64 num, v]] w (yvz' w0 b P R rows (yb0' S sess num ops)) := by
 obtain ⟨E, hE⟩ := h.poolGet hv
 obtain ⟨a, n, c, rfl, hl0, -⟩ := ReadRow.some hE
 rw [yar' yai'] at hl0
 obtain rfl : ops.length = n := by omega
 have HV := Lib.hid (show _ ∧ _ from ⟨hv, hp⟩)
 have HB := Lib.hid (show _ ∧ _ from ⟨hB, hK⟩)
 have HX := Lib.hid h
 obtain ⟨rr, hrr⟩ : ∃ rr, yb0' S sess num ops = rr := ⟨_, rfl⟩
 rw [hrr]
 have HRR := Lib.hid hrr
 clear h hE hv hp hB hK hrr hl0
 obtain ⟨me, hme⟩ : ∃ me, mayS sess num ops = me := ⟨_, rfl⟩
 have HME := Lib.hid hme
 clear hme
 go_enter Tryz.func15, Tryz.ntmps15
 go_wp2_with (first | refine u0 ?_ | (refine uS ?_; clear HX; intro w HX) | (refine uA ?_; clear HX; (first | (have hq := b3; clear hq; intro w b4 HX) | (have hq := b2; clear hq; intro w b3 HX) | (have hq := b; clear hq; intro w b2 HX) | intro w b HX)))
 refine (yj6' HX.out.up2 hd sess num ops _ HV.out.1 HV.out.2).mono ?_
 rw [HME.out]
 rintro e w ⟨rfl, hx⟩
 replace HX := Lib.hid hx
 clear hx
 by_cases h0 : me = 0
 case neg =>
  have q1 : (me != 0) = true := by rw [bne_iff_ne]; exact h0
  obtain rfl : rr = (yea' num me (-1) 0, S) := by rw [← HRR.out]; unfold yb0'; rw [HME.out, if_pos h0]
  clear h0
  go_wp2_with (first | refine u0 ?_ | (refine uS ?_; clear HX; intro w HX) | (refine uA ?_; clear HX; (first | (have hq := b3; clear hq; intro w b4 HX) | (have hq := b2; clear hq; intro w b3 HX) | (have hq := b; clear hq; intro w b2 HX) | intro w b HX)))
  refine (yed' HX.out _ _ _ _).mono ?_
  rintro e w ⟨v, P', rfl, hP', ⟨a', n', c', xs', rfl, hrl, hmem⟩, hx⟩
  replace HX := Lib.hid hx
  have HPN := Lib.hid (show _ ∧ _ ∧ _ from ⟨hP', hrl, hmem⟩)
  clear hx hP' hrl hmem
  dsimp only at HX ⊢
  go_wp2_with (first | refine u0 ?_ | (refine uS ?_; clear HX; intro w HX) | (refine uA ?_; clear HX; (first | (have hq := b3; clear hq; intro w b4 HX) | (have hq := b2; clear hq; intro w b3 HX) | (have hq := b; clear hq; intro w b2 HX) | intro w b HX)))
  refine ybd' HX rfl rfl (by (repeat (first | (with_reducible exact k_s) | (with_reducible apply k_m)))) (by kernel_rfl) ?_
  exact ⟨_, P', rfl, HPN.out.1, ⟨a', n', c', xs', rfl, HPN.out.2.1, HPN.out.2.2⟩, (yeo' HX.out.up3 HPN.out.1).pm 4 [1, 0] rfl rfl⟩
 case pos =>
  subst h0
  have HGD := Lib.hid (yfx' HME.out)
  obtain ⟨⟨be, bat⟩, hbs⟩ : ∃ r, yd8' S 0 sess ops = r := ⟨_, rfl⟩
  have HR2 := Lib.hid (show rr = if be ≠ 0 then ({ yea' num be bat ops.length with zxid := S.zxid + 1 }, { S with zxid := S.zxid + 1 }) else ((ya1' S.t sess num (S.zxid + 1) ops).1, { S with zxid := S.zxid + 1, t := (ya1' S.t sess num (S.zxid + 1) ops).2 }) by
   rw [← HRR.out]; unfold yb0'; rw [HME.out, hbs]; exact if_neg (fun hh => hh rfl))
  have HBS := Lib.hid (show yd8' { S with zxid := S.zxid + 1 } 0 sess ops = (be, bat) from hbs)
  obtain ⟨t, lk, mw, md, mc, gs, hgs, hgv, hS⟩ := yd4' HX.out.up3
  have HG := Lib.hid (show _ ∧ _ from ⟨hgs, hgv⟩)
  have hz1 := HB.out.1.zx.1
  have hz2 : S.zxid ≤ 1000 := by have := HB.out.1.zx.2; have := HB.out.2; omega
  clear HX hgs hgv hbs HRR
  have HX := Lib.hid hS
  clear hS
  simp only [ybg'] at HX
  go_wp2_with (first | refine u0 ?_ | (refine uS ?_; clear HX; intro w HX) | (refine uA ?_; clear HX; (first | (have hq := b3; clear hq; intro w b4 HX) | (have hq := b2; clear hq; intro w b3 HX) | (have hq := b; clear hq; intro w b2 HX) | intro w b HX)))
  have h9 := (ycx' (b := b) (t := t) (lk := lk) (mw := mw) (md := md) (mc := mc) (gs := gs) (S := { S with zxid := S.zxid + 1 }) HX.out HG.out.1 HG.out.2).up1
  replace HX := Lib.hid h9
  clear h9
  refine (ys4' HX.out hd 0 sess ops _ HV.out.1 (fun o ho => yt6' (HGD.out.2 o ho)) (by have := HGD.out.1; omega) HB.out.1.keys (by have := HB.out.1.wanted; have := HB.out.2; show yaw' S.wait ≤ _; omega) (fun e he => by have := (HB.out.1.wait e he).1; omega) ⟨HB.out.1.tree.many, HB.out.1.tree.room.2⟩).mono ?_
  rw [HBS.out]
  rintro e w ⟨P2, rfl, hP2, hx⟩
  replace HX := Lib.hid hx
  have HP2 := Lib.hid hP2
  clear hx hP2
  by_cases h0 : be = 0
  case neg =>
   have q1 : (be != 0) = true := by rw [bne_iff_ne]; exact h0
   obtain rfl : rr = ({ yea' num be bat ops.length with zxid := S.zxid + 1 }, { S with zxid := S.zxid + 1 }) := by rw [HR2.out, if_pos h0]
   clear h0
   go_wp2_with (first | refine u0 ?_ | (refine uS ?_; clear HX; intro w HX) | (refine uA ?_; clear HX; (first | (have hq := b3; clear hq; intro w b4 HX) | (have hq := b2; clear hq; intro w b3 HX) | (have hq := b; clear hq; intro w b2 HX) | intro w b HX)))
   refine (yed' HX.out _ _ _ _).mono ?_
   rintro e w ⟨v, P', rfl, hP', ⟨a', n', c', xs', rfl, hrl, hmem⟩, hx⟩
   have HPN := Lib.hid (show _ ∧ _ ∧ _ from ⟨hP', hrl, hmem⟩)
   obtain ⟨t, lk, mw, md, mc, gs, hgs, hgv, hS⟩ := yd4' hx.up1
   have HG := Lib.hid (show _ ∧ _ from ⟨hgs, hgv⟩)
   clear HX hx hP' hrl hmem hgs hgv
   have HX := Lib.hid hS
   clear hS
   simp only [ybg'] at HX
   dsimp only
   go_wp2_with (first | refine u0 ?_ | (refine uS ?_; clear HX; intro w HX) | (refine uA ?_; clear HX; (first | (have hq := b3; clear hq; intro w b4 HX) | (have hq := b2; clear hq; intro w b3 HX) | (have hq := b; clear hq; intro w b2 HX) | intro w b HX)))
   refine ybd' HX rfl rfl (by (repeat (first | (with_reducible exact k_s) | (with_reducible apply k_m)))) (by kernel_rfl) ?_
   exact ⟨_, P', rfl, fun q hq => HPN.out.1 q (HP2.out q hq), ⟨a', n', c', xs', rfl, HPN.out.2.1, HPN.out.2.2⟩, (yeo' (ycx' (b := b) (t := t) (lk := lk) (mw := mw) (md := md) (mc := mc) (gs := gs) (S := { S with zxid := S.zxid + 1 }) HX.out.drop HG.out.1 HG.out.2) HPN.out.1).pm 4 [1, 0] rfl rfl⟩
  case pos =>
   subst h0
   obtain rfl : rr = ((ya1' S.t sess num (S.zxid + 1) ops).1, { S with zxid := S.zxid + 1, t := (ya1' S.t sess num (S.zxid + 1) ops).2 }) := by rw [HR2.out, if_neg (fun hh => hh rfl)]
   go_wp2_with (first | refine u0 ?_ | (refine uS ?_; clear HX; intro w HX) | (refine uA ?_; clear HX; (first | (have hq := b3; clear hq; intro w b4 HX) | (have hq := b2; clear hq; intro w b3 HX) | (have hq := b; clear hq; intro w b2 HX) | intro w b HX)))
   obtain ⟨t, lk, mw, md, mc, gs, hgs, hgv, hS⟩ := yd4' HX.out.up1
   have HG := Lib.hid (show _ ∧ _ from ⟨hgs, hgv⟩)
   obtain ⟨R', hR'⟩ : ∃ R', ThLk lk S.held :: yay' (.int .i64) mw (gs.map WaitG.kv) :: yay' (.int .i64) md (S.decided.map ikv) :: yay' (.int .i64) mc (S.closed.map ikv) :: R = R' := ⟨_, rfl⟩
   have h3 : Sep w0 w (yab' w0 P2 :: yaq' t S.t P2 :: yac' b (.cells (ybg' S.t.room t lk (S.zxid + 1) mw md mc) 123 (0, 0)) :: yac' b2 (.cells #[.int .i64 sess, .int .i64 num, .slice a ops.length c] 42 (0, 0)) :: yac' b3 (.cells #[.int .i64 0, .int .i64 0, .int .i64 0, .int .i64 0, .slice none 0 0] 39 (0, 0)) :: R') rows := by
    rw [← hR']
    exact hS.pm 9 [6, 1, 0, 8, 7, 2, 3, 4, 5] rfl rfl
   have HRR2 := Lib.hid hR'
   clear HX hgs hgv hS hR'
   have HX := Lib.hid h3
   clear h3
   refine rM (fun W => (∃ Ts, Sep w0 W (yac' b (.cells (ybg' S.t.room t lk (S.zxid + 1) mw md mc) 123 (0, 0)) :: yac' b2 (.cells #[.int .i64 sess, .int .i64 num, .slice a ops.length c] 42 (0, 0)) :: Ts) rows)) 10 ?_
   intro KEEPX
   replace HX := Lib.hid HX.out.drew
   have hl : ∀ V, (∃ Ts, Sep w0 V (yac' b (.cells (ybg' S.t.room t lk (S.zxid + 1) mw md mc) 123 (0, 0)) :: yac' b2 (.cells #[.int .i64 sess, .int .i64 num, .slice a ops.length c] 42 (0, 0)) :: Ts) rows) → (Instr.loadAt 65 (.pointer (some ⟨b, 1, none⟩))).run Tryz.prog V = .ok (.pointer (some ⟨t, 0, none⟩)) V := by
    rintro V ⟨Ts, hV⟩
    exact yag' (by kernel_rfl) (yaa' hV.blk 1 rfl)
   have hl2 : ∀ V, (∃ Ts, Sep w0 V (yac' b (.cells (ybg' S.t.room t lk (S.zxid + 1) mw md mc) 123 (0, 0)) :: yac' b2 (.cells #[.int .i64 sess, .int .i64 num, .slice a ops.length c] 42 (0, 0)) :: Ts) rows) → (Instr.loadAt 42 (.pointer (some ⟨b2, 0, none⟩))).run Tryz.prog V = .ok (.agg #[.int .i64 sess, .int .i64 num, .slice a ops.length c]) V := by
    rintro V ⟨Ts, hV⟩
    exact yat' (i := 0) sn_req.1 hV.up1.blk (by simp)
   have hl3 : ∀ V, (∃ Ts, Sep w0 V (yac' b (.cells (ybg' S.t.room t lk (S.zxid + 1) mw md mc) 123 (0, 0)) :: yac' b2 (.cells #[.int .i64 sess, .int .i64 num, .slice a ops.length c] 42 (0, 0)) :: Ts) rows) → (Instr.loadAt 2 (.pointer (some ⟨b, 3, none⟩))).run Tryz.prog V = .ok (.int .i64 (S.zxid + 1)) V := by
    rintro V ⟨Ts, hV⟩
    exact yag' (by kernel_rfl) (yaa' hV.blk 3 rfl)
   refine rT [(0, false), (1, false), (2, false), (3, true), (4, true), (5, false), (6, false), (7, false), (8, true)] 2 ?_
   apply Exists.intro; refine ⟨?_, ⟨_, HX.out.up3.up3⟩, ?_⟩
   ·iterate 9 (refine xE ?_)
    exact rfl
   clear hl hl2 hl3
   refine r1 1 9 fun K hK => ?_
   go_wp2_with fail
   have hrq := ym4' HX.out hd HB.out.1.tree (by have := HB.out.2; omega) sess num (S.zxid + 1) ops _ (HP2.out _ HV.out.1) HV.out.2
   obtain ⟨⟨⟨n1, z1, e1, t1, rs1⟩, S2⟩, hm1⟩ : ∃ m1, ya1' S.t sess num (S.zxid + 1) ops = m1 := ⟨_, rfl⟩
   have hroom : S2.room = S.t.room := by have := yew' S.t sess num (S.zxid + 1) ops; rw [hm1] at this; exact this
   rw [hm1] at hrq
   have HM1 := Lib.hid (show _ ∧ _ from ⟨hm1, hroom⟩)
   refine hrq.mono ?_
   clear hrq hm1 hroom
   rintro e w ⟨v, P', rfl, hP', ⟨a', n', c', xs', rfl, hrl, hmem⟩, hx⟩
   replace HX := Lib.hid hx
   have HPN := Lib.hid (show _ ∧ _ ∧ _ from ⟨hP', hrl, hmem⟩)
   clear hx hP' hrl hmem
   dsimp only at HX HPN ⊢
   go_wp2_with fail
   refine hK _ _ ⟨_, HX.out.up3.up3⟩ ?_
   clear hK
   refine rL [10] 0 ?_
   simp only [List.filterMap_cons, List.filterMap_nil, k_i, k_j, k_k]
   (with_reducible apply yij' HX)
   ·rfl
   ·rfl
   ·rfl
   ·kernel_rfl
   ·(repeat (first | (with_reducible exact Rep.here) | (with_reducible apply Rep.there)))
   ·rfl
   ·rfl
   clear HX
   intro w HX
   simp only [Act.put, k_a, k_b, k_c, yci', Nat.reduceAdd] at HX ⊢
   go_wp2_with (first | refine u0 ?_ | (refine uS ?_; clear HX; intro w HX) | (refine uA ?_; clear HX; (first | (have hq := b3; clear hq; intro w b4 HX) | (have hq := b2; clear hq; intro w b3 HX) | (have hq := b; clear hq; intro w b2 HX) | intro w b HX)))
   refine ybd' HX rfl rfl (by (repeat (first | (with_reducible exact k_s) | (with_reducible apply k_m)))) (by kernel_rfl) ?_
   have h5 := HX.out
   rw [← HRR2.out] at h5
   rw [HM1.out.1]
   refine ⟨_, P', rfl, fun q hq => HPN.out.1 q (HP2.out q hq), ⟨a', n', c', xs', rfl, HPN.out.2.1, HPN.out.2.2⟩, ?_⟩
   refine (ycx' (b := b) (t := t) (lk := lk) (mw := mw) (md := md) (mc := mc) (gs := gs) (S := { S with zxid := S.zxid + 1, t := S2 }) (R := yab' w0 P' :: R) ?_ HG.out.1 (fun g hg => HPN.out.1 _ (HG.out.2 g hg))).up1
   show Sep w0 w (yac' b (.cells (ybg' S2.room t lk (S.zxid + 1) mw md mc) 123 (0, 0)) :: _) rows
   rw [HM1.out.2]
   exact h5.pm 9 [2, 1, 5, 6, 7, 8, 0] rfl rfl
end
end Go.Proofs.YtcnkifbjlihaoaaGreatDoor

namespace Go.Av
open Go.RowKit
end Go.Av
namespace Go.Proofs.YtcnkifbjlihaoaaGreatDoor
open Go.RowKit Go.Av
section
variable {w0 w : World} {b : Nat} {S : PartS} {P P' : List PRow} {R : List Thing} {rows : List (Value × Bs)}
def yv0' (w0 : World) (b : Nat) (S : PartS) (P : List PRow) (R : List Thing) (rows : List (Value × Bs)) (e : Ending) (w' : World) : Prop :=
 ∃ c P', e = .returned (.pointer (some ⟨c, 0, none⟩)) ∧ (∀ q ∈ P, q ∈ P') ∧ Sep w0 w' (yab' w0 P' :: yaq' c S.t P' :: ycc' b S P' :: R) rows
set_option maxRecDepth 100000 in
set_option maxHeartbeats 4000000 in
theorem yri' (h : Sep w0 w (yab' w0 P :: ycc' b S P :: R) rows) (hok : ∀ e ∈ S.t.l, NodeOk e.2) : Calls Tryz.prog 36 #[.pointer (some ⟨b, 0, none⟩)] w (yv0' w0 b S P R rows) := by
 obtain ⟨t, lk, mw, md, mc, gs, hgs, hgv, hS⟩ := yd4' h.up1
 have HX := Lib.hid hS
 clear h hS
 go_enter Tryz.func36, Tryz.ntmps36
 go_wp2_with (first | refine u0 ?_ | (refine uS ?_; clear HX; intro w HX) | (refine uA ?_; clear HX; (first | (have hq := b; clear hq; intro w b2 HX) | intro w b HX)))
 refine (yg3' HX.out.up1.up6 hok).mono ?_
 rintro e w ⟨c, P', rfl, hP', hx⟩
 replace HX := Lib.hid hx
 clear hx
 go_wp2_with (first | refine u0 ?_ | (refine uS ?_; clear HX; intro w HX) | (refine uA ?_; clear HX; (first | (have hq := b; clear hq; intro w b2 HX) | intro w b HX)))
 go_ret
 refine ⟨c, P', rfl, hP', ?_⟩
 exact (ycx' (b := b) (t := t) (lk := lk) (mw := mw) (md := md) (mc := mc) (gs := gs) (S := S) (R := yab' w0 P' :: yaq' c S.t P' :: R) (HX.out.pm 8 [3, 2, 4, 5, 6, 7, 0, 1] rfl rfl) hgs (fun g hg => hP' _ (hgv g hg))).pm 3 [1, 2, 0] rfl rfl
end
end Go.Proofs.YtcnkifbjlihaoaaGreatDoor

namespace Go.Av
end Go.Av
namespace Go.Proofs.YtcnkifbjlihaoaaGreatDoor
open Go.RowKit Go.Av
section
variable {w0 w : World} {b : Nat} {S : PartS} {P P' : List PRow} {R : List Thing} {rows : List (Value × Bs)}
end
end Go.Proofs.YtcnkifbjlihaoaaGreatDoor

namespace Go.Av
open Go.RowKit
theorem yqv' {W : yd2'} {id : Int} (h : ∀ e ∈ W, e.1 ≠ id) : yd3' W id = none := by
 unfold yd3'
 rw [List.find?_eq_none.2 (fun e he => by simp [h e he])]
 rfl
theorem ylg' {W1 W2 : yd2'} {id : Int} {x : WaitS} (h : ((W1 ++ (id, x) :: W2).map (·.1)).Nodup) : yd3' (W1 ++ (id, x) :: W2) id = some x ∧ delW (W1 ++ (id, x) :: W2) id = W1 ++ W2 := by
 rw [List.map_append, List.map_cons, List.nodup_append] at h
 obtain ⟨-, h3, h4⟩ := h
 rw [List.nodup_cons] at h3
 have n1 : ∀ e ∈ W1, e.1 ≠ id := fun e he h => h4 e.1 (List.mem_map_of_mem he) id k_s h
 have n2 : ∀ e ∈ W2, e.1 ≠ id := fun e he h => h3.1 (List.mem_map.2 ⟨e, he, h⟩)
 constructor
 ·unfold yd3'
  rw [List.find?_append, List.find?_eq_none.2 (fun e he => by simp [n1 e he])]
  simp
 ·unfold delW
  rw [List.filter_append, List.filter_cons, List.filter_eq_self.2 (fun e he => by simp [n1 e he]), List.filter_eq_self.2 (fun e he => by simp [n2 e he])]
  simp
section
variable {P : Program} {w w0 : World} {d : TypeDesc} {m : Nat} {t k e : TypeId} {R : List Thing} {rows : List (Value × Bs)}
end
end Go.Av
namespace Go.Proofs.YtcnkifbjlihaoaaGreatDoor
open Go.RowKit Go.Av
section
variable {w0 w : World} {b : Nat} {S : PartS} {P P' : List PRow} {R : List Thing} {rows : List (Value × Bs)}
end
end Go.Proofs.YtcnkifbjlihaoaaGreatDoor

namespace Go.Av
open Go.RowKit
theorem yma' {H : ybz'} {who : Int} {ps : List Bs} (h : ∀ e ∈ H, ya4' e.1 = true) : ∀ e ∈ ygb' H who ps, ya4' e.1 = true := by
 intro e he
 unfold ygb' at he
 split at he
 ·exact h e he
 ·rename_i hw
  rcases ygk' ps H he with h1 | h1
  ·unfold ymh' at hw
   split at hw
   ·exact absurd rfl hw
   ·rename_i hf
    have := List.find?_eq_none.1 hf e.1 h1.1
    simpa using this
  ·exact h e h1
theorem yg2' {id : Int} : ∀ (ops : List OpS) {H : ybz'}, (∀ e ∈ H, ya4' e.1 = true) → ∀ e ∈ yfm' H id ops, ya4' e.1 = true
 | [], H, h => h
 | o :: ops, H, h => yg2' ops (yma' h)
theorem PartB.mono {K K' : Nat} {S : PartS} (h : PartB K S) (hK : K ≤ K') : PartB K' S :=
 ⟨h.tree.mono (by omega), h.held, h.wait, by have := h.many; omega, by have := h.zx; omega, h.apart, h.good⟩
theorem ywx' {K : Nat} {S : PartS} (h : PartB K S) (sess num : Int) (ops : List OpS) : PartB (K + 1) (yb0' S sess num ops).2 := by
 have hz := h.zx
 have hm := h.many
 unfold yb0'
 split
 ·exact h.mono (by omega)
 ·split
  ·exact ⟨h.tree.mono (by omega), h.held, h.wait, by show S.wait.length ≤ _; omega, by show 0 ≤ S.zxid + 1 ∧ S.zxid + 1 ≤ _; omega, h.apart, h.good⟩
  ·refine ⟨(yl0' h.tree sess num (S.zxid + 1) ops).mono (by omega), h.held, h.wait, by show S.wait.length ≤ _; omega, by show 0 ≤ S.zxid + 1 ∧ S.zxid + 1 ≤ _; omega, h.apart, yrs' h.good _ _ _ _⟩
theorem yld' {S : PartS} {id sess : Int} (h : ylc' S id sess = false) : id ∉ S.decided := by
 unfold ylc' at h
 simp only [Bool.or_eq_false_iff, decide_eq_false_iff_not] at h
 exact h.2.2.2
theorem yyd' {K : Nat} {S : PartS} (h : PartB K S) (id sess : Int) (ops : List OpS) : PartB (K + 1) (ykd' S id sess ops).2 := by
 have hz := h.zx
 have hm := h.many
 unfold ykd'
 split
 ·exact h.mono (by omega)
 ·rename_i hk
  split
  ·exact h.mono (by omega)
  ·rename_i hmay
   split
   ·exact h.mono (by omega)
   ·have hg := yfx' (by simpa using hmay : mayS sess 1 ops = 0)
    refine ⟨h.tree.mono (by omega), yg2' ops h.held, fun e he => ?_, by show (S.wait ++ [_]).length ≤ _; simp; omega, by show 0 ≤ S.zxid ∧ S.zxid ≤ _; omega, fun e he => ?_, h.good⟩
    ·rcases List.mem_append.1 he with he | he
     ·exact h.wait e he
     ·rw [List.mem_singleton] at he; rw [he]; exact hg
    ·rcases List.mem_append.1 he with he | he
     ·exact h.apart e he
     ·rw [List.mem_singleton] at he; rw [he]; exact yld' (S := S) (id := id) (sess := sess) (by simpa using hk)
theorem ywb' {K : Nat} {S : PartS} (h : PartB K S) (id sess : Int) : PartB (K + 1) (yfc' S id sess).2 := by
 have hz := h.zx
 have hm := h.many
 unfold yfc'
 split
 ·exact h.mono (by omega)
 ·rename_i hk
  split
  ·exact h.mono (by omega)
  ·split
   ·exact h.mono (by omega)
   ·split
    ·exact h.mono (by omega)
    ·refine ⟨h.tree.mono (by omega), yma' h.held, fun e he => ?_, by show (S.wait ++ [_]).length ≤ _; simp; omega, by show 0 ≤ S.zxid ∧ S.zxid ≤ _; omega, fun e he => ?_, h.good⟩
     ·rcases List.mem_append.1 he with he | he
      ·exact h.wait e he
      ·rw [List.mem_singleton] at he; rw [he]; exact ⟨by simp, by simp⟩
     ·rcases List.mem_append.1 he with he | he
      ·exact h.apart e he
      ·rw [List.mem_singleton] at he; rw [he]; exact yld' (S := S) (id := id) (sess := sess) (by simpa using hk)
theorem ytg' {K : Nat} {S : PartS} (h : PartB K S) (id : Int) (commit : Bool) : PartB (K + 1) (ybr' S id commit).2 := by
 have hz := h.zx
 have hm := h.many
 have hw : ∀ e ∈ delW S.wait id, e ∈ S.wait ∧ e.1 ≠ id := fun e he => by
  obtain ⟨h1, h2⟩ := List.mem_filter.1 he
  exact ⟨h1, by simpa using h2⟩
 have hl : (delW S.wait id).length ≤ K + 1 := Nat.le_trans (List.length_filter_le _ _) (by omega)
 have ha : ∀ e ∈ delW S.wait id, e.1 ∉ S.decided ++ [id] := fun e he hh => by
  obtain ⟨h1, h2⟩ := hw e he
  rcases List.mem_append.1 hh with hh | hh
  ·exact h.apart e h1 hh
  ·exact h2 (List.mem_singleton.1 hh)
 have hf : ∀ e ∈ yis' S.held id, ya4' e.1 = true := fun e he => h.held e (List.mem_filter.1 he).1
 have hzx : 0 ≤ S.zxid + 1 ∧ S.zxid + 1 ≤ ((K + 1 : Nat) : Int) := by omega
 unfold ybr'
 split
 ·exact h.mono (by omega)
 ·split
  ·exact ⟨h.tree.mono (by omega), hf, fun e he => h.wait e (hw e he).1, hl, hzx, ha, h.good⟩
  ·split
   ·exact ⟨(yrj' _ h.tree).mono (by omega), hf, fun e he => h.wait e (hw e he).1, hl, hzx, ha, yyg' _ h.good⟩
   ·exact ⟨(yqy' h.tree _ _ _).mono (by omega), hf, fun e he => h.wait e (hw e he).1, hl, hzx, ha, yvh' h.good _ _ _⟩
end Go.Av

namespace Go.Av
open Go.RowKit
def yjq' (S : PartS) : Prop := ∀ e ∈ S.held, hasW S.wait e.2 = true
theorem yqg' (W : yd2') (e : Int × WaitS) (id : Int) : hasW (W ++ [e]) id = (hasW W id || e.1 == id) := by
 unfold hasW
 rw [List.any_append]
 simp
theorem yok' {H : ybz'} {who : Int} {ps : List Bs} : ∀ e ∈ ygb' H who ps, e.2 = who ∨ e ∈ H := by
 intro e he
 unfold ygb' at he
 split at he
 ·exact .inr he
 ·rcases ygk' ps H he with h1 | h1
  ·exact .inl h1.2
  ·exact .inr h1
theorem yil' {id : Int} : ∀ (ops : List OpS) {H : ybz'}, ∀ e ∈ yfm' H id ops, e.2 = id ∨ e ∈ H
 | [], H, e, he => .inr he
 | o :: ops, H, e, he => by
  rcases yil' ops (H := ygb' H id (ya3' o)) e he with h | h
  ·exact .inl h
  ·exact yok' e h
theorem ywz' {S : PartS} (h : yjq' S) (sess num : Int) (ops : List OpS) : yjq' (yb0' S sess num ops).2 := by
 unfold yb0'
 split
 ·exact h
 ·split
  ·exact h
  ·exact h
theorem yyf' {S : PartS} (h : yjq' S) (id sess : Int) (ops : List OpS) : yjq' (ykd' S id sess ops).2 := by
 unfold ykd'
 split
 ·exact h
 ·split
  ·exact h
  ·split
   ·exact h
   ·intro e he
    show hasW (S.wait ++ [_]) e.2 = true
    rw [yqg']
    rcases yil' ops e he with h1 | h1
    ·rw [h1]; simp
    ·rw [h e h1]; rfl
theorem ywd' {S : PartS} (h : yjq' S) (id sess : Int) : yjq' (yfc' S id sess).2 := by
 unfold yfc'
 split
 ·exact h
 ·split
  ·exact h
  ·split
   ·exact h
   ·split
    ·exact h
    ·intro e he
     show hasW (S.wait ++ [_]) e.2 = true
     rw [yqg']
     rcases yok' e he with h1 | h1
     ·rw [h1]; simp
     ·rw [h e h1]; rfl
theorem yti' {S : PartS} (h : yjq' S) (id : Int) (commit : Bool) : yjq' (ybr' S id commit).2 := by
 have key : ∀ e ∈ yis' S.held id, hasW (delW S.wait id) e.2 = true := fun e he => by
  obtain ⟨h1, h2⟩ := List.mem_filter.1 he
  have h3 := h e h1
  unfold hasW at h3 ⊢
  obtain ⟨x, hx, hxe⟩ := List.any_eq_true.1 h3
  refine List.any_eq_true.2 ⟨x, List.mem_filter.2 ⟨hx, ?_⟩, hxe⟩
  have e1 : x.1 = e.2 := by simpa using hxe
  rw [e1]
  exact h2
 unfold ybr'
 split
 ·exact h
 ·split
  ·exact key
  ·split
   ·exact key
   ·exact key
end Go.Av

namespace Go.Av
open Go.RowKit
instance : Inhabited OpS := ⟨⟨0, ⟨#[]⟩, ⟨#[]⟩, 0, 0⟩⟩
def IsOps (w : World) (a : Option Addr) (len cap : Nat) (l : List OpS) : Prop :=
 l.length = len ∧ len ≤ cap ∧ cap ≤ maxLen ∧ (a = none → cap = 0) ∧
  (∀ x, a = some x → ∀ i, (h : i < l.length) → w.cell? (x.add (i * 5)) = some (.int .i64 l[i].kind) ∧ w.cell? (x.add (i * 5 + 1)) = some (.string l[i].path) ∧ w.cell? (x.add (i * 5 + 2)) = some (.string l[i].data) ∧
   w.cell? (x.add (i * 5 + 3)) = some (.int .i64 l[i].ver) ∧ w.cell? (x.add (i * 5 + 4)) = some (.int .i64 l[i].flags)) ∧ ∀ c ∈ l, c.path.size ≤ maxLen ∧ c.data.size ≤ maxLen
theorem yd7' (x : Addr) (i j : Nat) : (x.add i).add j = x.add (i + j) := (Go.Deep.add_add x i j).symm ▸ rfl
theorem IsOps.row {w : World} {a : Option Addr} {len cap : Nat} {l : List OpS} (h : IsOps w a len cap l) : ∃ E, ReadRow w 5 (.slice a len cap) (l.flatMap OpS.cells) E := by
 obtain ⟨h1, h2, h3, h4, h5, h6⟩ := h
 have hlen : (l.flatMap OpS.cells).length = len * 5 := by rw [yar' (f := OpS.cells) (K := 5) (fun _ => rfl), h1]
 cases l with
 | nil => exact ⟨[], a, len, cap, rfl, hlen, h2, h3, h4, .inl ⟨rfl, rfl⟩⟩
 | cons o l =>
  cases a with
  | none =>
   have := h4 rfl
   simp at h1
   omega
  | some x =>
   obtain ⟨g0, -⟩ := h5 x rfl 0 (by simp)
   have hs := yhh' g0
   obtain ⟨bk, off, sp⟩ := x
   rw [Nat.zero_mul] at g0
   have hsp : sp = none := by
    have hz : (⟨bk, off, sp⟩ : Addr).add 0 = ⟨bk, off, sp⟩ := by unfold Addr.add; split <;> simp_all
    rw [hz] at g0
    exact yhh' g0
   subst hsp
   refine ⟨[bk], _, len, cap, rfl, hlen, h2, h3, h4, .inr ⟨bk, off, rfl, rfl, ?_, fun i v hv => ?_⟩⟩
   ·have := World.block_lt_of_cell? w _ g0
    rw [Addr.add_lit] at this
    exact this
   ·have hi : i < (o :: l).length * 5 := by
     have := (List.getElem?_eq_some_iff.1 hv).1
     rw [yar' (f := OpS.cells) (K := 5) (fun _ => rfl)] at this
     exact this
    have hp : i / 5 < (o :: l).length := by omega
    have hm : i % 5 < 5 := Nat.mod_lt _ (by omega)
    have hat := ye5' (f := OpS.cells) (K := 5) (fun _ => rfl) (o :: l) hp hm
    rw [show i / 5 * 5 + i % 5 = i by omega, hv] at hat
    obtain ⟨c0, c1, c2, c3, c4⟩ := h5 _ rfl (i / 5) hp
    simp only [Addr.add_lit] at c0 c1 c2 c3 c4
    rcases (show i % 5 = 0 ∨ i % 5 = 1 ∨ i % 5 = 2 ∨ i % 5 = 3 ∨ i % 5 = 4 by omega) with e | e | e | e | e <;> rw [e] at hat <;> simp only [OpS.cells, k_k, k_j, Option.some.injEq] at hat <;> subst hat
    ·rw [show off + i = off + i / 5 * 5 by omega]; exact c0
    ·rw [show off + i = off + (i / 5 * 5 + 1) by omega]; exact c1
    ·rw [show off + i = off + (i / 5 * 5 + 2) by omega]; exact c2
    ·rw [show off + i = off + (i / 5 * 5 + 3) by omega]; exact c3
    ·rw [show off + i = off + (i / 5 * 5 + 4) by omega]; exact c4
end Go.Av
namespace Go.Proofs.YtcnkifbjlihaoaaGreatDoor
open Go.RowKit Go.Av Go.ChangeShapes Go.WideShapes
theorem yt5' : Tryz.prog.cellsOf 89 = 5 ∧ Tryz.prog.cellsOf 3 = 1 ∧ Tryz.prog.cellsOf 9 = 1 := by
 refine ⟨?_, ?_, ?_⟩ <;> kernel_rfl
set_option maxRecDepth 100000 in
theorem yxa' {H : Type} {enc : TypeId × Value → H} {w : World} {base : Nat} {held : Bool} {fuel : Nat} {a : Option Addr} {len cap : Nat} {x : DataW H × List MemPlace}
  (h : DataW.trod enc Tryz.prog w base (fun _ => true) held fuel 30 [.slice a len cap] = some x) : ∃ l, IsOps w a len cap l := by
 obtain ⟨c1, c2, c3⟩ := yt5'
 rcases Deep.open_slice Tryz.underlying30 h with ⟨hcs, _⟩ | ⟨x, l, c, m, n, D, Pl, hcs, hb, hl, hm, hmm, hx, hi⟩
 ·cases hcs
  exact ⟨[], rfl, Nat.le_refl _, by decide, fun _ => rfl, by simp, by simp⟩
 ·cases hcs
  rw [c1] at hi
  have each : ∀ i, i < len → ∃ q : OpS, (w.cell? (x.add (i * 5)) = some (.int .i64 q.kind) ∧ w.cell? (x.add (i * 5 + 1)) = some (.string q.path) ∧ w.cell? (x.add (i * 5 + 2)) = some (.string q.data) ∧
    w.cell? (x.add (i * 5 + 3)) = some (.int .i64 q.ver) ∧ w.cell? (x.add (i * 5 + 4)) = some (.int .i64 q.flags)) ∧ q.path.size ≤ maxLen ∧ q.data.size ≤ maxLen := by
   intro i hil
   obtain ⟨cs', hc, ht⟩ := hi i (by rw [hmm]; split <;> omega)
   obtain ⟨_, hcl, hat⟩ := World.cells?_some hc
   obtain ⟨ys, n', -, -, -, hyl, hf⟩ := DataW.trod_struct Tryz.underlying89 ht
   match cs', hcl with
   | [k0, k1, k2, k3, k4], _ =>
    have f0 : DataW.trod enc Tryz.prog w base (fun _ => true) held n' 3 (List.take (Tryz.prog.cellsOf 3) (List.drop 0 [k0, k1, k2, k3, k4])) = ys[0]? := hf 0 _ rfl
    have f1 : DataW.trod enc Tryz.prog w base (fun _ => true) held n' 9 (List.take (Tryz.prog.cellsOf 9) (List.drop 1 [k0, k1, k2, k3, k4])) = ys[1]? := hf 1 _ rfl
    have f2 : DataW.trod enc Tryz.prog w base (fun _ => true) held n' 9 (List.take (Tryz.prog.cellsOf 9) (List.drop 2 [k0, k1, k2, k3, k4])) = ys[2]? := hf 2 _ rfl
    have f3 : DataW.trod enc Tryz.prog w base (fun _ => true) held n' 3 (List.take (Tryz.prog.cellsOf 3) (List.drop 3 [k0, k1, k2, k3, k4])) = ys[3]? := hf 3 _ rfl
    have f4 : DataW.trod enc Tryz.prog w base (fun _ => true) held n' 3 (List.take (Tryz.prog.cellsOf 3) (List.drop 4 [k0, k1, k2, k3, k4])) = ys[4]? := hf 4 _ rfl
    rw [c2] at f0 f3 f4
    rw [c3] at f1 f2
    have hy : ∀ j, j < 5 → ∃ y, ys[j]? = some y := fun j hj => ⟨ys[j]'(by rw [hyl]; exact hj), List.getElem?_eq_getElem _⟩
    obtain ⟨y0, e0⟩ := hy 0 (by omega)
    obtain ⟨y1, e1⟩ := hy 1 (by omega)
    obtain ⟨y2, e2⟩ := hy 2 (by omega)
    obtain ⟨y3, e3⟩ := hy 3 (by omega)
    obtain ⟨y4, e4⟩ := hy 4 (by omega)
    obtain ⟨n0, g0, -, -⟩ := DataW.trod_int Tryz.underlying3 (f0.trans e0)
    obtain ⟨n1, g1, -, w1⟩ := DataW.trod_string Tryz.underlying9 (f1.trans e1)
    obtain ⟨n2, g2, -, w2⟩ := DataW.trod_string Tryz.underlying9 (f2.trans e2)
    obtain ⟨n3, g3, -, -⟩ := DataW.trod_int Tryz.underlying3 (f3.trans e3)
    obtain ⟨n4, g4, -, -⟩ := DataW.trod_int Tryz.underlying3 (f4.trans e4)
    simp at g0 g1 g2 g3 g4
    subst g0 g1 g2 g3 g4
    refine ⟨⟨n0, n1, n2, n3, n4⟩, ⟨?_, ?_, ?_, ?_, ?_⟩, w1, w2⟩
    ·have := hat 0 (by omega); rw [yd7'] at this; exact this
    ·have := hat 1 (by omega); rw [yd7'] at this; exact this
    ·have := hat 2 (by omega); rw [yd7'] at this; exact this
    ·have := hat 3 (by omega); rw [yd7'] at this; exact this
    ·have := hat 4 (by omega); rw [yd7'] at this; exact this
  obtain ⟨y, hy⟩ := Deep.choose_lt each
  refine ⟨(List.range len).map y, by simp, hl, hm, by simp, ?_, ?_⟩
  ·intro x' hx' i hi'
   cases hx'
   simp at hi'
   simpa using (hy i hi').1
  ·intro q hq
   obtain ⟨i, hi', rfl⟩ := List.mem_map.1 hq
   exact (hy i (List.mem_range.1 hi')).2
end Go.Proofs.YtcnkifbjlihaoaaGreatDoor

namespace Go.Av
open Go.RowKit
structure PAct where
 op : Int
 id : Int
 sess : Int
 v : Value
 yes : Bool
 ops : List OpS
def PAct.cells (a : PAct) : List Value := [.int .i64 a.op, .int .i64 a.id, .int .i64 a.sess, a.v, .bool a.yes]
instance : Inhabited PAct := ⟨⟨0, 0, 0, .bool false, false, []⟩⟩
def IsPActs (w : World) (a : Option Addr) (len cap : Nat) (l : List PAct) : Prop :=
 l.length = len ∧ len ≤ cap ∧ cap ≤ maxLen ∧ (a = none → cap = 0) ∧
  (∀ x, a = some x → ∀ i, (h : i < l.length) → w.cell? (x.add (i * 5)) = some (.int .i64 l[i].op) ∧ w.cell? (x.add (i * 5 + 1)) = some (.int .i64 l[i].id) ∧ w.cell? (x.add (i * 5 + 2)) = some (.int .i64 l[i].sess) ∧
   w.cell? (x.add (i * 5 + 3)) = some l[i].v ∧ w.cell? (x.add (i * 5 + 4)) = some (.bool l[i].yes)) ∧ ∀ c ∈ l, c.id ≤ 9223372036854775807 ∧ ∃ E, ReadRow w 5 c.v (c.ops.flatMap OpS.cells) E
theorem IsPActs.row {w : World} {a : Option Addr} {len cap : Nat} {l : List PAct} (h : IsPActs w a len cap l) : ∃ E, ReadRow w 5 (.slice a len cap) (l.flatMap PAct.cells) E := by
 obtain ⟨h1, h2, h3, h4, h5, h6⟩ := h
 have hlen : (l.flatMap PAct.cells).length = len * 5 := by rw [yar' (f := PAct.cells) (K := 5) (fun _ => rfl), h1]
 cases l with
 | nil => exact ⟨[], a, len, cap, rfl, hlen, h2, h3, h4, .inl ⟨rfl, rfl⟩⟩
 | cons o l =>
  cases a with
  | none =>
   have := h4 rfl
   simp at h1
   omega
  | some x =>
   obtain ⟨g0, -⟩ := h5 x rfl 0 (by simp)
   have hs := yhh' g0
   obtain ⟨bk, off, sp⟩ := x
   rw [Nat.zero_mul] at g0
   have hsp : sp = none := by
    have hz : (⟨bk, off, sp⟩ : Addr).add 0 = ⟨bk, off, sp⟩ := by unfold Addr.add; split <;> simp_all
    rw [hz] at g0
    exact yhh' g0
   subst hsp
   refine ⟨[bk], _, len, cap, rfl, hlen, h2, h3, h4, .inr ⟨bk, off, rfl, rfl, ?_, fun i v hv => ?_⟩⟩
   ·have := World.block_lt_of_cell? w _ g0
    rw [Addr.add_lit] at this
    exact this
   ·have hi : i < (o :: l).length * 5 := by
     have := (List.getElem?_eq_some_iff.1 hv).1
     rw [yar' (f := PAct.cells) (K := 5) (fun _ => rfl)] at this
     exact this
    have hp : i / 5 < (o :: l).length := by omega
    have hm : i % 5 < 5 := Nat.mod_lt _ (by omega)
    have hat := ye5' (f := PAct.cells) (K := 5) (fun _ => rfl) (o :: l) hp hm
    rw [show i / 5 * 5 + i % 5 = i by omega, hv] at hat
    obtain ⟨c0, c1, c2, c3, c4⟩ := h5 _ rfl (i / 5) hp
    simp only [Addr.add_lit] at c0 c1 c2 c3 c4
    rcases (show i % 5 = 0 ∨ i % 5 = 1 ∨ i % 5 = 2 ∨ i % 5 = 3 ∨ i % 5 = 4 by omega) with e | e | e | e | e <;> rw [e] at hat <;> simp only [PAct.cells, k_k, k_j, Option.some.injEq] at hat <;> subst hat
    ·rw [show off + i = off + i / 5 * 5 by omega]; exact c0
    ·rw [show off + i = off + (i / 5 * 5 + 1) by omega]; exact c1
    ·rw [show off + i = off + (i / 5 * 5 + 2) by omega]; exact c2
    ·rw [show off + i = off + (i / 5 * 5 + 3) by omega]; exact c3
    ·rw [show off + i = off + (i / 5 * 5 + 4) by omega]; exact c4
end Go.Av
namespace Go.Proofs.YtcnkifbjlihaoaaGreatDoor
open Go.RowKit Go.Av Go.ChangeShapes Go.WideShapes
theorem yq8' {H : Type} {enc : TypeId × Value → H} {w : World} {base : Nat} {held : Bool} {fuel : Nat} {c : Value} {x : DataW H × List MemPlace}
  (h : DataW.trod enc Tryz.prog w base (fun _ => true) held fuel 30 [c] = some x) : ∃ (l : List OpS) (E : List Nat), ReadRow w 5 c (l.flatMap OpS.cells) E := by
 have hs : ∃ a n m, c = .slice a n m := by
  rcases Deep.open_slice Tryz.underlying30 h with ⟨hcs, _⟩ | ⟨x, l, c', m, n, D, Pl, hcs, _⟩
  ·cases hcs
   exact ⟨_, _, _, rfl⟩
  ·cases hcs
   exact ⟨_, _, _, rfl⟩
 obtain ⟨a, n, m, rfl⟩ := hs
 obtain ⟨l, hl⟩ := yxa' h
 obtain ⟨E, hE⟩ := hl.row
 exact ⟨l, E, hE⟩
end Go.Proofs.YtcnkifbjlihaoaaGreatDoor

namespace Go.Av
open Go.RowKit
theorem yl9' (H : ybz') (who : Int) (ps : List Bs) : (ygb' H who ps).length ≤ H.length + ps.length := by
 unfold ygb'
 split
 ·omega
 ·exact yk5' who ps H
theorem ysv' (o : OpS) : (ya3' o).length ≤ 2 := by
 unfold ya3'
 split
 ·simp
 ·split <;> simp
theorem yik' (id : Int) : ∀ (ops : List OpS) (H : ybz'), (yfm' H id ops).length ≤ H.length + 2 * ops.length
 | [], H => Nat.le_refl _
 | o :: ops, H => by
  have h1 := yik' id ops (ygb' H id (ya3' o))
  have h2 := yl9' H id (ya3' o)
  have h3 := ysv' o
  have e : yfm' H id (o :: ops) = yfm' (ygb' H id (ya3' o)) id ops := rfl
  rw [e, List.length_cons]
  omega
theorem yyb' (S : TreeS) (sess : Int) : (ofT S sess).length ≤ S.l.length := by unfold ofT; rw [List.length_map]; exact List.length_filter_le _ _
structure PartC (K : Nat) (S : PartS) : Prop where
 b : PartB K S
 h : yjq' S
 len : S.held.length ≤ 600 * K
theorem PartC.mono {K K' : Nat} {S : PartS} (h : PartC K S) (hK : K ≤ K') : PartC K' S := ⟨h.b.mono hK, h.h, Nat.le_trans h.len (Nat.mul_le_mul_left _ hK)⟩
theorem yx9' (room : Int) (h : 1 ≤ room ∧ room ≤ 500) : PartC 0 (newP room) := ⟨yx8' room h, (fun e he => by cases he), Nat.le_refl _⟩
theorem ywy' {K : Nat} {S : PartS} (h : PartC K S) (sess num : Int) (ops : List OpS) : PartC (K + 1) (yb0' S sess num ops).2 := by
 refine ⟨ywx' h.b sess num ops, ywz' h.h sess num ops, ?_⟩
 have := h.len
 unfold yb0'
 split
 ·show S.held.length ≤ _; omega
 ·split
  ·show S.held.length ≤ _; omega
  ·show S.held.length ≤ _; omega
theorem yye' {K : Nat} {S : PartS} (h : PartC K S) (id sess : Int) (ops : List OpS) : PartC (K + 1) (ykd' S id sess ops).2 := by
 refine ⟨yyd' h.b id sess ops, yyf' h.h id sess ops, ?_⟩
 have := h.len
 unfold ykd'
 split
 ·show S.held.length ≤ _; omega
 ·split
  ·show S.held.length ≤ _; omega
  ·rename_i hm
   split
   ·show S.held.length ≤ _; omega
   ·have hg := (yfx' (by simpa using hm : mayS sess 1 ops = 0)).1
    have := yik' id ops S.held
    show (yfm' S.held id ops).length ≤ _
    omega
theorem ywc' {K : Nat} {S : PartS} (h : PartC K S) (id sess : Int) : PartC (K + 1) (yfc' S id sess).2 := by
 refine ⟨ywb' h.b id sess, ywd' h.h id sess, ?_⟩
 have := h.len
 unfold yfc'
 split
 ·show S.held.length ≤ _; omega
 ·split
  ·show S.held.length ≤ _; omega
  ·split
   ·show S.held.length ≤ _; omega
   ·split
    ·show S.held.length ≤ _; omega
    ·have h1 := yl9' S.held id (ofT S.t sess)
     have h2 := yyb' S.t sess
     have h3 := h.b.tree.many
     show (ygb' S.held id (ofT S.t sess)).length ≤ _
     omega
theorem yth' {K : Nat} {S : PartS} (h : PartC K S) (id : Int) (commit : Bool) : PartC (K + 1) (ybr' S id commit).2 := by
 refine ⟨ytg' h.b id commit, yti' h.h id commit, ?_⟩
 have h1 := h.len
 have h2 : (yis' S.held id).length ≤ S.held.length := List.length_filter_le _ _
 unfold ybr'
 split
 ·show S.held.length ≤ _; omega
 ·split
  ·show (yis' S.held id).length ≤ _; omega
  ·split
   ·show (yis' S.held id).length ≤ _; omega
   ·show (yis' S.held id).length ≤ _; omega
end Go.Av

namespace Go.Proofs.YtcnkifbjlihaoaaGreatDoor
open Go.RowKit Go.Av
def iv (n : Int) : Value := .int .i64 n
def risF (last : Int) : List Int → Bool
 | [] => true
 | s :: r => !(decide (s ≤ last) || decide (4 ≤ s)) && risF s r
def risS (l : List Int) : Bool := risF (-1) l
def idxF (k : Int) : List Int → Option Nat
 | [] => none
 | x :: r => if x = k then some 0 else (idxF k r).map (· + 1)
end Go.Proofs.YtcnkifbjlihaoaaGreatDoor

namespace Go.Av
open Go.RowKit
section
variable {w0 w : World} {R : List Thing} {rows : List (Value × Bs)}
end
end Go.Av
namespace Go.Proofs.YtcnkifbjlihaoaaGreatDoor
open Go.RowKit Go.Av
end Go.Proofs.YtcnkifbjlihaoaaGreatDoor

namespace Go.Proofs.YtcnkifbjlihaoaaGreatDoor
open Go.RowKit Go.Av
theorem yr5' {P : Program} {t e : TypeId} {i : TypeInfo} (ht : P.underlying t = some (.slice e)) (hi : P.info? e = some i) (hz : i.size = 1) (a : Option Addr) (n : Nat) (ha : a = none → n = 0) (W : World) :
  (Instr.slice t (.slice a n n) (some (.int .i64 (n : Int))) none none).run P W = .ok (.slice a 0 0) W := by
 cases a with
 | none =>
  have := ha rfl
  subst this
  simp [Instr.slice, run_underlying ht, Instr.sliceBounds, Instr.sliceBound, asIntOf, sizeOf, typeInfo, hi, Result.andThen, hz]
 | some x => simp [Instr.slice, run_underlying ht, Instr.sliceBounds, Instr.sliceBound, asIntOf, sizeOf, typeInfo, hi, Result.andThen, hz]
theorem Sep.tail {w0 w : World} {R : List Thing} {rows : List (Value × Bs)} {P : Program} {t e : TypeId} {i : TypeInfo} (ht : P.underlying t = some (.slice e)) (hi : P.info? e = some i) (hz : i.size = 1) {a : Option Addr} {n c : Nat} {xs : List Value}
  (h : Sep w0 w (ybc' 1 (.slice a n c) xs :: R) rows) : ∃ a', ∀ W, (Instr.slice t (.slice a n c) (some (.int .i64 (n : Int))) none none).run P W = .ok (.slice a' 0 (c - n)) W := by
 obtain ⟨D, hP⟩ := h.fst
 obtain ⟨a', n', c', hv, hl, hn, hc, ha, hr⟩ := hP
 cases hv
 by_cases hcn : c = n
 ·subst hcn
  exact ⟨a, fun W => by rw [Nat.sub_self]; exact yr5' ht hi hz a c ha W⟩
 ·rcases hr with ⟨hc0, _⟩ | ⟨g, off, cur, T, h1, h2, h3, h4, h5⟩
  ·omega
  ·subst h1
   exact ⟨_, fun W => by have := yjf' ht hi hz g off n c n (Nat.le_refl _) W; rwa [Nat.sub_self] at this⟩
section
variable {w0 w : World} {R : List Thing} {rows : List (Value × Bs)}
end
end Go.Proofs.YtcnkifbjlihaoaaGreatDoor

namespace Go.Proofs.YtcnkifbjlihaoaaGreatDoor
open Go.RowKit Go.Av
structure EntS where
 shards : List Int
 votes : List Int
 dec : Int
 owes : List Int
def EntS.wf (x : EntS) : Prop := x.votes.length = x.shards.length ∧ x.shards.length ≤ 4 ∧ x.owes.length ≤ 4
def okE (e : Int × EntS) : Prop := e.2.wf ∧ 1 ≤ e.1 ∧ e.1 ≤ 9223372036854775807
structure EntG where
 id : Int
 p : Nat
 vs : Value
 vv : Value
 vo : Value
 x : EntS
def EntG.th (g : EntG) : List Thing :=
 [yac' g.p (.cells #[g.vs, g.vv, .int .i64 g.x.dec, g.vo] 220 (0, 0)), ybc' 1 g.vs (g.x.shards.map iv), ybc' 1 g.vv (g.x.votes.map iv), ybc' 1 g.vo (g.x.owes.map iv)]
def EntG.kv (g : EntG) : Value × Value := (.int .i64 g.id, .pointer (some ⟨g.p, 0, none⟩))
def EntG.ent (g : EntG) : Int × EntS := (g.id, g.x)
abbrev CoS := List (Int × EntS)
def yhn' (c m : Nat) (kvs : List (Value × Value)) : List Thing := [yac' c (.cells #[.map (some m)] 216 (0, 0)), yay' (.int .i64) m kvs]
def Co (w0 w : World) (c : Nat) (S : CoS) (R : List Thing) (rows : List (Value × Bs)) : Prop :=
 ∃ (m : Nat) (gs : List EntG), gs.map EntG.ent = S ∧ (∀ e ∈ S, okE e) ∧ Sep w0 w (yhn' c m (gs.map EntG.kv) ++ (gs.flatMap EntG.th ++ R)) rows
def CoF (w0 w : World) (c m : Nat) (l1 : List EntG) (g : EntG) (l2 : List EntG) (R : List Thing) (rows : List (Value × Bs)) : Prop :=
 (∀ e ∈ (l1 ++ g :: l2).map EntG.ent, okE e) ∧ Sep w0 w (g.th ++ (yhn' c m ((l1 ++ g :: l2).map EntG.kv) ++ ((l1 ++ l2).flatMap EntG.th ++ R))) rows
theorem yi7' (P : List Thing) (l1 l2 : List EntG) (g : EntG) (R : List Thing) : (P ++ ((l1 ++ g :: l2).flatMap EntG.th ++ R)).Perm (g.th ++ (P ++ ((l1 ++ l2).flatMap EntG.th ++ R))) := by
 simp only [List.flatMap_append, List.flatMap_cons, List.append_assoc]
 refine (List.Perm.append_left P (List.perm_append_comm_assoc _ _ _)).trans ?_
 exact List.perm_append_comm_assoc _ _ _
def yj4' (id : Int) (S : CoS) : Option EntS := (S.find? fun e => decide (e.1 = id)).map (·.2)
theorem ylg' {id : Int} {S : CoS} {x : EntS} (h : yj4' id S = some x) : ∃ S1 S2, S = S1 ++ (id, x) :: S2 ∧ ∀ e ∈ S1, e.1 ≠ id := by
 unfold yj4' at h
 cases hf : S.find? (fun e => decide (e.1 = id)) with
 | none => rw [hf] at h; cases h
 | some e =>
  rw [hf] at h
  cases h
  obtain ⟨hp, S1, S2, hS, hb⟩ := List.find?_eq_some_iff_append.1 hf
  have he : e.1 = id := by simpa using hp
  subst he
  exact ⟨S1, S2, hS, fun q hq => by simpa using hb q hq⟩
theorem yqv' {id : Int} {S : CoS} (h : yj4' id S = none) : ∀ e ∈ S, e.1 ≠ id := by
 unfold yj4' at h
 rw [Option.map_eq_none_iff, List.find?_eq_none] at h
 exact fun e he => by simpa using h e he
section
variable {w0 w : World} {c m : Nat} {S : CoS} {l1 l2 : List EntG} {g : EntG} {R : List Thing} {rows : List (Value × Bs)}
theorem Co.take (h : Co w0 w c S R rows) {id : Int} {x : EntS} (hx : yj4' id S = some x) :
  ∃ m l1 g l2, g.id = id ∧ g.x = x ∧ CoF w0 w c m l1 g l2 R rows ∧ (∀ e ∈ l1.map EntG.ent, e.1 ≠ id) ∧ S = (l1 ++ g :: l2).map EntG.ent := by
 obtain ⟨m, gs, rfl, hwf, hS⟩ := h
 obtain ⟨S1, S2, hS12, hb⟩ := ylg' hx
 obtain ⟨l1, l2', h1, h2, h3⟩ := List.map_eq_append_iff.1 hS12
 obtain ⟨g, l2, h4, h5, h6⟩ := List.map_eq_cons_iff.1 h3
 subst h1 h4
 have hg : g.id = id ∧ g.x = x := by unfold EntG.ent at h5; cases h5; exact ⟨rfl, rfl⟩
 refine ⟨m, l1, g, l2, hg.1, hg.2, ⟨hwf, ?_⟩, by rw [h2]; exact hb, rfl⟩
 have := hS.perm (yi7' (yhn' c m ((l1 ++ g :: l2).map EntG.kv)) l1 l2 g R)
 exact this
theorem CoF.back (h : CoF w0 w c m l1 g l2 R rows) : Co w0 w c ((l1 ++ g :: l2).map EntG.ent) R rows := by
 obtain ⟨hwf, hS⟩ := h
 exact ⟨m, l1 ++ g :: l2, rfl, hwf, hS.perm (yi7' (yhn' c m ((l1 ++ g :: l2).map EntG.kv)) l1 l2 g R).symm⟩
theorem Co.below (h : Co w0 w c S R rows) : Below w0.heap.size w0 w := by
 obtain ⟨m, gs, _, _, hS⟩ := h
 exact hS.below
theorem Co.keep (h : Co w0 w c S R rows) {w' : World} {D' : List Nat} (hu : Upd w w' [] D') : Co w0 w' c S R rows := by
 obtain ⟨m, gs, h1, h2, hS⟩ := h
 exact ⟨m, gs, h1, h2, hS.keep hu⟩
set_option maxHeartbeats 400000 in
theorem yq4' (h : Sep w0 w R rows) : Calls Tryz.prog 128 #[] w fun e w' => ∃ c, e = .returned (.pointer (some ⟨c, 0, none⟩)) ∧ Co w0 w' c [] R rows := by
 have h1 := (h.newMap (.int .i64)).newCell (.cells #[.map (some w.heap.size)] 216 (0, 0))
 have H := Lib.hid h1
 clear h h1
 have hmm := @run_makeMap Tryz.prog
 go_enter Tryz.func128, Tryz.ntmps128
 go_wp2_with fail
 go_ret
 exact ⟨_, rfl, _, [], rfl, by simp, by simpa [yhn'] using H.out⟩
end
end Go.Proofs.YtcnkifbjlihaoaaGreatDoor

namespace Go.Proofs.YtcnkifbjlihaoaaGreatDoor
open Go.RowKit Go.Av
def EntG.upd (g : EntG) (x : EntS) : EntG := { g with x := x }
section
variable {w0 w : World} {c m : Nat} {S : CoS} {l1 l2 : List EntG} {g : EntG} {R : List Thing} {rows : List (Value × Bs)}
theorem CoF.wf (h : CoF w0 w c m l1 g l2 R rows) : g.x.wf := (h.1 g.ent (by simp)).1
def putS (id : Int) (φ : EntS → EntS) (S : CoS) : CoS := S.map fun e => if e.1 = id then (e.1, φ e.2) else e
theorem yxc' {id : Int} {S1 S2 : CoS} {x : EntS} (φ : EntS → EntS) (h1 : ∀ e ∈ S1, e.1 ≠ id) (h2 : ∀ e ∈ S2, e.1 ≠ id) : putS id φ (S1 ++ (id, x) :: S2) = S1 ++ (id, φ x) :: S2 := by
 unfold putS
 rw [List.map_append, List.map_cons]
 congr 1
 ·rw [List.map_congr_left (g := _root_.id) (fun e he => by simp [h1 e he]), List.map_id]
 ·rw [if_pos rfl, List.map_congr_left (g := _root_.id) (fun e he => by simp [h2 e he]), List.map_id]
theorem CoF.once (h : CoF w0 w c m l1 g l2 R rows) : (∀ e ∈ l1.map EntG.ent, e.1 ≠ g.id) ∧ ∀ e ∈ l2.map EntG.ent, e.1 ≠ g.id := by
 obtain ⟨E, hM, -⟩ := h.2.has (T := yay' (.int .i64) m ((l1 ++ g :: l2).map EntG.kv)) (by simp [yhn'])
 have hn := hM.nodup
 rw [List.map_map, List.map_append, List.map_cons, List.nodup_append, List.nodup_cons] at hn
 obtain ⟨-, ⟨h3, -⟩, h5⟩ := hn
 refine ⟨fun e he heq => ?_, fun e he heq => ?_⟩
 ·obtain ⟨q, hq, rfl⟩ := List.mem_map.1 he
  refine h5 _ (List.mem_map_of_mem hq) _ k_s ?_
  simp only [Function.comp, EntG.kv]
  rw [show q.id = g.id from heq]
 ·obtain ⟨q, hq, rfl⟩ := List.mem_map.1 he
  refine h3 ?_
  have : q.id = g.id := heq
  simp only [Function.comp, EntG.kv, List.mem_map]
  exact ⟨q, hq, by rw [this]⟩
theorem CoF.put (h : CoF w0 w c m l1 g l2 R rows) {x : EntS} (φ : EntS → EntS) (hx : φ g.x = x) : (l1 ++ g.upd x :: l2).map EntG.ent = putS g.id φ ((l1 ++ g :: l2).map EntG.ent) := by
 obtain ⟨h1, h2⟩ := h.once
 rw [List.map_append, List.map_cons, List.map_append, List.map_cons, show g.ent = (g.id, g.x) from rfl, yxc' φ h1 h2, hx]
 rfl
def yvf' (x : EntS) : EntS := if x.dec = 0 then { x with dec := 2 } else x
def yks' (S : CoS) (id : Int) : Bool × Int × CoS := match yj4' id S with | none => (false, 4, S) | some x => ((yvf' x).dec == 1, 0, putS id yvf' S)
end
end Go.Proofs.YtcnkifbjlihaoaaGreatDoor

namespace Go.Proofs.YtcnkifbjlihaoaaGreatDoor
open Go.RowKit Go.Av
section
variable {w0 w : World} {c m : Nat} {S : CoS} {l1 l2 : List EntG} {g : EntG} {R : List Thing} {rows : List (Value × Bs)}
def yyo' (l : List Int) : Bool := l.all fun x => x == 1
def yy2' (i : Nat) (ok : Bool) (x : EntS) : EntS :=
 if x.votes.getD i 0 ≠ 0 ∨ x.dec ≠ 0 then x else
  { x with votes := x.votes.set i (if ok then 1 else 2), dec := if ok then (if yyo' (x.votes.set i 1) then 1 else 0) else 2 }
def yu1' (S : CoS) (id k : Int) (ok : Bool) : Int × CoS := match yj4' id S with
 | none => (4, S)
 | some x => match idxF k x.shards with | none => (4, S) | some i => (0, putS id (yy2' i ok) S)
end
end Go.Proofs.YtcnkifbjlihaoaaGreatDoor

namespace Go.Proofs.YtcnkifbjlihaoaaGreatDoor
open Go.RowKit Go.Av
section
variable {w0 w : World} {c m : Nat} {S : CoS} {l1 l2 : List EntG} {g : EntG} {R : List Thing} {T : Thing} {rows : List (Value × Bs)}
theorem yre' (A B R : List Thing) (T : Thing) : (T :: (A ++ (B ++ R))).Perm (A ++ (B ++ T :: R)) := by
 have := (List.perm_middle (a := T) (l₁ := A ++ B) (l₂ := R)).symm
 simpa [List.append_assoc] using this
theorem Co.newCell (h : Co w0 w c S R rows) (o : Obj) : Co w0 (w.alloc o) c S (yac' w.heap.size o :: R) rows := by
 obtain ⟨m, gs, h1, h2, hS⟩ := h
 exact ⟨m, gs, h1, h2, (hS.newCell o).perm (yre' _ _ _ _)⟩
def yyt' (k : Int) (x : EntS) : EntS := { x with owes := x.owes.filter fun y => !decide (y = k) }
def ytl' (S : CoS) (id k : Int) : Int × CoS := match yj4' id S with
 | none => (4, S)
 | some x => match idxF k x.shards with | none => (4, S) | some _ => if x.dec = 0 then (15, S) else (0, putS id (yyt' k) S)
end
end Go.Proofs.YtcnkifbjlihaoaaGreatDoor

namespace Go.Proofs.YtcnkifbjlihaoaaGreatDoor
open Go.RowKit Go.Av
section
variable {w0 w : World} {c m : Nat} {S : CoS} {l1 l2 : List EntG} {g : EntG} {R : List Thing} {T : Thing} {rows : List (Value × Bs)}
def newE (l : List Int) : EntS := { shards := l, votes := List.replicate l.length 0, dec := 0, owes := l }
def ynm' (S : CoS) (id : Int) (l : List Int) : Int × CoS :=
 if id < 1 ∨ l.length = 0 ∨ risS l = false then (1, S) else match yj4' id S with | some _ => (5, S) | none => (0, S ++ [(id, newE l)])
end
end Go.Proofs.YtcnkifbjlihaoaaGreatDoor

namespace Go.Proofs.YtcnkifbjlihaoaaGreatDoor
open Go.RowKit Go.Av
structure OutS where
 kind : Int
 id : Int
 reply : ReplyS
 err : Int
 at_ : Int
 rs : List ResS
 yes : Bool
def yll' : ReplyS := ⟨0, 0, 0, 0, []⟩
def badO : OutS := ⟨0, 0, yll', 3, 0, [], false⟩
structure ShardS where
 p : PartS
 c : CoS
 played : Int
 known : List (Bs × OutS)
def yit' (b : Bs) : Int × Int × Rd := ((i64R (b, false)).1, (i64R (i64R (b, false)).2).1, (i64R (i64R (b, false)).2).2)
def rawC (b : Bs) : CmdS × Rd × Bool :=
 let k := (yit' b).1
 let id := (yit' b).2.1
 let d := (yit' b).2.2
 if k = 1 then (⟨k, id, 0, (ya5' (yaj' 40000 d).1).1, (ya5' (yaj' 40000 d).1).2.1, (ya5' (yaj' 40000 d).1).2.2, [], 0, false⟩, (yaj' 40000 d).2, (getR (yaj' 40000 d).1).isNone)
 else if k = 2 then (⟨k, id, (i64R d).1, (ya5' (yaj' 40000 (shR (i64R d).2).2).1).1, (ya5' (yaj' 40000 (shR (i64R d).2).2).1).2.1, (ya5' (yaj' 40000 (shR (i64R d).2).2).1).2.2, (shR (i64R d).2).1, 0, false⟩, (yaj' 40000 (shR (i64R d).2).2).2, (getR (yaj' 40000 (shR (i64R d).2).2).1).isNone)
 else if k = 3 then (⟨k, id, (i64R d).1, 0, 0, [], (shR (i64R d).2).1, 0, false⟩, (shR (i64R d).2).2, false)
 else if k = 4 then (⟨k, id, 0, 0, 0, [], [], 0, (cntR 1 d).1 == 1⟩, (cntR 1 d).2, false)
 else if k = 5 then (⟨k, id, 0, 0, 0, [], (shR d).1, 0, false⟩, (shR d).2, false)
 else if k = 6 then (⟨k, id, 0, 0, 0, [], [], (cntR 3 d).1, (cntR 1 (cntR 3 d).2).1 == 1⟩, (cntR 1 (cntR 3 d).2).2, false)
 else if k = 7 then (⟨k, id, 0, 0, 0, [], [], (cntR 3 d).1, false⟩, (cntR 3 d).2, false)
 else (⟨k, id, 0, 0, 0, [], [], 0, false⟩, d, false)
def getC (b : Bs) : Option CmdS := if (rawC b).2.2 = false ∧ endR (rawC b).2.1 = true ∧ putC (rawC b).1 = b then some (rawC b).1 else none
def doC (S : ShardS) (c : CmdS) : OutS × ShardS :=
 if c.kind = 1 then (⟨c.kind, c.id, (yb0' S.p c.rs c.rn c.ops).1, 0, 0, [], false⟩, { S with p := (yb0' S.p c.rs c.rn c.ops).2 })
 else if c.kind = 2 then (⟨c.kind, c.id, yll', (ykd' S.p c.id c.sess c.ops).1.1, (ykd' S.p c.id c.sess c.ops).1.2, [], false⟩, { S with p := (ykd' S.p c.id c.sess c.ops).2 })
 else if c.kind = 3 then (⟨c.kind, c.id, yll', (yfc' S.p c.id c.sess).1, -1, [], false⟩, { S with p := (yfc' S.p c.id c.sess).2 })
 else if c.kind = 4 then (⟨c.kind, c.id, yll', (ybr' S.p c.id c.yes).1.2, 0, (ybr' S.p c.id c.yes).1.1, false⟩, { S with p := (ybr' S.p c.id c.yes).2 })
 else if c.kind = 5 then (⟨c.kind, c.id, yll', (ynm' S.c c.id c.shards).1, 0, [], false⟩, { S with c := (ynm' S.c c.id c.shards).2 })
 else if c.kind = 6 then (⟨c.kind, c.id, yll', (yu1' S.c c.id c.shard c.yes).1, 0, [], false⟩, { S with c := (yu1' S.c c.id c.shard c.yes).2 })
 else if c.kind = 7 then (⟨c.kind, c.id, yll', (ytl' S.c c.id c.shard).1, 0, [], false⟩, { S with c := (ytl' S.c c.id c.shard).2 })
 else (⟨c.kind, c.id, yll', (yks' S.c c.id).2.1, 0, [], (yks' S.c c.id).1⟩, { S with c := (yks' S.c c.id).2.2 })
def ylf' (b : Bs) (K : List (Bs × OutS)) : Option OutS := (K.find? fun e => decide (e.1 = b)).map (·.2)
def yc5' (S : ShardS) (b : Bs) : OutS × ShardS := match getC b with
 | none => (badO, { S with played := S.played + 1 })
 | some c => match ylf' b S.known with
  | some o => (o, { S with played := S.played + 1 })
  | none => ((doC { S with played := S.played + 1 } c).1, { (doC { S with played := S.played + 1 } c).2 with known := S.known ++ [(b, (doC { S with played := S.played + 1 } c).1)] })
def ycq' : List Bs → ShardS → List OutS × ShardS
 | [], S => ([], S)
 | b :: l, S => ((yc5' S b).1 :: (ycq' l (yc5' S b).2).1, (ycq' l (yc5' S b).2).2)
def yg7' (room : Int) : ShardS := ⟨newP room, [], 0, []⟩
end Go.Proofs.YtcnkifbjlihaoaaGreatDoor

namespace Go.Proofs.YtcnkifbjlihaoaaGreatDoor
open Go.RowKit Go.Av
section
variable {w0 w : World} {P P' : List PRow} {R : List Thing} {rows : List (Value × Bs)}
end
end Go.Proofs.YtcnkifbjlihaoaaGreatDoor

namespace Go.Av
open Go.RowKit
section
variable {P : Program} {w0 w : World} {R Ts Ts' : List Thing} {rows : List (Value × Bs)} {Pl : List PRow}
end
section
variable {P : Program} {ops : Array Oper} {Q : Exit → Act → World → Prop} {a : Act} {w w0 : World} {rest : List Oper} {Ts Ts' : List Thing} {rows : List (Value × Bs)} {dst : Option Tmp} {tyy t e : TypeId} {pos : String} {aft : Array Edge}
end
end Go.Av

namespace Go.Proofs.YtcnkifbjlihaoaaGreatDoor
open Go.RowKit Go.Av
section
variable {w0 w : World} {P P' : List PRow} {R : List Thing} {rows : List (Value × Bs)}
end
end Go.Proofs.YtcnkifbjlihaoaaGreatDoor

namespace Go.Proofs.YtcnkifbjlihaoaaGreatDoor
open Go.RowKit Go.Av
section
variable {w0 w : World} {P P' : List PRow} {R : List Thing} {rows : List (Value × Bs)}
end
end Go.Proofs.YtcnkifbjlihaoaaGreatDoor
