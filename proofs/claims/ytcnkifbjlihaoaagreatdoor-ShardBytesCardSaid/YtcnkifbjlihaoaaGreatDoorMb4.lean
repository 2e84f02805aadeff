/-
  Texts of this claim, laid together.
-/
import Derived.Test.YtcnkifbjlihaoaaGreatDoorMb3
import Derived.WalkKit
import Derived.Deep.DeepCutAuto
import Derived.Sort.KeysCollected
import Derived.Lib.SlKeysI
import Derived.Shelf.SlIter.Nil
import Derived.Shelf.SortM.Plain
import Derived.Shelf.SortM.SortNone
import Derived.Ground.GgzProg
import Derived.Ground.SlgmProg
import Derived.Test.YtcnkifbjlihaoaaGreatDoorProg
import Derived.Lib.ConvBytes
set_option linter.unusedVariables false
set_option linter.unusedSimpArgs false

namespace Go.Proofs.YtcnkifbjlihaoaaGreatDoor
open Go.RowKit Go.Av
theorem sl_x1 : SliceN Tryz.prog 53 2 1 8 := .of Tryz.underlying53 (by kernel_rfl)
section
variable {w0 w : World} {P P' : List PRow} {R : List Thing} {rows : List (Value × Bs)}
theorem yf6' {K : Nat} {v : Value} {xs : List Value} (h : Sep w0 w (ybc' K v xs :: R) rows) : ∃ E, ReadRow w K v xs E := by
 obtain ⟨D, hD⟩ := h.fst
 obtain ⟨E, hE, -⟩ := OwnRow.read hD
 exact ⟨E, hE⟩
theorem yhy' {v : Value} {l : Bs} (h : Sep w0 w (ybc' 1 v (l.map bv) :: R) rows) (x : Int) (hl : l.length ≤ 1000000) :
  Calls Tryz.prog 119 #[v, .int .i64 x] w fun e w' => ∃ v', e = .returned v' ∧ Sep w0 w' (ybc' 1 v' ((l ++ yad' x).map bv) :: R) rows := by
 obtain ⟨E, hE⟩ := yf6' h
 refine (yka' v l E x w hE (by omega)).mono ?_
 rintro e w' ⟨v', D, rfl, ho, hu⟩
 exact ⟨v', rfl, (h.drop).addRow ho hu⟩
theorem ykm' {v : Value} {l : Bs} (h : Sep w0 w (ybc' 1 v (l.map bv) :: R) rows) (s : ByteArray) (hl : l.length ≤ 1000000) (hs : s.size ≤ 1000000) :
  Calls Tryz.prog 116 #[v, .string s] w fun e w' => ∃ v', e = .returned v' ∧ Sep w0 w' (ybc' 1 v' ((l ++ ybl' s.data.toList).map bv) :: R) rows := by
 obtain ⟨E, hE⟩ := yf6' h
 refine (ysl' v l E s w hE hl hs).mono ?_
 rintro e w' ⟨v', D, rfl, ho, hu⟩
 exact ⟨v', rfl, (h.drop).addRow ho hu⟩
theorem yer' {v : Value} {l : Bs} {c n : Nat} {xs : List Int} {T : TypeId} (h : Sep w0 w (ybc' 1 v (l.map bv) :: yac' c (.cells (xs.map ivn).toArray T (0, 0)) :: R) rows) (hn : xs.length = n) (hx : n ≤ 1000) (hl : l.length ≤ 1000000) :
  Calls Tryz.prog 115 #[v, .slice (some ⟨c, 0, none⟩) n n] w fun e w' => ∃ v', e = .returned v' ∧ Sep w0 w' (ybc' 1 v' ((l ++ xs.flatMap yad').map bv) :: R) rows := by
 obtain ⟨E, hE⟩ := yf6' h
 have h1 := Sep.poolCell (K := 1) (n := n) (cs := xs.map ivn) (P := []) (h.up1.poolNew.up1) (by simp [hn]) hx
 obtain ⟨F, hF⟩ := h1.poolGet k_s
 refine (yv7' v _ l xs E F w hE hF hl (by omega)).mono ?_
 rintro e w' ⟨v', D, rfl, ho, hu⟩
 exact ⟨v', rfl, (h.drop.drop).addRow ho hu⟩
def yes' (w0 : World) (l : Bs) (R : List Thing) (rows : List (Value × Bs)) (e : Ending) (w' : World) : Prop :=
 ∃ v, e = .returned v ∧ Sep w0 w' (ybc' 1 v (l.map bv) :: R) rows
def yu9' (w0 : World) (b : Nat) (l0 : Bs) (req : Array Value) (ops : List OpS) (P : List PRow) (R : List Thing) (rows : List (Value × Bs)) (k : Nat) (v3 v21 : Value) (w : World) : Prop :=
 ∃ (i : Nat), i + k = ops.length ∧ v21 = .int .i64 (i : Int) ∧ Sep w0 w (ybc' 1 v3 ((l0 ++ (ops.take i).flatMap opB).map bv) :: yac' b (.cells req 42 (0, 0)) :: yab' w0 P :: R) rows
set_option maxRecDepth 100000 in
set_option maxHeartbeats 4000000 in
theorem ylq' (h : Sep w0 w (yab' w0 P :: R) rows) (hd : DoorN w0) (sess num : Int) (ops : List OpS) (v : Value) (hv : (5, v, ops.flatMap OpS.cells) ∈ P) (hp : ∀ o ∈ ops, o.path.size ≤ 100000) :
  Calls Tryz.prog 117 #[.agg #[.int .i64 sess, .int .i64 num, v]] w (yes' w0 (putR sess num ops) (yab' w0 P :: R) rows) := by
 obtain ⟨E, hE⟩ := h.poolGet hv
 obtain ⟨a, n, c, rfl, hl0, -, -, hne⟩ := ReadRow.some hE
 rw [yar' yai'] at hl0
 obtain rfl : ops.length = n := by omega
 have HNE := Lib.hid hne
 have HV := Lib.hid (show _ ∧ _ from ⟨hv, hp⟩)
 have HX := Lib.hid h
 obtain ⟨bs, hbs⟩ : ∃ bs, putR sess num ops = bs := ⟨_, rfl⟩
 rw [hbs]
 have HBS := Lib.hid hbs
 clear h hE hne hv hp hl0 hbs
 go_enter Tryz.func117, Tryz.ntmps117
 go_wp2_with (first | refine u0 ?_ | (refine uS ?_; clear HX; intro w HX) | (refine uA ?_; clear HX; (first | (have hq := b2; clear hq; intro w b3 HX) | (have hq := b; clear hq; intro w b2 HX) | intro w b HX)))
 refine (yj6' HX.out.up1 hd sess num ops _ HV.out.1 HV.out.2).mono ?_
 obtain ⟨me, hme⟩ : ∃ me, mayS sess num ops = me := ⟨_, rfl⟩
 rw [hme]
 have HME := Lib.hid hme
 rintro e w ⟨rfl, hx⟩
 clear HX hme
 have HX := Lib.hid hx
 clear hx
 by_cases h0 : me = 0
 case neg =>
  have q1 : (me != 0) = true := by rw [bne_iff_ne]; exact h0
  obtain rfl : bs = [] := by rw [← HBS.out]; unfold putR; rw [HME.out, if_pos h0]
  clear h0
  go_wp2_with (first | refine u0 ?_ | (refine uS ?_; clear HX; intro w HX) | (refine uA ?_; clear HX; (first | (have hq := b2; clear hq; intro w b3 HX) | (have hq := b; clear hq; intro w b2 HX) | intro w b HX)))
  go_ret
  exact ⟨_, rfl, HX.out.up1.drop.nilRow 1⟩
 case pos =>
  subst h0
  have hg := yfw' HME.out
  have hn := ygl' HME.out
  have HGD := Lib.hid (show _ ∧ _ from ⟨hn.2.2.1, hg⟩)
  clear hn
  have hb0 := HBS.out
  unfold putR at hb0
  rw [HME.out, if_neg (fun hh => hh rfl)] at hb0
  have HB0 := Lib.hid hb0
  clear hb0 hg HBS
  go_wp2_with (first | refine u0 ?_ | (refine uS ?_; clear HX; intro w HX) | (refine uA ?_; clear HX; (first | (have hq := b2; clear hq; intro w b3 HX) | (have hq := b; clear hq; intro w b2 HX) | intro w b HX)))
  refine (yer' (l := []) (xs := [sess, num, (ops.length : Int)]) (n := 3) ((HX.out.newCell _).nilRow 1) rfl (by omega) (by simp)).mono ?_
  rintro e w ⟨v3, rfl, hx⟩
  rw [List.nil_append] at hx
  obtain ⟨l0, hl0⟩ : ∃ l0, [sess, num, (ops.length : Int)].flatMap yad' = l0 := ⟨_, rfl⟩
  rw [hl0] at hx
  have HL0 := Lib.hid hl0
  have HN0 := Lib.hid (show l0.length = 24 by rw [← hl0]; rfl)
  clear HX hl0
  have HX := Lib.hid hx
  clear hx
  go_wp2_with (first | refine u0 ?_ | (refine uS ?_; clear HX; intro w HX) | (refine uA ?_; clear HX; (first | (have hq := b2; clear hq; intro w b3 HX) | (have hq := b; clear hq; intro w b2 HX) | intro w b HX)))
  have HST := Lib.hid (show yu9' w0 b l0 #[.int .i64 sess, .int .i64 num, .slice a ops.length c] ops P R rows ops.length v3 (.int .i64 (0 : Int)) w from ⟨0, by simp, rfl, by rw [k_g, List.flatMap_nil, List.append_nil]; exact HX.out.pm 3 [0, 2, 1] rfl rfl⟩)
  clear HX
  go_loopg [3, 5, 21] ops.length (fun k v3 _ v21 wr => yu9' w0 b l0 #[.int .i64 sess, .int .i64 num, .slice a ops.length c] ops P R rows k v3 v21 wr)
  case atStart => exact HST.out
  case round =>
   rename World => w
   obtain ⟨i, hik, rfl, hS⟩ := hrel
   clear HST
   have HX := Lib.hid hS
   clear hS
   by_cases hlt : i < ops.length
   case neg =>
    obtain rfl : i = ops.length := by omega
    rw [List.take_length] at HX
    clear hlt hik
    go_wp2_with (first | refine u0 ?_ | (refine uS ?_; clear HX; intro w HX) | (refine uA ?_; clear HX; (first | (have hq := b2; clear hq; intro w b3 HX) | (have hq := b; clear hq; intro w b2 HX) | intro w b HX)))
    go_ret
    refine ⟨_, rfl, ?_⟩
    rw [← HB0.out]
    have e : yad' sess ++ (yad' num ++ (yad' (ops.length : Int) ++ ops.flatMap opB)) = l0 ++ ops.flatMap opB := by rw [← HL0.out]; simp [List.flatMap_cons]
    rw [e]
    exact HX.out.up1.drop
   case pos =>
    obtain ⟨g, off, rfl⟩ := HNE.out (by intro e; have := congrArg List.length e; rw [yar' yai'] at this; simp at this; omega)
    obtain ⟨E, hE⟩ := HX.out.up2.poolGet HV.out.1
    have hl := yc2' (P := Tryz.prog) (f := OpS.cells) (i := i) hE yai' sn_op hlt
    have hgd := HGD.out.2 ops[i] (List.getElem_mem hlt)
    have hbl : (l0 ++ (ops.take i).flatMap opB).length ≤ 20000 := by
     have h1 := yhe' (ops.take i) (fun o ho => HGD.out.2 o (List.mem_of_mem_take ho))
     have h2 := HN0.out
     have h3 := HGD.out.1
     rw [List.length_append]
     rw [List.length_take] at h1
     omega
    have hnx : l0 ++ (ops.take (i + 1)).flatMap opB = (l0 ++ (ops.take i).flatMap opB) ++ opB ops[i] := by
     rw [List.take_succ_eq_append_getElem hlt, List.flatMap_append, List.append_assoc]
     simp
    obtain ⟨bs, hbs⟩ : ∃ bs, l0 ++ (ops.take i).flatMap opB = bs := ⟨_, rfl⟩
    rw [hbs] at HX hbl hnx
    obtain ⟨o, ho⟩ : ∃ o, ops[i] = o := ⟨_, rfl⟩
    rw [ho] at hl hgd hnx
    obtain ⟨hg1, hg2, -, -⟩ := yce' hgd
    have hg3 := yb3' (yb2' hg1).2.2.1
    have q0 : decide (i < ops.length) = true := decide_eq_true hlt
    have q9 : i ≤ 16 := by have := HGD.out.1; omega
    obtain ⟨kind, path, data, ver, flags⟩ := o
    dsimp only [OpS.p] at hg2 hg3
    have hps : path.size ≤ 200 := by rw [show path.size = path.data.toList.length from (Array.length_toList).symm]; exact hg3
    have HNX := Lib.hid hnx
    have HSZ := Lib.hid (show _ ∧ _ ∧ _ ∧ _ from ⟨hbl, hps, hg2, hg3⟩)
    simp only [OpS.cells] at hl
    clear hE ho hbs hgd hg1 hg2 hg3 hnx hbl hps
    go_wp2_with (first | refine u0 ?_ | (refine uS ?_; clear HX; intro w HX) | (refine uA ?_; clear HX; (first | (have hq := b2; clear hq; intro w b3 HX) | (have hq := b; clear hq; intro w b2 HX) | intro w b HX)) | ((with_reducible apply yau' hl); (· rfl); (· rfl); simp only [Act.put, k_a, k_b, k_c]))
    refine (yhy' HX.out.up1 kind (by have := HSZ.out.1; omega)).mono ?_
    rintro e w ⟨v4, rfl, hx⟩
    clear HX hl
    have HX := Lib.hid hx
    clear hx
    go_wp2_with (first | refine u0 ?_ | (refine uS ?_; clear HX; intro w HX) | (refine uA ?_; clear HX; (first | (have hq := b2; clear hq; intro w b3 HX) | (have hq := b; clear hq; intro w b2 HX) | intro w b HX)))
    refine rM (fun W => (∃ Ts, Sep w0 W (yac' b2 (.cells #[.int .i64 kind, .string path, .string data, .int .i64 ver, .int .i64 flags] 89 (0, 0)) :: Ts) rows)) 7 ?_
    intro KEEPX
    replace HX := Lib.hid HX.out.drew
    have hl : ∀ V, (∃ Ts, Sep w0 V (yac' b2 (.cells #[.int .i64 kind, .string path, .string data, .int .i64 ver, .int .i64 flags] 89 (0, 0)) :: Ts) rows) → (Instr.loadAt 9 (.pointer (some ⟨b2, 1, none⟩))).run Tryz.prog V = .ok (.string path) V := by
     rintro V ⟨Ts, hV⟩
     exact yag' (by kernel_rfl) (yaa' hV.blk 1 rfl)
    have hl2 : ∀ V, (∃ Ts, Sep w0 V (yac' b2 (.cells #[.int .i64 kind, .string path, .string data, .int .i64 ver, .int .i64 flags] 89 (0, 0)) :: Ts) rows) → (Instr.loadAt 9 (.pointer (some ⟨b2, 2, none⟩))).run Tryz.prog V = .ok (.string data) V := by
     rintro V ⟨Ts, hV⟩
     exact yag' (by kernel_rfl) (yaa' hV.blk 2 rfl)
    refine rT [(0, false), (1, false), (2, true), (4, false), (5, true)] 3 ?_
    apply Exists.intro; refine ⟨?_, ⟨_, HX.out.up1⟩, ?_⟩
    ·iterate 5 (refine xE ?_)
     exact rfl
    clear hl hl2
    refine r1 2 3 fun K hK => ?_
    go_wp2_with fail
    refine (ykm' HX.out path (by have := HSZ.out.1; rw [List.length_append, yaf']; omega) (by have := HSZ.out.2.1; omega)).mono ?_
    rintro e w ⟨v5, rfl, hx⟩
    replace HX := Lib.hid hx
    clear hx
    go_wp2_with fail
    refine hK _ _ ⟨_, HX.out.up1⟩ ?_
    clear hK
    refine r1 1 6 fun K hK => ?_
    go_wp2_with fail
    refine (ykm' HX.out data (by have := HSZ.out.1; have := HSZ.out.2.2.2; unfold ybl'; simp only [List.length_append, yaf']; omega) (by have := HSZ.out.2.2.1; omega)).mono ?_
    rintro e w ⟨v6, rfl, hx⟩
    replace HX := Lib.hid hx
    clear hx
    go_wp2_with fail
    refine hK _ _ ⟨_, HX.out.up1⟩ ?_
    clear hK
    refine rL [7] 0 ?_
    simp only [List.filterMap_cons, List.filterMap_nil, k_i, k_j, k_k]
    go_wp2_with (first | refine u0 ?_ | (refine uS ?_; clear HX; intro w HX) | (refine uA ?_; clear HX; (first | (have hq := b2; clear hq; intro w b3 HX) | (have hq := b; clear hq; intro w b2 HX) | intro w b HX)))
    refine (yer' (xs := [ver, flags]) (n := 2) ((HX.out.newCell _).up1) rfl (by omega) (by have := HSZ.out.1; have := HSZ.out.2.2.2; have h3 : data.data.toList.length ≤ 1000 := HSZ.out.2.2.1; unfold ybl'; simp only [List.length_append, yaf']; omega)).mono ?_
    rintro e w ⟨v7, rfl, hx⟩
    have e7 : bs ++ opB ⟨kind, path, data, ver, flags⟩ = (bs ++ yad' kind ++ ybl' path.data.toList ++ ybl' data.data.toList) ++ [ver, flags].flatMap yad' := by
     unfold opB OpS.p
     simp [List.flatMap_cons, List.append_assoc]
    rw [← e7, ← HNX.out] at hx
    replace HX := Lib.hid hx
    clear hx e7
    go_wp2_with (first | refine u0 ?_ | (refine uS ?_; clear HX; intro w HX) | (refine uA ?_; clear HX; (first | (have hq := b2; clear hq; intro w b3 HX) | (have hq := b; clear hq; intro w b2 HX) | intro w b HX)))
    go_roundg (ops.length - (i + 1))
    case rel => exact ⟨i + 1, by omega, by go_num, HX.out.pm 4 [0, 2, 3] rfl rfl⟩
    case measure => omega
end
end Go.Proofs.YtcnkifbjlihaoaaGreatDoor

namespace Go.Av
open Go.RowKit
def ybv' (b : UInt8) (acc : List Bs) (c : UInt8) : List Bs := if c = b then acc ++ [[]] else acc.dropLast ++ [acc.getLastD [] ++ [c]]
def cutG (b : UInt8) (l : Bs) : List Bs := l.foldl (ybv' b) [[]]
theorem ywh' (b : UInt8) (l : Bs) : cutG b l ≠ [] := by
 have : ∀ (l : Bs) (acc : List Bs), acc ≠ [] → l.foldl (ybv' b) acc ≠ [] := by
  intro l
  induction l with
  | nil => exact fun _ h => h
  | cons c l ih =>
   intro acc h
   refine ih _ ?_
   unfold ybv'
   split <;> simp
 exact this l _ (by simp)
theorem yp8' (b : UInt8) (l : Bs) (c : UInt8) : cutG b (l ++ [c]) = ybv' b (cutG b l) c := by
 unfold cutG
 rw [List.foldl_append]
 rfl
theorem yk8' (b : UInt8) : ∀ (l : Bs) (acc : List Bs) (n : Nat), (∀ x ∈ acc, x.length ≤ n) → ∀ x ∈ l.foldl (ybv' b) acc, x.length ≤ n + l.length
 | [], acc, n, h => h
 | c :: l, acc, n, h => fun x hx => by
  rw [List.foldl_cons] at hx
  have := yk8' b l (ybv' b acc c) (n + 1) (fun y hy => by
   unfold ybv' at hy
   split at hy
   ·rcases List.mem_append.1 hy with hy | hy
    ·have := h y hy; omega
    ·rw [List.mem_singleton.1 hy]; simp
   ·rcases List.mem_append.1 hy with hy | hy
    ·have := h y (List.dropLast_subset _ hy); omega
    ·rw [List.mem_singleton.1 hy, List.length_append]
     cases hg : acc.getLast? with
     | none => rw [List.getLastD_eq_getLast?, hg]; simp
     | some z =>
      rw [List.getLastD_eq_getLast?, hg]
      have := h z (List.mem_of_getLast? hg)
      simp; omega) x hx
  rw [List.length_cons]; omega
theorem ytf' {b : UInt8} {l x : Bs} (h : x ∈ cutG b l) : x.length ≤ l.length := by
 have := yk8' b l [[]] 0 (by simp) x h
 omega
theorem yjw' : ∀ (l : Bs) (acc : List Bs) (x : Bs), l.foldl (ybv' 47) (acc ++ [x]) = acc ++ (match cutS l with | [] => [x] | y :: t => (x ++ y) :: t)
 | [], acc, x => by simp [cutS]
 | c :: l, acc, x => by
  rw [List.foldl_cons]
  by_cases hc : c = 47
  ·subst hc
   have e1 : ybv' 47 (acc ++ [x]) 47 = (acc ++ [x]) ++ [[]] := by unfold ybv'; rw [if_pos rfl]
   rw [e1, yjw' l, cutS, if_pos rfl]
   cases hs : cutS l with
   | nil => exact absurd hs (yc8' l)
   | cons y t => simp
  ·have e1 : ybv' 47 (acc ++ [x]) c = acc ++ [x ++ [c]] := by unfold ybv'; rw [if_neg hc]; simp
   rw [e1, yjw' l, cutS, if_neg hc]
   cases hs : cutS l with
   | nil => exact absurd hs (yc8' l)
   | cons y t => simp
theorem yte' (l : Bs) : cutG 47 l = cutS l := by
 unfold cutG
 have := yjw' l [] []
 rw [List.nil_append] at this
 rw [this]
 cases hs : cutS l with
 | nil => exact absurd hs (yc8' l)
 | cons y t => simp
theorem yei' : ∀ {l : Bs} {x : Bs}, x ∈ cutS l → 47 ∉ x
 | [], x, h => by simp [cutS] at h; simp [h]
 | c :: l, x, h => by
  unfold cutS at h
  split at h
  ·rcases List.mem_cons.1 h with rfl | h
   ·simp
   ·exact yei' h
  ·rename_i hc
   split at h
   ·rename_i h0; exact absurd h0 (yc8' l)
   ·rename_i y t hy
    rcases List.mem_cons.1 h with rfl | h
    ·have := yei' (x := y) (l := l) (by rw [hy]; simp)
     simp only [List.mem_cons, not_or]
     exact ⟨fun e => hc e.symm, this⟩
    ·exact yei' (x := x) (l := l) (by rw [hy]; simp [h])
def ymw' (l : Bs) : Bool := decide (1 ≤ l.length) && decide (l.length ≤ 40) && !(l == [46]) && !(l == [46, 46]) && l.all fun c => okCh c && !(c == 47)
theorem yt2' {l : Bs} (h : 47 ∉ l) : ymw' l = yel' l := by
 have : (l.all fun c => okCh c && !(c == 47)) = l.all okCh := by
  rw [Bool.eq_iff_iff, List.all_eq_true, List.all_eq_true]
  constructor
  ·intro ha c hc
   have := ha c hc
   simp only [Bool.and_eq_true] at this
   exact this.1
  ·intro ha c hc
   have h1 : (c == 47) = false := beq_eq_false_iff_ne.2 fun e => h (e ▸ hc)
   rw [ha c hc, h1]
   rfl
 unfold ymw' yel'
 rw [this]
 cases l.all okCh <;> simp [Bool.and_assoc]
theorem Sep.one {w w' : World} {v : Value} {xs : List Value} {size : Nat} {rows : List (Value × Bs)} (h : Sep w w' [ybc' size v xs] rows) : ∃ D, OwnRow w' size v xs D ∧ Upd w w' [] D := by
 obtain ⟨D, hl, hu, -⟩ := h
 cases hl with
 | @cons _ D _ E h1 h2 h3 =>
  cases h3 with
  | nil => exact ⟨D, h1, by simpa using hu⟩
end Go.Av
namespace Go.Proofs.YtcnkifbjlihaoaaGreatDoor
open Go.RowKit Go.Av
theorem yyw' : (Tryz.prog.info? 9).map (fun i => (i.zero, i.size, i.bytes)) = some (some (.string ByteArray.empty), 1, 16) := by kernel_rfl
set_option maxRecDepth 100000 in
set_option maxHeartbeats 2000000 in
theorem ytd' (s : ByteArray) (b : UInt8) (w : World) (hs : s.size ≤ 1000000) :
  Calls Tryz.prog 194 #[.string s, .int .u8 b.toNat] w (yfq' w (cutG b s.data.toList)) := by
 obtain ⟨i0, hi0, hz0, hz1, hz2⟩ := info_parts yyw'
 have h0 := (Sep.start w).addRow (OwnRow.made w 9 1 1 1 #[.string ⟨#[]⟩] [sv []] rfl (Nat.le_refl _) (by decide) (Nat.le_refl _) rfl) (Upd.alloc1 w _ [])
 have H0 := Lib.hid h0
 have hbt : b.toNat < 256 := UInt8.toNat_lt b
 clear h0
 go_enter Tryz.func194, Tryz.ntmps194
 go_wp2_with fail
 go_loopg [5, 6] s.size (fun k vl vi wr => ∃ p : Nat, p ≤ s.size ∧ k = s.size - p ∧ vi = .int .i64 (p : Int) ∧ Sep w wr [ybc' 1 vl ((cutG b (s.data.toList.take p)).map sv)] [])
 case atStart => exact ⟨0, Nat.zero_le _, rfl, rfl, H0.out⟩
 case round =>
  obtain ⟨p, hp, hk, hvi, hS⟩ := hrel
  subst hvi
  clear H0
  by_cases hlt : p < s.size
  case neg =>
   obtain rfl : p = s.size := by omega
   rw [List.take_of_length_le (by simp)] at hS
   have HO := Lib.hid hS.one
   clear hS
   go_wp2_with fail
   go_ret
   obtain ⟨D, h1, h2⟩ := HO.out
   exact ⟨_, D, rfl, h1, h2⟩
  have hts : s.data.toList.take (p + 1) = s.data.toList.take p ++ [s[p]] := by
   rw [List.take_succ_eq_append_getElem (by simpa using hlt)]; rfl
  have hsn := yp8' b (s.data.toList.take p) s[p]
  rw [← hts] at hsn
  have hne := ywh' b (s.data.toList.take p)
  have hcl : (cutG b (s.data.toList.take p)).length ≤ p + 1 := by
   have : ∀ (l : Bs), (cutG b l).length ≤ l.length + 1 := fun l => by
    unfold cutG
    have : ∀ (l : Bs) (acc : List Bs), acc ≠ [] → (l.foldl (ybv' b) acc).length ≤ l.length + acc.length := by
     intro l
     induction l with
     | nil => intro acc _; simp
     | cons c l ih =>
      intro acc h
      rw [List.foldl_cons]
      have h1 : (ybv' b acc c).length ≤ acc.length + 1 := by
       unfold ybv'
       split
       ·simp
       ·simp only [List.length_append, List.length_dropLast, List.length_singleton]; omega
      have := ih (ybv' b acc c) (by unfold ybv'; split <;> simp)
      rw [List.length_cons]
      omega
    have := this l [[]] (by simp)
    simpa using this
   have := this (s.data.toList.take p)
   rw [List.length_take] at this
   omega
  obtain ⟨acc, hacc⟩ : ∃ acc, cutG b (s.data.toList.take p) = acc := ⟨_, rfl⟩
  rw [hacc] at hsn hne hcl hS
  obtain ⟨al, nl, cl, rfl, hll, hnl, hml⟩ := hS.rowLen
  rw [List.length_map, Nat.mul_one] at hll
  subst hll
  unfold maxLen at hml
  by_cases hc : s[p] = b
  ·have hcb : ((s[p].toNat : Int) == (b.toNat : Int)) = true := by rw [hc]; simp
   unfold ybv' at hsn
   rw [if_pos hc] at hsn
   obtain ⟨D, hown, -, back⟩ := hS.use
   have ha1 := Upd.alloc0 wr (.cells #[.string ⟨#[]⟩] 9 (0, 0)) []
   have hownA : OwnRow _ 1 _ _ D := OwnRow.frame hown (ha1.same (OwnRow.lt hown) (by simp))
   obtain ⟨nb, hnb, hsrc⟩ := (yju' wr (.string ⟨#[]⟩) 9 (0, 0)).src (P := Tryz.prog) (tx := 94) Tryz.underlying94 (by intro u hu; rw [List.mem_singleton.1 hu]; rfl)
   obtain rfl : 1 = nb := by simpa using hnb
   have HBD := Lib.hid (show ∀ n', (acc.map sv).length = n' * 1 → n' + 1 ≤ 140737488355328 ∧ (n' + 1) * i0.bytes ≤ 140737488355328 from fun n' hn' => by
    rw [List.length_map] at hn'
    rw [hz2]; omega)
   have HBK := Lib.hid back
   have HSN := Lib.hid hsn
   clear hown back hS hnb hsn hts hne hacc hc
   go_wp2_with (at_builtin; go_must (refine ybs' rfl _ _ 94 94 rfl 1 _ _ _ rfl hownA _ i0 _ Tryz.underlying94 hi0 hz0 hz1 rfl _ _ _ rfl hsrc HBD.out ?_); intro a7 n7 c7 w7 D7 hown7 hu7)
   have HN := Lib.hid (HBK.out w7 D7 (ybc' 1 (.slice a7 n7 c7) ((acc ++ [[]]).map sv)) ((ha1.mono (by simp) (fun b hb => .inr hb) : Upd wr _ D D).trans hu7) (by rw [List.map_append]; exact hown7))
   clear hown7 hu7 hsrc hownA
   go_roundg (s.size - (p + 1))
   case rel => exact ⟨p + 1, by omega, rfl, by go_num, by rw [HSN.out]; exact HN.out⟩
   case measure => omega
  ·have hcb : ((s[p].toNat : Int) == (b.toNat : Int)) = false := beq_eq_false_iff_ne.2 fun e => hc (UInt8.toNat_inj.1 (by omega))
   unfold ybv' at hsn
   rw [if_neg hc] at hsn
   obtain ⟨k, hkl⟩ : ∃ k, acc.length = k + 1 := ⟨acc.length - 1, by have := List.length_pos_iff.2 hne; omega⟩
   have hlast : acc[k]? = some (acc.getLastD []) := by
    rw [List.getLastD_eq_getLast?, List.getLast?_eq_getElem?, hkl, Nat.add_sub_cancel, List.getElem?_eq_getElem (by omega)]
    rfl
   have hdl : acc.dropLast ++ [acc.getLastD [] ++ [s[p]]] = acc.set k (acc.getLastD [] ++ [s[p]]) := by
    apply List.ext_getElem?
    intro j
    rw [List.getElem?_set]
    by_cases hj : k = j
    ·subst hj
     rw [if_pos rfl, List.getElem?_append_right (by rw [List.length_dropLast]; omega), List.length_dropLast, hkl]
     simp
    ·rw [if_neg hj]
     by_cases hjk : j < k
     ·rw [List.getElem?_append_left (by rw [List.length_dropLast]; omega), List.getElem?_dropLast]
      simp; omega
     ·rw [List.getElem?_append_right (by rw [List.length_dropLast]; omega), List.length_dropLast, hkl, List.getElem?_eq_none (l := acc) (by omega)]
      simp; omega
   rw [hdl] at hsn
   obtain ⟨xl, hxl⟩ : ∃ xl, acc.getLastD [] = xl := ⟨_, rfl⟩
   rw [hxl] at hsn hlast
   have hxm : xl ∈ cutG b (s.data.toList.take p) := by rw [hacc]; exact List.mem_of_getElem? hlast
   have hxs := ytf' hxm
   rw [List.length_take] at hxs
   rw [hkl] at hS
   obtain ⟨y, rfl, hys, hcy⟩ := hS.rowCell (i := k) (x := sv xl) (by rw [List.getElem?_map, hlast]; rfl)
   obtain ⟨fy, -, -, hset⟩ := hS.drew.rowSet (i := k) (by omega) (sv (xl ++ [s[p]]))
   have hext : (⟨xl.toArray⟩ : ByteArray) ++ s.extract p (p + 1) = ⟨(xl ++ [s[p]]).toArray⟩ := by
    apply WideShapes.bytes_inj
    rw [ByteArray.data_append, Array.toList_append, Lib.extract_data]
    have : (s.data.toList.drop p).take (p + 1 - p) = [s[p]] := by
     rw [show p + 1 - p = 1 by omega, List.drop_eq_getElem_cons (by simpa using hlt)]; rfl
    rw [this]
   have HSN := Lib.hid (show _ ∧ _ ∧ _ from ⟨hsn, hset, hext⟩)
   clear hsn hts hne hacc hc hdl hxl hset hS hlast hext hxm
   rw [hkl]
   unfold sv at hcy
   obtain ⟨xs, hxs1⟩ : ∃ xs : ByteArray, xs = ⟨xl.toArray⟩ := ⟨_, rfl⟩
   have hxs2 : xs.size ≤ 1000000 := by rw [hxs1]; show xl.toArray.size ≤ _; simp; omega
   obtain ⟨es, hes⟩ : ∃ es, es = s.extract p (p + 1) := ⟨_, rfl⟩
   have hes2 : es.size ≤ 1 := by rw [hes]; simp; omega
   rw [← hxs1] at hcy
   rw [← hxs1, ← hes] at HSN
   have hk0 : IntKind.i64.wrap (k : Int) = (k : Int) := IntWalk.i64_in _ (by omega)
   have hp1 : IntKind.i64.wrap ((p : Int) + 1) = ((p + 1 : Nat) : Int) := by rw [IntWalk.i64_in _ (by omega)]; omega
   have hk2 : (k : Int) < (k : Int) + 1 := by omega
   have hp0 : 0 ≤ (p : Int) + 1 := by omega
   have hp2 : (p : Int) + 1 ≤ s.size := by omega
   have hp3 : (p : Int) ≤ (p : Int) + 1 := by omega
   go_wp2_with fail
   refine yan' (fun W => W.cell? (y.add k) = some (.string xs)) 15 (by kernel_rfl) ?_
   refine rT [(0, false), (1, false), (2, false), (3, false), (4, false), (5, false), (6, false), (7, false), (8, false), (9, true), (10, false), (11, false), (12, false), (13, false), (14, false)] 3 ?_
   apply Exists.intro; refine ⟨?_, hcy, ?_⟩
   ·iterate 15 ((first | (apply ybm'; (· (simp only [k_i, k_j, k_k]; try rfl)); (· rfl)) | ((first | apply yav' | apply yas'); (· (simp only [k_i, k_j, k_k]; try rfl)); (· rfl); (· (intros; go_simp; try with_reducible rfl)))); (· (simp only [Act.put, k_a, k_b, k_c]; try rfl)))
    exact rfl
   rw [← hes]
   refine rL [15, 16, 17] 0 ?_
   simp only [List.filterMap_cons, List.filterMap_nil, k_i, k_j, k_k]
   go_wp2_with fail
   go_roundg (s.size - (p + 1))
   case rel =>
    refine ⟨p + 1, by omega, rfl, by go_num, ?_⟩
    rw [HSN.out.1, ← hxs1, ← hes, HSN.out.2.2]
    have := HSN.out.2.1
    rw [← List.map_set] at this
    exact this
   case measure => omega
end Go.Proofs.YtcnkifbjlihaoaaGreatDoor

namespace Go.Proofs.YtcnkifbjlihaoaaGreatDoor
open Go.RowKit Go.Av
set_option maxRecDepth 100000 in
set_option maxHeartbeats 2000000 in
theorem yo6' (s : ByteArray) (w : World) (hs : s.size ≤ maxLen) :
  Calls Tryz.prog 195 #[.string s] w fun e w' => e = .returned (.bool (ymw' s.data.toList)) ∧ w' = w := by
 unfold maxLen at hs
 have hsz : s.size = s.data.toList.length := by simp
 have hT : s.toList = s.data.toList := Go.Lib.toList_data s
 have hnm : ymw' s.data.toList = (decide (1 ≤ s.size) && decide (s.size ≤ 40) && !(s.toList == [46]) && !(s.toList == [46, 46]) && s.data.toList.all fun c => okCh c && !(c == 47)) := by
  unfold ymw'
  rw [hsz, hT]
 have HN := Lib.hid hnm
 clear hnm hsz hT
 by_cases h1 : (s.size : Int) < 1
 ·go_enter Tryz.func195, Tryz.ntmps195
  go_wp2_with fail
  go_ret
  rw [HN.out, show decide (1 ≤ s.size) = false from decide_eq_false (by omega)]
  exact ⟨rfl, rfl⟩
 by_cases h2 : 40 < (s.size : Int)
 ·go_enter Tryz.func195, Tryz.ntmps195
  go_wp2_with fail
  go_ret
  rw [HN.out, show decide (s.size ≤ 40) = false from decide_eq_false (by omega), Bool.and_false]
  exact ⟨rfl, rfl⟩
 have hd1 : decide (1 ≤ s.size) = true := decide_eq_true (by omega)
 have hd2 : decide (s.size ≤ 40) = true := decide_eq_true (by omega)
 have HD := Lib.hid (show _ ∧ _ from ⟨hd1, hd2⟩)
 clear hd1 hd2
 cases h3 : (s.toList == [46]) with
 | true =>
  have h3' : s.toList = [46] := by simpa using h3
  have H3 := Lib.hid h3
  go_enter Tryz.func195, Tryz.ntmps195
  go_wp2_with fail
  go_ret
  rw [HN.out, H3.out]
  exact ⟨by simp, rfl⟩
 | false =>
 cases h4 : (s.toList == [46, 46]) with
 | true =>
  have h3' : ¬ s.toList = [46] := by simpa using h3
  have h4' : s.toList = [46, 46] := by simpa using h4
  have H4 := Lib.hid h4
  go_enter Tryz.func195, Tryz.ntmps195
  go_wp2_with fail
  go_ret
  rw [HN.out, H4.out]
  exact ⟨by simp, rfl⟩
 | false =>
 have h3' : ¬ s.toList = [46] := by simpa using h3
 have h4' : ¬ s.toList = [46, 46] := by simpa using h4
 have hnm : ymw' s.data.toList = s.data.toList.all fun c => okCh c && !(c == 47) := by
  rw [HN.out, HD.out.1, HD.out.2, h3, h4]
  simp
 have HN := Lib.hid hnm
 clear hnm
 go_enter Tryz.func195, Tryz.ntmps195
 go_wp2_with fail
 go_loop [3] (fun i => ∃ p : Nat, p ≤ s.size ∧ i = .int .i64 p ∧ ((s.data.toList.take p).all fun c => okCh c && !(c == 47)) = true) (fun i => s.size - (intOf i).toNat)
 case atStart => exact ⟨0, Nat.zero_le _, rfl, rfl⟩
 case round =>
  obtain ⟨p, hp, rfl, ha⟩ := hrel
  by_cases hlt : p < s.size
  ·have hts : s.data.toList.take (p + 1) = s.data.toList.take p ++ [s[p]] := by
    rw [List.take_succ_eq_append_getElem (by simpa using hlt)]; rfl
   have hok : okCh s[p] = !(decide ((s[p].toNat : Int) < 33) || decide (126 < (s[p].toNat : Int))) := by
    unfold okCh
    congr 2
    ·rw [decide_eq_decide, UInt8.lt_iff_toNat_lt, show (33 : UInt8).toNat = 33 from rfl]; omega
    ·rw [decide_eq_decide, UInt8.lt_iff_toNat_lt, show (126 : UInt8).toNat = 126 from rfl]; omega
   have hmem : s[p] ∈ s.data.toList := by
    have : s.data.toList[p]'(by simpa using hlt) = s[p] := rfl
    rw [← this]; exact List.getElem_mem _
   have h47 : (s[p] == 47) = ((s[p].toNat : Int) == 47) := by
    rw [Bool.eq_iff_iff, beq_iff_eq, beq_iff_eq, ← UInt8.toNat_inj, show (47 : UInt8).toNat = 47 from rfl]; omega
   have hno : (okCh s[p] && !(s[p] == 47)) = false → ymw' s.data.toList = false := fun h => by
    rw [HN.out]
    exact List.all_eq_false.2 ⟨_, hmem, by simp [h]⟩
   have HX := Lib.hid (show _ ∧ _ ∧ _ ∧ _ ∧ _ from ⟨hts, ha, hok, h47, hno⟩)
   clear hts ha hok hmem h47 hno
   by_cases h1 : (s[p].toNat : Int) < 33
   ·go_wp2_with fail
    go_ret
    rw [HX.out.2.2.2.2 (by rw [HX.out.2.2.1]; simp [h1])]
    exact ⟨rfl, rfl⟩
   by_cases h2 : 126 < (s[p].toNat : Int)
   ·go_wp2_with fail
    go_ret
    rw [HX.out.2.2.2.2 (by rw [HX.out.2.2.1]; simp [h2])]
    exact ⟨rfl, rfl⟩
   cases h5 : ((s[p].toNat : Int) == 47) with
   | true =>
    have H5 := Lib.hid h5
    go_wp2_with fail
    go_ret
    rw [HX.out.2.2.2.2 (by rw [HX.out.2.2.2.1, H5.out]; simp)]
    exact ⟨rfl, rfl⟩
   | false =>
   have H5 := Lib.hid h5
   go_wp2_with fail
   go_round
   case rel =>
    refine ⟨p + 1, by omega, by go_num, ?_⟩
    rw [HX.out.1, List.all_append, HX.out.2.1, List.all_cons, HX.out.2.2.1, HX.out.2.2.2.1, H5.out]
    simp [h1, h2]
   case measure => simp [intOf]; omega
  obtain rfl : p = s.size := by omega
  rw [List.take_of_length_le (by simp)] at ha
  have HA := Lib.hid ha
  clear ha
  go_wp2_with fail
  go_ret
  rw [HN.out, HA.out]
  exact ⟨rfl, rfl⟩
theorem yrc' {s : ByteArray} {c : UInt8} {r : Bs} (h : s.data.toList = c :: r) : yaz' s.data.toList = if c = 47 ∧ s.size ≤ 200 ∧ (cutS r).all yel' = true ∧ (cutS r).length ≤ 8 then cutS r else [] := by
 have hsz : s.size = r.length + 1 := by
  have : s.size = s.data.toList.length := by simp
  rw [this, h, List.length_cons]
 rw [h]
 unfold yaz'
 have hg : ya4' (c :: r) = true ↔ (c = 47 ∧ s.size ≤ 200 ∧ (cutS r).all yel' = true ∧ (cutS r).length ≤ 8) := by
  unfold ya4'
  simp only [Bool.and_eq_true, decide_eq_true_eq, hsz, and_assoc]
 by_cases hc : c = 47 ∧ s.size ≤ 200 ∧ (cutS r).all yel' = true ∧ (cutS r).length ≤ 8
 ·rw [if_pos hc, if_pos (hg.2 hc)]; rfl
 ·rw [if_neg hc, if_neg (fun e => hc (hg.1 e))]
set_option maxRecDepth 100000 in
set_option maxHeartbeats 2000000 in
theorem yi6' (s : ByteArray) (w : World) (hs : s.size ≤ maxLen) :
  Calls Tryz.prog 158 #[.string s] w (yfq' w (yaz' s.data.toList)) := by
 unfold maxLen at hs
 have hsz : s.size = s.data.toList.length := by simp
 have hnil : ∀ w' : World, w' = w → yaz' s.data.toList = [] → yfq' w (yaz' s.data.toList) (.returned (.slice none 0 0)) w' := fun w' hw h => by
  rw [h, hw]; exact ⟨_, [], rfl, OwnRow.nil _ _, Upd.refl _ _⟩
 cases hl : s.data.toList with
 | nil =>
  have h2 : (s.size : Int) < 2 := by rw [hsz, hl]; decide
  have HN := Lib.hid (show yaz' s.data.toList = [] by rw [hl]; rfl)
  rw [← hl]
  have HI := Lib.hid hnil
  clear hnil hsz hl
  go_enter Tryz.func158, Tryz.ntmps158
  go_wp2_with fail
  go_ret
  exact HI.out _ rfl HN.out
 | cons c r =>
 have hP := yrc' hl
 rw [← hl]
 by_cases h2 : (s.size : Int) < 2
 ·have hr : r = [] := by rw [hl, List.length_cons] at hsz; exact List.length_eq_zero_iff.1 (by omega)
  have HN := Lib.hid (show yaz' s.data.toList = [] by rw [hP, if_neg]; rintro ⟨-, -, h, -⟩; rw [hr] at h; cases h)
  have HI := Lib.hid hnil
  clear hnil hsz hl hP hr
  go_enter Tryz.func158, Tryz.ntmps158
  go_wp2_with fail
  go_ret
  exact HI.out _ rfl HN.out
 by_cases h200 : 200 < (s.size : Int)
 ·have HN := Lib.hid (show yaz' s.data.toList = [] by rw [hP, if_neg]; rintro ⟨-, h, -, -⟩; omega)
  have HI := Lib.hid hnil
  clear hnil hsz hl hP
  go_enter Tryz.func158, Tryz.ntmps158
  go_wp2_with fail
  go_ret
  exact HI.out _ rfl HN.out
 have hp0 : 0 < s.size := by omega
 have h0 : s[0].toNat = c.toNat := by
  have : s.data.toList[0]'(by rw [← hsz]; omega) = s[0] := rfl
  rw [← this]
  simp [hl]
 by_cases hc : c = 47
 case neg =>
  have HN := Lib.hid (show yaz' s.data.toList = [] by rw [hP, if_neg]; rintro ⟨h, -⟩; exact hc h)
  have HI := Lib.hid hnil
  have hb : ((s[0].toNat : Int) != 47) = true := by
   rw [h0, bne_iff_ne]; intro e; exact hc (UInt8.toNat_inj.1 (by rw [show (47 : UInt8).toNat = 47 from rfl]; omega))
  clear hnil hsz hl hP h0 hc
  go_enter Tryz.func158, Tryz.ntmps158
  go_wp2_with fail
  go_ret
  exact HI.out _ rfl HN.out
 subst hc
 have hb : ((s[0].toNat : Int) != 47) = false := by rw [h0]; rfl
 have hex : (s.extract 1 s.size).data.toList = r := by rw [Lib.extract_to_end, hl]; rfl
 have hct := ytd' (s.extract 1 s.size) 47 w (by simp; omega)
 rw [hex, yte'] at hct
 have hle : (cutS r).length ≤ 1000 := by
  rw [ydu']
  have := List.count_le_length (a := 47) (l := r)
  rw [hl, List.length_cons] at hsz
  omega
 have hlm : ∀ x ∈ cutS r, x.length ≤ 1000 ∧ 47 ∉ x := fun x hx => by
  have := yft' hx
  rw [hl, List.length_cons] at hsz
  exact ⟨by omega, yei' hx⟩
 have hsz2 : s.size ≤ 200 := by omega
 obtain ⟨ps, hps⟩ : ∃ ps, cutS r = ps := ⟨_, rfl⟩
 rw [hps] at hP hct hle hlm
 have HCT := Lib.hid hct
 have HP := Lib.hid hP
 have HL := Lib.hid hlm
 clear hnil hsz hl hP hct hlm hex hps h0
 go_enter Tryz.func158, Tryz.ntmps158
 go_wp2_with fail
 refine HCT.out.mono ?_
 rintro e w1 ⟨v, D, rfl, ho, hu⟩
 obtain ⟨a, n, cp, rfl, hl, hn, hcp, -⟩ := id ho
 rw [List.length_map, Nat.mul_one] at hl
 subst hl
 unfold maxLen at hcp
 have HO := Lib.hid (show _ ∧ _ from ⟨ho, hu⟩)
 clear ho hu
 by_cases h8 : 8 < (ps.length : Int)
 ·go_wp2_with fail
  go_ret
  rw [HP.out, if_neg (by rintro ⟨-, -, -, h⟩; omega)]
  exact ⟨_, [], rfl, OwnRow.nil _ _, HO.out.2.mono (fun _ h => h) (fun b hb => by cases hb)⟩
 go_wp2_with fail
 go_loopg [4] ps.length (fun k i wr => wr = w1 ∧ ∃ p : Nat, p ≤ ps.length ∧ k = ps.length - p ∧ i = .int .i64 p ∧ (ps.take p).all yel' = true)
 case atStart => exact ⟨rfl, 0, Nat.zero_le _, rfl, rfl, rfl⟩
 case round =>
  obtain ⟨hW, p, hp, hk, hv, ha⟩ := hrel
  subst wr hv
  by_cases hlt : p < ps.length
  ·obtain ⟨y, rfl, hys, hcy⟩ := yra' HO.out.1 (i := p) (x := sv ps[p]) (by rw [List.getElem?_map, List.getElem?_eq_getElem hlt]; rfl)
   obtain ⟨hx, hns⟩ := HL.out _ (List.getElem_mem hlt)
   have hts : ps.take (p + 1) = ps.take p ++ [ps[p]] := by rw [List.take_succ_eq_append_getElem hlt]
   have hmm : ps[p] ∈ ps := List.getElem_mem hlt
   obtain ⟨x, hxx⟩ : ∃ x, ps[p] = x := ⟨_, rfl⟩
   rw [hxx] at hcy hx hts hmm hns
   have hn := yo6' ⟨x.toArray⟩ w1 (by show x.toArray.size ≤ _; unfold maxLen; simp; omega)
   rw [show (⟨x.toArray⟩ : ByteArray).data.toList = x from rfl, yt2' hns] at hn
   unfold sv at hcy
   have HX := Lib.hid (show _ ∧ _ ∧ _ from ⟨hts, ha, hmm⟩)
   cases hnx : yel' x with
   | false =>
    rw [hnx] at hn
    have HN := Lib.hid hn
    have HB := Lib.hid hnx
    clear hn hx hxx hts ha hmm hnx hns
    go_wp2_with fail
    refine HN.out.mono ?_
    rintro e w2 ⟨rfl, hW⟩
    subst w2
    go_wp2_with fail
    go_ret
    rw [HP.out, if_neg (by rintro ⟨-, -, h, -⟩; have := List.all_eq_true.1 h x HX.out.2.2; rw [HB.out] at this; cases this)]
    exact ⟨_, [], rfl, OwnRow.nil _ _, HO.out.2.mono (fun _ h => h) (fun b hb => by cases hb)⟩
   | true =>
    rw [hnx] at hn
    have HN := Lib.hid hn
    have HB := Lib.hid hnx
    clear hn hx hxx hts ha hmm hnx hns
    go_wp2_with fail
    refine HN.out.mono ?_
    rintro e w2 ⟨rfl, hW⟩
    subst w2
    go_wp2_with fail
    go_roundg (ps.length - (p + 1))
    case rel =>
     refine ⟨rfl, p + 1, by omega, rfl, by go_num, ?_⟩
     rw [HX.out.1, List.all_append, HX.out.2.1]
     simp [HB.out]
    case measure => omega
  ·obtain rfl : p = ps.length := by omega
   rw [List.take_length] at ha
   have HA := Lib.hid ha
   clear ha
   go_wp2_with fail
   go_ret
   rw [HP.out, if_pos ⟨by first | rfl | trivial, hsz2, HA.out, by omega⟩]
   exact ⟨_, D, rfl, HO.out.1, HO.out.2⟩
theorem yo2' (p : Bs) : ya4' p = decide (0 < (yaz' p).length) := by
 unfold yaz'
 cases ya4' p with
 | false => rfl
 | true =>
  rw [if_pos rfl, ydu']
  simp
theorem yhx' (s : ByteArray) (w : World) (hs : s.size ≤ maxLen) :
  Calls Tryz.prog 151 #[.string s] w fun e w' => e = .returned (.bool (ya4' s.data.toList)) ∧ Upd w w' [] [] := by
 have hg := yi6' s w hs
 rw [yo2']
 obtain ⟨ps, hps⟩ : ∃ ps, yaz' s.data.toList = ps := ⟨_, rfl⟩
 rw [hps] at hg ⊢
 have HG := Lib.hid hg
 clear hg hps hs
 go_enter Tryz.func151, Tryz.ntmps151
 go_wp2_with fail
 refine HG.out.mono ?_
 rintro e w1 ⟨v, D, rfl, ho, hu⟩
 obtain ⟨a, n, c, rfl, hl, hn, hc, -⟩ := id ho
 rw [List.length_map, Nat.mul_one] at hl
 subst hl
 unfold maxLen at hc
 have HU := Lib.hid (hu.mono (fun _ h => h) (fun b hb => by cases hb) : Upd w w1 [] [])
 clear ho hu
 go_wp2_with fail
 go_ret
 exact ⟨rfl, HU.out⟩
end Go.Proofs.YtcnkifbjlihaoaaGreatDoor

namespace Go.Av
section
variable {P : Program} {ops : Array Oper} {Q : Exit → Act → World → Prop} {md : Region.Mode} {S : World → Prop}
theorem yip' {N : Nat} {fuel : Nat} {listed : Array Bool} {a : Act} {w : World} (rs : List Nat) (hr : Region.ready md ops listed = rs) (hne : rs ≠ [])
  (h : ∀ i ∈ rs, ∃ o, ops[i]? = some o ∧ ∀ K : Act → World → Prop, (∀ a' w', S w' → ybh' P md ops Q S N fuel (listed.setIfInBounds i true) a' w' → K a' w') → wpList P ops (Exit.then K Q) [o] a w) :
  ybh' P md ops Q S N (fuel + 1) listed a w := by
 refine ⟨fun h0 => absurd (hr.symm.trans h0) hne, fun j hj => ?_⟩
 rw [hr] at hj
 obtain ⟨o, ho, h⟩ := h j hj
 have h := h (fun a' w' => (j < N → S w → S w') ∧ ybh' P md ops Q S N fuel (listed.setIfInBounds j true) a' w') (fun a' w' h1 h2 => ⟨fun _ _ => h1, h2⟩)
 unfold wpList at h
 unfold wpOp
 simp only [ho]
 by_cases hw : Region.wanted o (yielded ops a.tmps) = true
 ·rw [if_pos hw] at h ⊢
  rcases h with h | ⟨h1, h2⟩
  ·refine .inl ?_
   unfold Oper.wp at h ⊢
   generalize (execOp a.eval o).run P w = r at h ⊢
   cases r with
   | ok n w' =>
    cases n <;> simp only [Oper.upon, wpList, Exit.then] at h ⊢
    case value => exact h
    case skip => exact h
    case defer => exact h
    case enter =>
     refine Calls.mono h fun e w'' he => ?_
     cases e with
     | returned v => exact he
     | panicked c => exact he
     | outgrown => exact he
    case row => exact h
   | halt x w' => cases x <;> simp only [Oper.upon, Exit.then] at h ⊢ <;> exact h
  ·exact .inr ⟨h1, h2⟩
 ·rw [if_neg hw] at h ⊢
  exact h
end
end Go.Av

namespace Go.Proofs.YtcnkifbjlihaoaaGreatDoor
open Go.RowKit Go.Av
theorem ygi' (w W : World) (d : Nat) (hd : d < 10) (x : Int) (hx : x = 48 + d) (c : UInt8) (hc : UInt8.ofNat (48 + d) = c) (hb : ∀ b ∈ [w.heap.size], W.heap[b]? = (w.alloc (.cells #[.int .u8 x] 5)).heap[b]?) :
  (convert 71 9 (.slice (some ⟨w.heap.size, 0, none⟩) 1 1)).run Tryz.prog W = .ok (.string ⟨#[c]⟩) W := by
 subst hc
 have hr := yw4' w 1 (by decide) #[.int .u8 x] rfl 5
 have e : (#[Value.int .u8 x] : Array Value).toList = [UInt8.ofNat (48 + d)].map bv := by
  simp only [List.map_cons, List.map_nil]
  unfold bv
  rw [UInt8.toNat_ofNat', Nat.mod_eq_of_lt (by omega), hx]
  rfl
 rw [e] at hr
 exact conv_str (P := Tryz.prog) (src := 71) (dst := 9) Tryz.underlying71 Tryz.underlying5 Tryz.underlying9 hr W hb
set_option maxRecDepth 100000 in
set_option maxHeartbeats 2000000 in
theorem yoy' (N : Nat) : ∀ (n : Nat) (w : World), n < N → n < 18446744073709551616 →
  Calls Tryz.prog 212 #[.int .u64 (n : Int)] w fun e w' => e = .returned (sv (Lib.decDigits n)) ∧ Upd w w' [] [] := by
 induction N with
 | zero => intro n w h; omega
 | succ N ih =>
 intro n w hn hn64
 by_cases h10 : n < 10
 ·obtain ⟨c, hc⟩ : ∃ c, UInt8.ofNat (48 + n) = c := ⟨_, rfl⟩
  have HD := Lib.hid (show Lib.decDigits n = [c] by rw [← hc]; exact Lib.decDigits_one h10)
  have hcv := ygi' w (w.alloc (.cells #[.int .u8 (48 + (n : Int))] 5)) n h10 (48 + n) rfl c hc (fun _ _ => rfl)
  have q1 : decide ((n : Int) < 10) = true := decide_eq_true (by omega)
  clear ih hc
  go_enter Tryz.func212, Tryz.ntmps212
  go_wp2_with fail
  go_ret
  rw [HD.out]
  exact ⟨rfl, Upd.alloc0 _ _ _⟩
 have q1 : decide ((n : Int) < 10) = false := decide_eq_false (by omega)
 have hq : (n : Int) / 10 = ((n / 10 : Nat) : Int) := by omega
 have hr : (n : Int) % 10 = ((n % 10 : Nat) : Int) := by omega
 have IH := Lib.hid (fun w => ih (n / 10) w (by omega) (by omega))
 obtain ⟨d, hd⟩ : ∃ d, n % 10 = d := ⟨_, rfl⟩
 obtain ⟨m, hm⟩ : ∃ m, n / 10 = m := ⟨_, rfl⟩
 have hd9 : d < 10 := by omega
 obtain ⟨ss, hss⟩ : ∃ ss : ByteArray, ss = ⟨(Lib.decDigits m).toArray⟩ := ⟨_, rfl⟩
 have hssz : ss.size ≤ 20 := by
  rw [hss]
  show (Lib.decDigits m).toArray.size ≤ _
  rw [List.size_toArray]
  exact ymr' 19 m (by omega)
 obtain ⟨c, hc⟩ : ∃ c, UInt8.ofNat (48 + d) = c := ⟨_, rfl⟩
 have HF := Lib.hid (show Value.string (ss ++ ⟨#[c]⟩) = sv (Lib.decDigits n) by
  rw [Lib.decDigits, dif_neg h10, hm, hd, hc]
  refine congrArg Value.string (WideShapes.bytes_inj ?_)
  rw [hss]
  simp [ByteArray.data_append])
 rw [hm] at IH
 rw [hm] at hq
 rw [hd] at hr
 have HSS := Lib.hid (show sv (Lib.decDigits m) = .string ss by rw [hss]; rfl)
 have HCC := Lib.hid hc
 clear ih hss hm hd hc
 go_enter Tryz.func212, Tryz.ntmps212
 go_wp2_with fail
 refine yan' (fun W => True) 10 (by kernel_rfl) ?_
 refine rT [(0, false), (1, false), (3, false), (4, false), (5, false), (6, true)] 5 ?_
 apply Exists.intro; refine ⟨?_, trivial, ?_⟩
 ·iterate 6 ((first | (apply ybm'; (· (simp only [k_i, k_j, k_k]; try rfl)); (· rfl)) | ((first | apply yav' | apply yas'); (· (simp only [k_i, k_j, k_k]; try rfl)); (· rfl); (· (intros; go_simp; try with_reducible rfl)))); (· (simp only [Act.put, k_a, k_b, k_c]; try rfl)))
  exact rfl
 refine yip' (fuel := 4) [2, 7] (by kernel_rfl) (by simp) (fun i hi => ?_)
 simp only [List.mem_cons, List.not_mem_nil, or_false] at hi
 rcases hi with rfl | rfl
 case' inl =>
  refine ⟨_, by rfl, fun K hK => ?_⟩
  go_wp2_with fail
  refine (IH.out w.drew).mono ?_
  rintro e w2 ⟨rfl, hu2⟩
  rw [HSS.out]
  have HU2 := Lib.hid hu2.drewL
  clear hu2
  go_wp2_with fail
  refine hK _ _ trivial ?_
  clear hK
  refine ybb' (fuel := 3) (i := 7) (by kernel_rfl) (by rfl) (fun K hK => ?_)
  have hcv := ygi' w2 (w2.alloc (.cells #[.int .u8 (48 + (d : Int))] 5)) d hd9 (48 + (d : Int)) rfl c HCC.out (fun _ _ => rfl)
  have HU := Lib.hid (HU2.out.trans (Upd.alloc0 w2 (.cells #[.int .u8 (48 + (d : Int))] 5) []))
  go_wp2_with fail
  refine hK _ _ trivial ?_
  clear hK
  refine ybb' (fuel := 2) (i := 8) (by kernel_rfl) (by rfl) (fun K hK => ?_)
  go_wp2_with fail
  refine hK _ _ trivial ?_
  clear hK
 case' inr =>
  refine ⟨_, by rfl, fun K hK => ?_⟩
  go_wp2_with fail
  refine hK _ _ trivial ?_
  clear hK
  have hcv := fun W (hb : ∀ b ∈ [w.heap.size], W.heap[b]? = ((w.alloc (.cells #[.int .u8 (48 + (d : Int))] 5)).drew).heap[b]?) => ygi' w W d hd9 (48 + (d : Int)) rfl c HCC.out hb
  have HU1 := Lib.hid ((Upd.alloc0 w (.cells #[.int .u8 (48 + (d : Int))] 5) []).drew)
  have hlt : w.heap.size < ((w.alloc (.cells #[.int .u8 (48 + (d : Int))] 5)).drew).heap.size := by show _ < (w.alloc _).heap.size; simp
  obtain ⟨w1, hw1⟩ : ∃ w1, w1 = (w.alloc (.cells #[.int .u8 (48 + (d : Int))] 5)).drew := ⟨_, rfl⟩
  try rw [hr]
  rw [← hw1] at hcv HU1 hlt ⊢
  clear hw1
  have HCV := Lib.hid hcv
  clear hcv
  refine yip' (fuel := 3) [2, 8] (by kernel_rfl) (by simp) (fun i hi => ?_)
  simp only [List.mem_cons, List.not_mem_nil, or_false] at hi
  rcases hi with rfl | rfl
  case' inl =>
   refine ⟨_, by rfl, fun K hK => ?_⟩
   go_wp2_with fail
   refine (IH.out w1).mono ?_
   rintro e w2 ⟨rfl, hu2⟩
   rw [HSS.out]
   have HU := Lib.hid (HU1.out.trans hu2)
   have hcv := HCV.out w2 (fun b hb => by rw [List.mem_singleton] at hb; subst hb; exact hu2.keep _ hlt (by simp))
   clear hu2 hlt
   go_wp2_with fail
   refine hK _ _ trivial ?_
   clear hK
   refine ybb' (fuel := 2) (i := 8) (by kernel_rfl) (by rfl) (fun K hK => ?_)
   go_wp2_with fail
   refine hK _ _ trivial ?_
   clear hK
  case' inr =>
   refine ⟨_, by rfl, fun K hK => ?_⟩
   have hcv := HCV.out w1 (fun _ _ => rfl)
   go_wp2_with fail
   refine hK _ _ trivial ?_
   clear hK hcv
   refine ybb' (fuel := 2) (i := 2) (by kernel_rfl) (by rfl) (fun K hK => ?_)
   go_wp2_with fail
   refine (IH.out w1).mono ?_
   rintro e w2 ⟨rfl, hu2⟩
   rw [HSS.out]
   have HU := Lib.hid (HU1.out.trans hu2)
   clear hu2 hlt
   go_wp2_with fail
   refine hK _ _ trivial ?_
   clear hK
 all_goals
  have h63 : ¬ 9223372036854775807 < ss.size + 1 := by omega
  refine rT [(9, false)] 1 ?_
  apply Exists.intro; refine ⟨?_, trivial, ?_⟩
  ·iterate 1 ((first | (apply ybm'; (· (simp only [k_i, k_j, k_k]; try rfl)); (· rfl)) | ((first | apply yav' | apply yas'); (· (simp only [k_i, k_j, k_k]; try rfl)); (· rfl); (· (intros; go_simp; try with_reducible rfl)))); (· (simp only [Act.put, k_a, k_b, k_c]; try rfl)))
   exact rfl
  refine rL [10] 0 ?_
  simp only [List.filterMap_cons, List.filterMap_nil, k_i, k_j, k_k]
  go_wp2_with fail
  go_ret
  rw [HF.out]
  exact ⟨rfl, HU.out⟩
set_option maxRecDepth 100000 in
set_option maxHeartbeats 1000000 in
theorem ymx' (s : ByteArray) (n : Int) (w : World) (hs : s.size ≤ 100000) (hn0 : -9223372036854775808 ≤ n) (hn1 : n ≤ 9223372036854775807) :
  Calls Tryz.prog 181 #[.string s, .int .i64 n] w fun e w' => e = .returned (.tuple #[sv ((yba' s.data.toList n).getD []), .bool (yba' s.data.toList n).isSome]) ∧ Upd w w' [] [] := by
 have hsz : s.size = s.data.toList.length := by simp
 obtain ⟨po, hpo⟩ : ∃ po, yba' s.data.toList n = po := ⟨_, rfl⟩
 rw [hpo]
 unfold yba' at hpo
 have hg1 := yhx' s w (by unfold maxLen; omega)
 have hten : n ≤ 2147483647 → (Lib.decDigits n.toNat).length ≤ 10 := yp9'
 have HP := Lib.hid hpo
 have HG := Lib.hid hg1
 clear hpo hg1 hsz
 go_enter Tryz.func181, Tryz.ntmps181
 go_wp2_with fail
 refine HG.out.mono ?_
 rintro e w1 ⟨rfl, hu1⟩
 have HU := Lib.hid hu1
 clear hu1 HG
 cases hg : ya4' s.data.toList with
 | false =>
  have HL := Lib.hid (show po = none by rw [← HP.out, if_pos (.inl hg)])
  clear hg HP
  go_wp2_with fail
  go_ret2
  rw [HL.out]
  exact ⟨rfl, HU.out⟩
 | true =>
 by_cases hn : n < 0 ∨ 2147483647 < n
 ·have HL := Lib.hid (show po = none by rw [← HP.out, if_pos (.inr hn)])
  clear hg HP
  rcases hn with h | h
  ·have q1 : decide (n < 0) = true := decide_eq_true h
   go_wp2_with fail
   go_ret2
   rw [HL.out]
   exact ⟨rfl, HU.out⟩
  ·have q1 : decide (n < 0) = false := decide_eq_false (by omega)
   have q2 : decide (2147483647 < n) = true := decide_eq_true h
   go_wp2_with fail
   go_ret2
   rw [HL.out]
   exact ⟨rfl, HU.out⟩
 have q1 : decide (n < 0) = false := decide_eq_false (by omega)
 have q2 : decide (2147483647 < n) = false := decide_eq_false (by omega)
 have hl10 := hten (by omega)
 have HPP := Lib.hid (show (if ya4' (s.data.toList ++ padD n) = true then some (s.data.toList ++ padD n) else none) = po by rw [← HP.out, if_neg (c := ya4' s.data.toList = false ∨ n < 0 ∨ 2147483647 < n) (by rw [hg]; rintro (h | h); cases h; exact hn h)])
 obtain ⟨N, rfl⟩ : ∃ N : Nat, n = N := ⟨n.toNat, by omega⟩
 rw [Int.toNat_natCast] at hl10
 have HI := Lib.hid (yoy' (N + 1) N w1 (by omega) (by omega))
 have hpd : padD (N : Int) = List.replicate (10 - (Lib.decDigits N).length) 48 ++ Lib.decDigits N := rfl
 have HPD := Lib.hid hpd
 clear hg HP hn hten hpd
 go_wp2_with fail
 refine HI.out.mono ?_
 rintro e w2 ⟨rfl, hu2⟩
 have HU2 := Lib.hid (HU.out.trans hu2)
 have HL10 := Lib.hid hl10
 clear hu2 HI HU hl10
 go_wp2_with fail
 go_loopg [6] (10 - (Lib.decDigits N).length) (fun k vd wr => ∃ p : Nat, p ≤ 10 - (Lib.decDigits N).length ∧ k = 10 - (Lib.decDigits N).length - p ∧ vd = sv (List.replicate p 48 ++ Lib.decDigits N) ∧ wr = w2)
 case atStart => exact ⟨0, Nat.zero_le _, rfl, rfl, rfl⟩
 case round =>
  obtain ⟨p, hp, hk, hvd, hW⟩ := hrel
  subst hW
  have hlen : (List.replicate p 48 ++ Lib.decDigits N).length = p + (Lib.decDigits N).length := by rw [List.length_append, List.length_replicate]
  obtain ⟨ds, hds⟩ : ∃ ds : ByteArray, ds = ⟨(List.replicate p 48 ++ Lib.decDigits N).toArray⟩ := ⟨_, rfl⟩
  have hdz : ds.size = p + (Lib.decDigits N).length := by
   rw [hds, ← hlen]
   show (List.replicate p 48 ++ Lib.decDigits N).toArray.size = _
   rw [List.size_toArray]
  obtain ⟨k0, hk0⟩ : ∃ k0, (Lib.decDigits N).length = k0 := ⟨_, rfl⟩
  have hl10 := HL10.out
  rw [hk0] at hdz hl10 hk hp
  unfold sv at hvd
  rw [← hds] at hvd
  subst hvd
  by_cases hlt : p + k0 < 10
  ·have HN := Lib.hid (show Value.string ((⟨#[48]⟩ : ByteArray) ++ ds) = sv (List.replicate (p + 1) 48 ++ Lib.decDigits N) by
    refine congrArg Value.string (WideShapes.bytes_inj ?_)
    rw [hds]
    simp [ByteArray.data_append, List.replicate_succ])
   clear hds hlen
   go_wp2_with fail
   go_roundg (10 - (Lib.decDigits N).length - (p + 1))
   case rel => exact ⟨p + 1, by omega, rfl, HN.out, rfl⟩
   case measure => omega
  obtain rfl : p = 10 - k0 := by omega
  have hd10 : ds.size = 10 := by omega
  have HQ := Lib.hid (show (s ++ ds).data.toList = s.data.toList ++ padD N by
   rw [ByteArray.data_append, Array.toList_append, HPD.out, hds, hk0])
  obtain ⟨q, hq⟩ : ∃ q, s ++ ds = q := ⟨_, rfl⟩
  have hqz : q.size ≤ 100010 := by rw [← hq, ByteArray.size_append]; omega
  rw [hq] at HQ
  clear hds hlen hdz hk0
  have HGQ := Lib.hid (yhx' q wr (by unfold maxLen; omega))
  go_wp2_with fail
  refine HGQ.out.mono ?_
  rintro e w4 ⟨rfl, hu4⟩
  have HU4 := Lib.hid (HU2.out.trans hu4)
  clear hu4 HGQ
  rw [HQ.out]
  cases hg : ya4' (s.data.toList ++ padD N) with
  | false =>
   have HL := Lib.hid (show po = none by rw [← HPP.out, hg]; rfl)
   clear hg HPP
   go_wp2_with fail
   go_ret2
   rw [HL.out]
   exact ⟨rfl, HU4.out⟩
  | true =>
   have HL := Lib.hid (show po = some q.data.toList by rw [← HPP.out, hg, HQ.out]; rfl)
   clear hg HPP
   go_wp2_with fail
   go_ret2
   rw [HL.out]
   exact ⟨rfl, HU4.out⟩
end Go.Proofs.YtcnkifbjlihaoaaGreatDoor

namespace Go.Proofs.YtcnkifbjlihaoaaGreatDoor
open Go.RowKit Go.Av
theorem yw3' {o : OpS} : (decide (1 < (yaz' o.p).length) && (yba' o.p 0).isSome) = !((yaz' o.p).length == 1 || !(yba' o.p 0).isSome) := by
 cases hn : yba' o.p 0 with
 | none => simp
 | some q =>
  have hg : ya4' o.p = true := by
   unfold yba' at hn
   split at hn
   ·cases hn
   ·rename_i h
    cases hg : ya4' o.p with
    | true => rfl
    | false => exact absurd (Or.inl hg) h
  have : 1 ≤ (yaz' o.p).length := by
   unfold yaz'
   rw [if_pos hg, ydu']
   omega
  simp only [Option.isSome_some, Bool.and_true, Bool.not_true, Bool.or_false]
  by_cases h1 : (yaz' o.p).length = 1
  ·simp [h1]
  ·rw [decide_eq_true (by omega)]
   simp [h1]
set_option maxRecDepth 100000 in
set_option maxHeartbeats 4000000 in
theorem yw5' (o : OpS) (w : World) (hp : o.path.size ≤ 100000) : Calls Tryz.prog 144 #[o.val] w fun e w' => e = .returned (.int .i64 (ybk' o)) ∧ Upd w w' [] [] := by
 have HGD := Lib.hid (fun w => yhx' o.path w (by unfold maxLen; omega))
 have HNU := Lib.hid (fun w => ymx' o.path 0 w hp (by omega) (by omega))
 have HPA := Lib.hid (fun w => yi6' o.path w (by unfold maxLen; omega))
 have hu0 : Upd w (w.alloc (.cells #[.int .i64 o.kind, .string o.path, .string o.data, .int .i64 o.ver, .int .i64 o.flags] 89)) [] [] := Upd.alloc0 _ _ _
 have HA := Lib.hid (show ∀ w' : World, Upd (w.alloc (.cells #[.int .i64 o.kind, .string o.path, .string o.data, .int .i64 o.ver, .int .i64 o.flags] 89)) w' [] [] → OpAt w' w.heap.size o from fun w' hu => yfz' w o hu)
 obtain ⟨g, hg⟩ : ∃ g, ybk' o = g := ⟨_, rfl⟩
 have HG := Lib.hid hg
 unfold ybk' at HG
 obtain ⟨fo, h1⟩ : ∃ z, yc9' o = z := ⟨_, rfl⟩
 obtain ⟨ow, h2⟩ : ∃ z, ownS o = z := ⟨_, rfl⟩
 obtain ⟨nu, h3⟩ : ∃ z, numS o = z := ⟨_, rfl⟩
 have HFF := Lib.hid (show fo = true → 0 ≤ o.flags ∧ o.flags ≤ 3 from fun h => yet' (h1.trans h))
 rw [hg]
 rw [h1, h2, h3] at HG
 have HF := Lib.hid h1
 have HO := Lib.hid h2
 have HN := Lib.hid h3
 unfold numS at HN
 rw [yw3'] at HN
 unfold yc9' at HF
 unfold ownS at HO
 unfold OpS.p at HF HN
 obtain ⟨kind, path, data, ver, flags⟩ := o
 unfold OpS.val
 dsimp only at HF HO HN HG HA hu0 HFF hp HGD HNU HPA ⊢
 unfold OpAt at HA
 dsimp only at HA
 have HU0 := Lib.hid hu0
 clear hg h1 h2 h3 hp hu0
 obtain ⟨po, hpo⟩ : ∃ z, yba' path.data.toList 0 = z := ⟨_, rfl⟩
 obtain ⟨ps, hps⟩ : ∃ z, yaz' path.data.toList = z := ⟨_, rfl⟩
 obtain ⟨gp, hgp⟩ : ∃ z, ya4' path.data.toList = z := ⟨_, rfl⟩
 rw [hpo] at HNU HN
 rw [hps] at HPA HN
 rw [hgp] at HGD HF
 clear hpo hps hgp
 go_enter Tryz.func144, Tryz.ntmps144
 go_upto_region 1 with fail
 obtain ⟨wA, hwA⟩ : ∃ z, z = w.alloc (.cells #[.int .i64 kind, .string path, .string data, .int .i64 ver, .int .i64 flags] 89) := ⟨_, rfl⟩
 rw [← hwA] at HA HU0 ⊢
 clear hwA
 obtain ⟨bx, hbx⟩ : ∃ z, z = w.heap.size := ⟨_, rfl⟩
 rw [← hbx] at HA ⊢
 clear hbx
 obtain ⟨c0, c1, c2, c3, c4⟩ := HA.out wA (Upd.refl _ _)
 go_cut [33] (fun b W => b = .bool (!fo) ∧ Upd wA W [] [])
 case first =>
  obtain ⟨b1, h1⟩ : ∃ z, decide (kind < 1) = z := ⟨_, rfl⟩
  obtain ⟨b2, h2⟩ : ∃ z, decide (7 < kind) = z := ⟨_, rfl⟩
  obtain ⟨b4, h4⟩ : ∃ z, decide (ver < -1) = z := ⟨_, rfl⟩
  obtain ⟨b5, h5⟩ : ∃ z, decide (flags < 0) = z := ⟨_, rfl⟩
  obtain ⟨b6, h6⟩ : ∃ z, decide (3 < flags) = z := ⟨_, rfl⟩
  have HH := Lib.hid (show (!b1 && (!b2 && (gp && (!b4 && (!b5 && !b6))))) = fo by
   rw [← HF.out, ← h1, ← h2, ← h4, ← h5, ← h6]
   rw [← decide_not, ← decide_not, ← decide_not, ← decide_not, ← decide_not]
   simp only [Int.not_lt])
  clear HF
  go_wp2_with (go_at_call 151; refine (HGD.out _).mono ?_; rintro e w1 ⟨rfl, hu1⟩; obtain ⟨c0, c1, c2, c3, c4⟩ := HA.out _ hu1; have HU := Lib.hid hu1; clear hu1)
  all_goals
   go_meet
   rw [← HH.out]
   refine ⟨by first | rfl | (simp [*]; done), by first | exact HU.out | exact Upd.refl _ _⟩
 case rest =>
  obtain ⟨rfl, hu1⟩ := hcut
  clear c0 c1 c2 c3 c4
  obtain ⟨c0, c1, c2, c3, c4⟩ := HA.out _ hu1
  have HU1 := Lib.hid hu1
  clear hu1 HF
  cases fo with
  | false =>
   have HE := Lib.hid (show g = 1 by rw [← HG.out]; rfl)
   clear HG HN HO HFF
   go_wp2_with fail
   go_ret
   rw [HE.out]
   exact ⟨rfl, HU0.out.trans HU1.out⟩
  | true =>
  by_cases hl : 1000 < data.size
  ·have HE := Lib.hid (show g = 2 by have := HG.out; rw [if_neg (by decide), if_pos hl] at this; exact this.symm)
   have hl2 : decide (1000 < (data.size : Int)) = true := decide_eq_true (by omega)
   clear HG HN HO HFF
   go_wp2_with fail
   go_ret
   rw [HE.out]
   exact ⟨rfl, HU0.out.trans HU1.out⟩
  have hl2 : decide (1000 < (data.size : Int)) = false := decide_eq_false (by omega)
  have HG2 := Lib.hid (show (if ow = false ∨ nu = false then 1 else 0) = g by have := HG.out; rw [if_neg (by decide), if_neg hl] at this; exact this)
  obtain ⟨hf0, hf3⟩ := HFF.out rfl
  clear HG hl HFF
  go_upto_region 5 with fail
  go_cut [80] (fun b W => b = .bool (!ow) ∧ W = wc)
  case first =>
   obtain ⟨de, h1⟩ : ∃ z, (data.toList == []) = z := ⟨_, rfl⟩
   obtain ⟨k1, h2⟩ : ∃ z, (kind == 1) = z := ⟨_, rfl⟩
   obtain ⟨k2, h3⟩ : ∃ z, (kind == 2) = z := ⟨_, rfl⟩
   obtain ⟨k3, h4⟩ : ∃ z, (kind == 3) = z := ⟨_, rfl⟩
   obtain ⟨k4, h5⟩ : ∃ z, (kind == 4) = z := ⟨_, rfl⟩
   obtain ⟨v0, h6⟩ : ∃ z, (ver == 0) = z := ⟨_, rfl⟩
   obtain ⟨f0, h7⟩ : ∃ z, (flags == 0) = z := ⟨_, rfl⟩
   have HH := Lib.hid HO.out
   unfold ysq' at HH
   rw [h1, h2, h3, h4, h5, h6, h7] at HH
   have h2 : (kind != 1) = !k1 := by rw [← h2]; rfl
   have h3 : (kind != 2) = !k2 := by rw [← h3]; rfl
   have h4 : (kind != 3) = !k3 := by rw [← h4]; rfl
   have h5 : (kind != 4) = !k4 := by rw [← h5]; rfl
   have h6 : (ver != 0) = !v0 := by rw [← h6]; rfl
   have h7 : (flags != 0) = !f0 := by rw [← h7]; rfl
   clear HO
   go_wp2_with fail
   all_goals
    go_meet
    rw [← HH.out]
    refine ⟨by first | rfl | (simp [*]; done), rfl⟩
  case rest =>
   obtain ⟨rfl, hW⟩ := hcut
   subst hW
   cases ow with
   | false =>
    have HE := Lib.hid (show g = 1 by rw [← HG2.out]; rfl)
    clear HG2 HN HO
    go_wp2_with fail
    go_ret
    rw [HE.out]
    exact ⟨rfl, HU0.out.trans HU1.out⟩
   | true =>
   have HG3 := Lib.hid (show (if nu = false then 1 else 0) = g by rw [← HG2.out]; cases nu <;> simp)
   have hsb := ym6' hf0 hf3
   have hsb2 : (bits .and .i64 flags 2 != 0) = seqF flags := by
    rw [show (bits .and .i64 flags 2 != 0) = !(bits .and .i64 flags 2 == 0) from rfl, hsb, Bool.not_not]
   -- a number behind it is asked of a create alone
   have hk1 : seqF flags = true → (kind == 1) = true := fun hs => by
    have h := HO.out
    simp only [Bool.and_eq_true, Bool.or_eq_true] at h
    rcases h.2.2 with h | h
    ·exfalso
     simp only [beq_iff_eq] at h
     subst h
     exact absurd hs (by decide)
    ·exact h
   clear HG2 HO hsb
   cases hs : seqF flags with
   | false =>
    have HE := Lib.hid (show g = 0 by
     have := HN.out
     rw [hs] at this
     rw [← HG3.out, ← this]
     rfl)
    rw [hs] at hsb2
    clear HG3 HN hs hk1
    obtain ⟨k1, hk⟩ : ∃ z, (kind == 1) = z := ⟨_, rfl⟩
    cases k1
    all_goals
     go_wp2_with fail
     go_ret
     rw [HE.out]
     exact ⟨rfl, HU0.out.trans HU1.out⟩
   | true =>
    have hk := hk1 hs
    rw [hs] at hsb2
    have HN2 := Lib.hid (show (!(ps.length == 1 || !po.isSome)) = nu by
     have := HN.out
     rw [hs] at this
     simpa using this)
    obtain ⟨pi, hpi⟩ : ∃ z, po.isSome = z := ⟨_, rfl⟩
    rw [hpi] at HNU HN2
    clear HN hs hk1 hpi
    go_wp2_with fail
    refine (HNU.out _).mono ?_
    rintro e w1 ⟨rfl, hu2⟩
    obtain ⟨d0, d1, d2, d3, d4⟩ := HA.out _ (HU1.out.trans hu2)
    have HU2 := Lib.hid (HU1.out.trans hu2)
    clear hu2 HNU c0 c1 c2 c3 c4
    go_wp2_with fail
    refine (HPA.out _).mono ?_
    rintro e w2 ⟨v, D, rfl, ho, hu⟩
    obtain ⟨a, n, c, rfl, hl, hn, hc, -⟩ := id ho
    rw [List.length_map, Nat.mul_one] at hl
    subst hl
    have HU := Lib.hid (HU2.out.trans (hu.mono (fun _ h => h) (fun b hb => by cases hb) : Upd w1 w2 [] []))
    obtain ⟨z, hz⟩ : ∃ z, (ps.length == 1) = z := ⟨_, rfl⟩
    have hz2 : ((ps.length : Int) == 1) = z := by
     rw [← hz]
     by_cases h1 : ps.length = 1
     ·simp [h1]
     ·rw [beq_eq_false_iff_ne.2 h1, beq_eq_false_iff_ne]; omega
    rw [hz] at HN2
    have HE := Lib.hid (show g = if (z || !pi) = true then 1 else 0 by
     rw [← HG3.out, ← HN2.out]
     cases z <;> cases pi <;> rfl)
    clear ho hu hz HN2 HG3 HPA
    cases z <;> cases pi
    all_goals
     go_wp2_with fail
     go_ret
     rw [HE.out]
     exact ⟨rfl, HU0.out.trans HU.out⟩
end Go.Proofs.YtcnkifbjlihaoaaGreatDoor

namespace Go.Proofs.YtcnkifbjlihaoaaGreatDoor
open Go.RowKit Go.Av
section
variable {w0 w : World} {t : Nat} {S : TreeS} {P P' : List PRow} {R : List Thing} {rows : List (Value × Bs)}
set_option maxRecDepth 100000 in
set_option maxHeartbeats 1000000 in
theorem ynf' (h : Sep w0 w (yab' w0 P :: R) rows) (room : Int) (h1 : 1 ≤ room) (h2 : room ≤ 500) :
  Calls Tryz.prog 58 #[.int .i64 room] w fun e w' => ∃ t, e = .returned (.tuple #[.pointer (some ⟨t, 0, none⟩), .int .i64 0]) ∧ Sep w0 w' (yab' w0 P :: yaq' t ⟨room, []⟩ P :: R) rows := by
 have h3 := (h.newMap .string).newCell (.cells #[.int .i64 room, .map (some w.heap.size)] 213 (0, 0))
 rw [show (w.alloc (.map #[] 0)).heap.size = w.heap.size + 1 by simp] at h3
 have H := Lib.hid h3
 have hmm := @run_makeMap Tryz.prog
 have q1 : decide (room < 1) = false := decide_eq_false (by omega)
 have q2 : decide (500 < room) = false := decide_eq_false (by omega)
 clear h h3
 go_enter Tryz.func58, Tryz.ntmps58
 go_wp2_with fail
 go_ret2
 refine ⟨_, rfl, ?_⟩
 have h4 := Sep.shut (O := TrO (w.heap.size + 1) ⟨room, []⟩ P) (L := trTh (w.heap.size + 1) w.heap.size room []) ⟨w.heap.size, [], rfl, List.Perm.refl _, List.Pairwise.nil, fun g hg => by cases hg⟩ H.out
 exact h4.perm (List.Perm.swap _ _ _)
set_option maxRecDepth 100000 in
theorem yfo' (h : Sep w0 w (yaq' t S P :: R) rows) : Calls Tryz.prog 99 #[.pointer (some ⟨t, 0, none⟩)] w fun e w' => e = .returned (.int .i64 (S.l.length : Nat)) ∧ Upd w w' [] [] := by
 obtain ⟨m, -, hm1, -, -, hlen⟩ := ydi' h
 have hl := hlen 3 w rfl
 clear h hlen
 go_enter Tryz.func99, Tryz.ntmps99
 go_wp2_with fail
 go_ret
 exact ⟨rfl, Upd.refl _ _⟩
end
end Go.Proofs.YtcnkifbjlihaoaaGreatDoor

namespace Go.Av
open Go.RowKit
def yyz' (p : ByteArray) (flags : Int) : OpS := ⟨1, p, ⟨#[]⟩, 0, flags⟩
end Go.Av
namespace Go.Proofs.YtcnkifbjlihaoaaGreatDoor
open Go.RowKit Go.Av
section
variable {w0 w : World} {R : List Thing} {rows : List (Value × Bs)}
def opA : OpS := yyz' ⟨#[47, 97]⟩ 0
theorem yxh' {P : List PRow} {w0 w : World} {R : List Thing} {rows : List (Value × Bs)} {K : Nat} {a : Option Addr} {n c : Nat} {x : Value} {xs : List Value} (h : Sep w0 w (yab' w0 P :: R) rows) (hm : (K, Value.slice a n c, x :: xs) ∈ P) : ∃ g off, a = some ⟨g, off, none⟩ ∧ ∀ i v, (x :: xs)[i]? = some v → w.cell? ⟨g, off + i, none⟩ = some v := by
 obtain ⟨E, hE⟩ := h.poolGet hm
 obtain ⟨a', n', c', e, hl, hn, hc, ha, hr⟩ := hE
 rcases hr with ⟨h0, _⟩ | ⟨g, off, e2, _, _, hcell⟩
 ·cases h0
 ·injection e with e1 _ _
  subst e1
  exact ⟨g, off, e2, hcell⟩
end
end Go.Proofs.YtcnkifbjlihaoaaGreatDoor

namespace Go.Av
open Go.RowKit Go.Maps Go.Sort
end Go.Av

namespace Go.Proofs
open Go.Shelf
open Go.RowKit Go.Maps Go.Sort Go.Shelf
end Go.Proofs

namespace Go.Av
open Go.RowKit Go.Sort Go.Maps
def ofT (S : TreeS) (sess : Int) : List Bs := (S.l.filter fun e => decide (0 < sess) && e.2.owner == sess).map (·.1)
end Go.Av
namespace Go.Proofs.YtcnkifbjlihaoaaGreatDoor
open Go.RowKit Go.Av Go.Maps Go.Sort
section
variable {w0 w : World} {t : Nat} {S : TreeS} {P P' : List PRow} {R : List Thing} {rows : List (Value × Bs)}
end
end Go.Proofs.YtcnkifbjlihaoaaGreatDoor

namespace Go.Av
open Go.RowKit
section
variable {P : Program} {w : World}
theorem ym5' {K n c off g i f : Nat} {xs : List Value} {v : Value} {E : List Nat} {ty : TypeId} (h : ReadRow w K (.slice (some ⟨g, off, none⟩) n c) xs E) (hs : ycy' P ty = true) (hv : xs[i * K + f]? = some v) :
  (Instr.loadAt ty (.pointer (some ⟨g, off + i * K + f, none⟩))).run P w = .ok v w := by
 obtain ⟨a', n', c', e, hl, hn, hc, ha, hr⟩ := h
 cases e
 rcases hr with ⟨rfl, _⟩ | ⟨g', off', e, rfl, hlt, hcell⟩
 ·cases hv
 ·injection e with e
  injection e with e1 e2
  subst e1 e2
  rw [Nat.add_assoc]
  exact yag' hs (hcell _ v hv)
theorem yuj' {K n c off g i : Nat} {xs : List Value} {v : Value} {E : List Nat} {ty : TypeId} (h : ReadRow w K (.slice (some ⟨g, off, none⟩) n c) xs E) (hs : ycy' P ty = true) (hv : xs[i * K]? = some v) :
  (Instr.loadAt ty (.pointer (some ⟨g, off + i * K, none⟩))).run P w = .ok v w := ym5' (f := 0) h hs hv
theorem yuk' {K n c off g i f m : Nat} {xs vs : List Value} {E : List Nat} {ty : TypeId} (h : ReadRow w K (.slice (some ⟨g, off, none⟩) n c) xs E) (hs : StructN P ty m) (hm : vs.length = m) (hne : vs ≠ []) (hv : ∀ j v, vs[j]? = some v → xs[i * K + f + j]? = some v) :
  (Instr.loadAt ty (.pointer (some ⟨g, off + i * K + f, none⟩))).run P w = .ok (.agg vs.toArray) w := by
 obtain ⟨a', n', c', e, hl, hn, hc, ha, hr⟩ := h
 cases e
 have h1 := hs.1
 unfold yfl' at h1
 rw [Bool.and_eq_true] at h1
 obtain ⟨h1, h2⟩ := h1
 cases hi0 : P.info? ty with
 | none => simp [hi0] at h2
 | some ii =>
  simp only [hi0, beq_iff_eq] at h2
  cases hu : P.underlying ty with
  | none => simp [hu] at h1
  | some d =>
   refine run_loadAt_mid w g (off + i * K + f) ty _ d (fun j v hj => ?_) hu (by rw [hu] at h1; cases d <;> simp_all) (by rw [hi0, hm]; simpa using h2)
   have hq := hv j v hj
   rcases hr with ⟨rfl, _⟩ | ⟨g', off', e, rfl, hlt, hcell⟩
   ·cases hq
   ·injection e with e
    injection e with e1 e2
    subst e1 e2
    have := hcell _ v hq
    rw [show off + i * K + f + j = off + (i * K + f + j) by omega]
    exact this
end
inductive EntL (P : List PRow) : NoL → List Value → Prop
 | nil : EntL P [] []
 | cons {p : Bs} {n : NodeS} {nv : Value} {l : NoL} {xs : List Value} : (1, nv, n.names.map sv) ∈ P → EntL P l xs → EntL P ((p, n) :: l) (sv p :: (n.cells nv).toList ++ xs)
theorem EntL.mono {P P' : List PRow} {l : NoL} {xs : List Value} (h : EntL P l xs) (hP : ∀ r ∈ P, r ∈ P') : EntL P' l xs := by
 induction h with
 | nil => exact .nil
 | cons h1 _ ih => exact .cons (hP _ h1) ih
theorem EntL.len {P : List PRow} {l : NoL} {xs : List Value} (h : EntL P l xs) : xs.length = l.length * 11 := by
 induction h with
 | nil => rfl
 | cons _ _ ih => simp only [List.length_append, List.length_cons, ih]; simp [NodeS.cells]; omega
theorem EntL.snoc {P : List PRow} {l : NoL} {xs : List Value} {p : Bs} {n : NodeS} {nv : Value} (h : EntL P l xs) (hr : (1, nv, n.names.map sv) ∈ P) : EntL P (l ++ [(p, n)]) (xs ++ sv p :: (n.cells nv).toList) := by
 induction h with
 | nil => simpa using EntL.cons (p := p) hr EntL.nil
 | cons h1 _ ih =>
  rw [List.cons_append, List.append_assoc]
  exact .cons h1 ih
theorem EntL.at {P : List PRow} {l : NoL} {xs : List Value} (h : EntL P l xs) : ∀ {i : Nat} (hi : i < l.length), ∃ nv, (1, nv, l[i].2.names.map sv) ∈ P ∧ ∀ j v, (sv l[i].1 :: (l[i].2.cells nv).toList)[j]? = some v → xs[i * 11 + j]? = some v := by
 induction h with
 | nil => intro i hi; simp at hi
 | @cons p n nv l xs h1 h2 ih =>
  intro i hi
  cases i with
  | zero =>
   refine ⟨nv, h1, fun j v hv => ?_⟩
   have hj : j < (sv p :: (n.cells nv).toList).length := (List.getElem?_eq_some_iff.1 hv).1
   rw [Nat.zero_mul, Nat.zero_add, List.getElem?_append_left hj]
   exact hv
  | succ i =>
   obtain ⟨nv', h3, h4⟩ := ih (i := i) (by simpa using hi)
   refine ⟨nv', h3, fun j v hv => ?_⟩
   have hl : (sv p :: (n.cells nv).toList).length = 11 := rfl
   rw [List.getElem?_append_right (by rw [hl]; omega), hl, show (i + 1) * 11 + j - 11 = i * 11 + j by omega]
   exact h4 j v hv
end Go.Av
namespace Go.Proofs.YtcnkifbjlihaoaaGreatDoor
open Go.RowKit Go.Av
theorem sn_rnode : StructN Tryz.prog 167 10 := ⟨by kernel_rfl⟩
theorem sn_rtree : StructN Tryz.prog 126 2 := ⟨by kernel_rfl⟩
theorem sn_rent : StructN Tryz.prog 169 11 := ⟨by kernel_rfl⟩
theorem z_rnode : yco' Tryz.prog 167 #[.int .i64 0, .int .i64 0, .int .i64 0, .int .i64 0, .int .i64 0, .int .i64 0, .int .i64 0, .string ⟨#[]⟩, .int .i64 0, .slice none 0 0] := by unfold yco'; kernel_rfl
theorem sl_ent : SliceN Tryz.prog 124 169 11 120 := .of Tryz.underlying124 (by kernel_rfl)
section
variable {w0 w : World} {b : Nat} {S : TreeS} {P P' : List PRow} {R : List Thing} {rows : List (Value × Bs)}
end
end Go.Proofs.YtcnkifbjlihaoaaGreatDoor

namespace Go.Av
open Go.RowKit
theorem yui' {k : Int} (h : 1 ≤ k) (h7 : k ≤ 7) : ydp' k = decide (5 ≤ k) := by
 rcases (show k = 1 ∨ k = 2 ∨ k = 3 ∨ k = 4 ∨ k = 5 ∨ k = 6 ∨ k = 7 by omega) with rfl | rfl | rfl | rfl | rfl | rfl | rfl <;> decide
end Go.Av
namespace Go.Proofs.YtcnkifbjlihaoaaGreatDoor
open Go.RowKit Go.Av
section
variable {w0 w : World} {t : Nat} {S : TreeS} {P P' : List PRow} {R : List Thing} {rows : List (Value × Bs)}
set_option maxRecDepth 100000 in
set_option maxHeartbeats 8000000 in
theorem yj5' (h : Sep w0 w (yab' w0 P :: R) rows) (sess num : Int) (l : List OpS) (v : Value) (hv : (5, v, l.flatMap OpS.cells) ∈ P) (hp : ∀ o ∈ l, o.path.size ≤ 100000) :
  Calls Tryz.prog 64 #[.agg #[.int .i64 sess, .int .i64 num, v]] w fun e w' => e = .returned (.int .i64 (mayS sess num l)) ∧ Sep w0 w' (yab' w0 P :: R) rows := by
 obtain ⟨E, hE⟩ := h.poolGet hv
 obtain ⟨a, n, c, rfl, hl0, -, -, hne⟩ := ReadRow.some hE
 rw [yar' yai'] at hl0
 obtain rfl : l.length = n := by omega
 have HNE := Lib.hid hne
 have HV := Lib.hid hv
 have HX := Lib.hid h
 have HPS := Lib.hid hp
 clear h hE hne hv hl0 hp
 obtain ⟨m, hm⟩ : ∃ m, mayS sess num l = m := ⟨_, rfl⟩
 rw [hm]
 have HM := Lib.hid hm
 clear hm
 by_cases h1 : sess < 1 ∨ num < 1 ∨ l.length = 0
 ·obtain rfl : m = 1 := by rw [← HM.out]; unfold mayS; rw [if_pos h1]
  by_cases h2 : sess < 1
  ·have q1 : decide (sess < 1) = true := decide_eq_true h2
   go_enter Tryz.func64, Tryz.ntmps64
   go_wp2_with (first | refine v0 ?_ | (refine vS ?_; clear HX; intro w HX) | (refine vA ?_; clear HX; (first | (have hq := b; clear hq; intro w b2 HX) | intro w b HX)))
   go_ret
   exact ⟨rfl, HX.out.drop⟩
  ·have q1 : decide (sess < 1) = false := decide_eq_false h2
   by_cases h3 : num < 1
   ·have q2 : decide (num < 1) = true := decide_eq_true h3
    go_enter Tryz.func64, Tryz.ntmps64
    go_wp2_with (first | refine v0 ?_ | (refine vS ?_; clear HX; intro w HX) | (refine vA ?_; clear HX; (first | (have hq := b; clear hq; intro w b2 HX) | intro w b HX)))
    go_ret
    exact ⟨rfl, HX.out.drop⟩
   ·have q2 : decide (num < 1) = false := decide_eq_false h3
    have h4 : l.length = 0 := by omega
    have q3 : ((l.length : Int) == 0) = true := by rw [h4]; rfl
    go_enter Tryz.func64, Tryz.ntmps64
    go_wp2_with (first | refine v0 ?_ | (refine vS ?_; clear HX; intro w HX) | (refine vA ?_; clear HX; (first | (have hq := b; clear hq; intro w b2 HX) | intro w b HX)))
    go_ret
    exact ⟨rfl, HX.out.drop⟩
 have q1 : decide (sess < 1) = false := decide_eq_false (fun hh => h1 (.inl hh))
 have q2 : decide (num < 1) = false := decide_eq_false (fun hh => h1 (.inr (.inl hh)))
 have q3 : ((l.length : Int) == 0) = false := by rw [beq_eq_false_iff_ne]; omega
 by_cases h2 : 16 < l.length
 ·obtain rfl : m = 2 := by rw [← HM.out]; unfold mayS; rw [if_neg h1, if_pos h2]
  have q4 : decide (16 < l.length) = true := decide_eq_true h2
  have q5 : decide (16 < (l.length : Int)) = true := decide_eq_true (by omega)
  go_enter Tryz.func64, Tryz.ntmps64
  go_wp2_with (first | refine v0 ?_ | (refine vS ?_; clear HX; intro w HX) | (refine vA ?_; clear HX; (first | (have hq := b; clear hq; intro w b2 HX) | intro w b HX)))
  go_ret
  exact ⟨rfl, HX.out.drop⟩
 have q4 : decide (16 < l.length) = false := decide_eq_false h2
 have q5 : decide (16 < (l.length : Int)) = false := decide_eq_false (by omega)
 have HMM := Lib.hid (show (if ydc' l ≠ 0 then ydc' l else if 1 < l.length ∧ (l.any fun o => ydp' o.kind) = true then 1 else 0) = m by rw [← HM.out]; unfold mayS; rw [if_neg h1, if_neg h2])
 have hl1 : 1 ≤ l.length ∧ l.length ≤ 16 := by omega
 clear HM
 go_enter Tryz.func64, Tryz.ntmps64
 go_wp2_with (first | refine v0 ?_ | (refine vS ?_; clear HX; intro w HX) | (refine vA ?_; clear HX; (first | (have hq := b; clear hq; intro w b2 HX) | intro w b HX)))
 clear q1 q2 q3 q4 q5 h1 h2
 have HST := HX
 go_loopg [3] l.length (fun k v wr => ∃ i : Nat, i + k = l.length ∧ v = .int .i64 (i : Int) ∧ (∀ o ∈ l.take i, ybk' o = 0) ∧ Sep w0 wr (yac' b (.cells #[.int .i64 sess, .int .i64 num, .slice a l.length c] 44 (0, 0)) :: yab' w0 P :: R) rows)
 case atStart => exact ⟨0, by simp, rfl, by simp, HX.out⟩
 case round =>
  rename World => w
  obtain ⟨i, hik, rfl, hok, hS⟩ := hrel
  clear HX HST
  have HX := Lib.hid hS
  have HOK := Lib.hid hok
  clear hS hok
  by_cases hlt : i < l.length
  case neg =>
   obtain rfl : i = l.length := by omega
   clear hlt hik
   have hall := HOK.out
   rw [List.take_length] at hall
   have hf : ydc' l = 0 := yht' hall
   have hmm := HMM.out
   rw [if_neg (fun hh => hh hf)] at hmm
   have HMM2 := Lib.hid hmm
   have HALL := Lib.hid hall
   clear hmm hf HMM HOK hall
   go_wp2_with (first | refine v0 ?_ | (refine vS ?_; clear HX; intro w HX) | (refine vA ?_; clear HX; (first | (have hq := b; clear hq; intro w b2 HX) | intro w b HX)))
   go_loopg [5] l.length (fun k v wr => ∃ i : Nat, i + k = l.length ∧ v = .int .i64 (i : Int) ∧ (1 < l.length → ∀ o ∈ l.take i, ydp' o.kind = false) ∧ Sep w0 wr (yac' b (.cells #[.int .i64 sess, .int .i64 num, .slice a l.length c] 44 (0, 0)) :: yab' w0 P :: R) rows)
   case atStart => exact ⟨0, by simp, rfl, by simp, HX.out⟩
   case round =>
    rename World => w
    obtain ⟨i, hik, rfl, hno, hS⟩ := hrel
    replace HX := Lib.hid hS
    have HNO := Lib.hid hno
    clear hS hno
    by_cases hlt : i < l.length
    case neg =>
     obtain rfl : i = l.length := by omega
     clear hlt hik
     obtain rfl : m = 0 := by
      rw [← HMM2.out, if_neg]
      rintro ⟨h3, h4⟩
      have h5 := HNO.out h3
      rw [List.take_length] at h5
      rw [List.any_eq_true] at h4
      obtain ⟨o, ho, h6⟩ := h4
      rw [h5 o ho] at h6
      cases h6
     go_wp2_with (first | refine v0 ?_ | (refine vS ?_; clear HX; intro w HX) | (refine vA ?_; clear HX; (first | (have hq := b; clear hq; intro w b2 HX) | intro w b HX)))
     go_ret
     exact ⟨rfl, HX.out.drop⟩
    case pos =>
     obtain ⟨g, off, rfl⟩ := HNE.out (by intro e; have := congrArg List.length e; rw [yar' yai'] at this; simp at this; omega)
     obtain ⟨E, hE⟩ := HX.out.up1.poolGet HV.out
     have HTK := Lib.hid (show l.take (i + 1) = l.take i ++ [l[i]] from List.take_succ_eq_append_getElem hlt)
     have HIN := Lib.hid (show l[i] ∈ l from List.getElem_mem hlt)
     have hl := yuj' (P := Tryz.prog) (i := i) (v := .int .i64 l[i].kind) (ty := 3) hE (by kernel_rfl) (by have h0 := ye5' (f := OpS.cells) yai' l hlt (j := 0) (by omega); rw [Nat.add_zero] at h0; rw [h0]; rfl)
     have hgd := HALL.out l[i] (List.getElem_mem hlt)
     obtain ⟨hk1, hk2, -⟩ := yb2' (yce' hgd).1
     have hrg := yui' hk1 hk2
     obtain ⟨o, ho⟩ : ∃ o, l[i] = o := ⟨_, rfl⟩
     rw [ho] at hl HTK HIN hrg
     obtain ⟨kk, hkk⟩ : ∃ kk, o.kind = kk := ⟨_, rfl⟩
     rw [hkk] at hl hrg
     have HKK := Lib.hid hkk
     have q0 : decide (i < l.length) = true := decide_eq_true hlt
     clear hE ho hgd hk1 hk2 hkk
     by_cases h3 : 1 < l.length
     ·have q1 : decide (1 < l.length) = true := decide_eq_true h3
      have q2 : decide (1 < (l.length : Int)) = true := decide_eq_true (by omega)
      by_cases h4 : 5 ≤ kk
      ·have q3 : decide (5 ≤ kk) = true := decide_eq_true h4
       obtain rfl : m = 1 := by
        rw [← HMM2.out, if_pos]
        refine ⟨h3, List.any_eq_true.2 ⟨o, HIN.out, ?_⟩⟩
        rw [HKK.out, hrg, q3]
       clear hrg
       go_wp2_with (first | refine v0 ?_ | (refine vS ?_; clear HX; intro w HX) | (refine vA ?_; clear HX; (first | (have hq := b; clear hq; intro w b2 HX) | intro w b HX)) | ((with_reducible apply yau' hl); (· rfl); (· rfl); simp only [Act.put, k_a, k_b, k_c]))
       go_ret
       exact ⟨rfl, HX.out.drop⟩
      ·have q3 : decide (5 ≤ kk) = false := decide_eq_false h4
       have HRG := Lib.hid (show ydp' o.kind = false by rw [HKK.out, hrg, q3])
       clear hrg
       go_wp2_with (first | refine v0 ?_ | (refine vS ?_; clear HX; intro w HX) | (refine vA ?_; clear HX; (first | (have hq := b; clear hq; intro w b2 HX) | intro w b HX)) | ((with_reducible apply yau' hl); (· rfl); (· rfl); simp only [Act.put, k_a, k_b, k_c]))
       go_roundg (l.length - (i + 1))
       case rel => exact ⟨i + 1, by omega, by go_num, fun h5 => by
        rw [HTK.out]
        intro q hq
        rcases List.mem_append.1 hq with hq | hq
        ·exact HNO.out h5 q hq
        ·rw [List.mem_singleton] at hq; rw [hq]; exact HRG.out, HX.out⟩
       case measure => omega
     ·have q1 : decide (1 < l.length) = false := decide_eq_false h3
      have q2 : decide (1 < (l.length : Int)) = false := decide_eq_false (by omega)
      clear hrg
      go_wp2_with (first | refine v0 ?_ | (refine vS ?_; clear HX; intro w HX) | (refine vA ?_; clear HX; (first | (have hq := b; clear hq; intro w b2 HX) | intro w b HX)))
      go_roundg (l.length - (i + 1))
      case rel => exact ⟨i + 1, by omega, by go_num, fun h5 => absurd h5 h3, HX.out⟩
      case measure => omega
  case pos =>
   obtain ⟨g, off, rfl⟩ := HNE.out (by intro e; have := congrArg List.length e; rw [yar' yai'] at this; simp at this; omega)
   obtain ⟨E, hE⟩ := HX.out.up1.poolGet HV.out
   have hl := yc2' (P := Tryz.prog) (f := OpS.cells) (i := i) hE yai' sn_op hlt
   have HTK := Lib.hid (show l.take (i + 1) = l.take i ++ [l[i]] from List.take_succ_eq_append_getElem hlt)
   have HPO := Lib.hid (HPS.out l[i] (List.getElem_mem hlt))
   have HFE := Lib.hid (fun hb => yk4' hlt HOK.out hb)
   obtain ⟨o, ho⟩ : ∃ o, l[i] = o := ⟨_, rfl⟩
   rw [ho] at hl HTK HPO HFE
   have q0 : decide (i < l.length) = true := decide_eq_true hlt
   obtain ⟨kind, path, data, ver, flags⟩ := o
   simp only [OpS.cells] at hl
   clear hE ho
   go_wp2_with (first | refine v0 ?_ | (refine vS ?_; clear HX; intro w HX) | (refine vA ?_; clear HX; (first | (have hq := b; clear hq; intro w b2 HX) | intro w b HX)) | ((with_reducible apply yau' hl); (· rfl); (· rfl); simp only [Act.put, k_a, k_b, k_c]))
   obtain ⟨ge, hge⟩ : ∃ ge, ybk' ⟨kind, path, data, ver, flags⟩ = ge := ⟨_, rfl⟩
   have hgo := yw5' ⟨kind, path, data, ver, flags⟩ w HPO.out
   rw [hge] at hgo HFE
   refine hgo.mono ?_
   rintro e w1 ⟨rfl, hu⟩
   replace HX := Lib.hid (HX.out.keep hu)
   have HGE := Lib.hid hge
   clear hu hgo hl hge
   by_cases h0 : ge = 0
   ·have q1 : (ge != 0) = false := by rw [h0]; rfl
    go_wp2_with (first | refine v0 ?_ | (refine vS ?_; clear HX; intro w HX) | (refine vA ?_; clear HX; (first | (have hq := b; clear hq; intro w b2 HX) | intro w b HX)))
    go_roundg (l.length - (i + 1))
    case rel => exact ⟨i + 1, by omega, by go_num, by
     rw [HTK.out]
     intro q hq
     rcases List.mem_append.1 hq with hq | hq
     ·exact HOK.out q hq
     ·rw [List.mem_singleton] at hq; rw [hq, HGE.out, h0], HX.out⟩
    case measure => omega
   ·have q1 : (ge != 0) = true := by rw [bne_iff_ne]; exact h0
    obtain rfl : m = ge := by
     have := HMM.out
     rw [HFE.out h0, if_pos h0] at this
     exact this.symm
    go_wp2_with (first | refine v0 ?_ | (refine vS ?_; clear HX; intro w HX) | (refine vA ?_; clear HX; (first | (have hq := b; clear hq; intro w b2 HX) | intro w b HX)))
    go_ret
    exact ⟨rfl, HX.out.drop⟩
end
end Go.Proofs.YtcnkifbjlihaoaaGreatDoor

namespace Go.Proofs.YtcnkifbjlihaoaaGreatDoor
open Go.RowKit Go.Av
set_option maxRecDepth 100000 in
set_option maxHeartbeats 1000000 in
theorem ynu' (b : Value) (l : Bs) (E : List Nat) (v : Int) (w : World) (h : ReadRow w 1 b (l.map bv) E) (hl : l.length ≤ 1073741824) :
  Calls Tryz.prog 121 #[b, .int .i64 v] w (yhi' w [] (l ++ yad' v)) := by
 obtain ⟨i0, hi0, hz0, hz1, hz2⟩ := info_parts yj0'
 obtain ⟨nn, hnn⟩ : ∃ nn : Nat, nn = (v % 18446744073709551616).toNat := ⟨_, rfl⟩
 have e64 : IntKind.u64.wrap v = (nn : Int) := by rw [hnn, IntKind.wrap_u64]; omega
 have HN := Lib.hid hnn
 clear hnn
 have h0 := h.frame ((Upd.alloc0 w (.cells #[] 5 (0, 0)) []).same h.lt (by simp))
 obtain ⟨nb, hnb, hsrc⟩ := h0.src (P := Tryz.prog) (tx := 71) Tryz.underlying71 ynn'
 rw [List.length_map, Nat.mul_one] at hnb
 subst hnb
 have HBD := Lib.hid (show ∀ n', ([] : List Value).length = n' * 1 → n' + l.length ≤ 140737488355328 ∧ (n' + l.length) * i0.bytes ≤ 140737488355328 from fun n' hn' => by simp at hn'; rw [hz2]; omega)
 clear h0
 go_enter Tryz.func121, Tryz.ntmps121
 go_wp2_with (at_builtin; go_must (refine ybs' rfl _ _ 71 71 rfl 1 _ [] [] rfl (OwnRow.zero _ _ _) _ i0 _ Tryz.underlying71 hi0 hz0 hz1 rfl _ _ _ rfl hsrc HBD.out ?_); intro a3 n3 c3' w3 D3 hown3 hu3)
 have hu0 : Upd w w3 [] D3 := (Upd.alloc0 w (.cells #[] 5 (0, 0)) []).trans hu3
 have hst : ∃ (m : Nat) (D : List Nat), m ≤ 8 ∧ (8 : Nat) = m ∧ (Value.int .i64 7) = .int .i64 ((m : Int) - 1) ∧ OwnRow w3 1 (.slice a3 n3 c3') ((l ++ (yad' v).take (8 - m)).map bv) D ∧ Upd w w3 [] D :=
  ⟨8, D3, by omega, rfl, rfl, by simpa using hown3, hu0⟩
 clear hown3 hu3 hu0 hsrc
 go_loopg [5, 6] 8 (fun k o i wr => ∃ (m : Nat) (D : List Nat), m ≤ 8 ∧ k = m ∧ i = .int .i64 ((m : Int) - 1) ∧ OwnRow wr 1 o ((l ++ (yad' v).take (8 - m)).map bv) D ∧ Upd w wr [] D)
 case atStart => exact hst
 case round =>
  obtain ⟨m, D, hm, hk, rfl, hown, hu⟩ := hrel
  cases m with
  | zero =>
   have HO := Lib.hid hown
   have HU := Lib.hid hu
   clear hown hu
   go_wp2_with fail
   go_ret
   exact ⟨_, D, rfl, by have := HO.out; rwa [List.take_of_length_le (by rw [ydy']; omega)] at this, HU.out⟩
  | succ j =>
   rw [show ((j + 1 : Nat) : Int) - 1 = (j : Int) by omega]
   obtain ⟨bt, hbt⟩ : ∃ bt : Nat, bt = nn / 2 ^ (8 * j) % 256 := ⟨_, rfl⟩
   have e8 : IntKind.i64.wrap (8 * (j : Int)) = ((8 * j : Nat) : Int) := by rw [IntWalk.i64_in _ (by omega)]; omega
   have eb : IntKind.u8.wrap ((nn : Int) / 2 ^ (8 * j)) = (bt : Int) := by
    rw [hbt, IntKind.wrap_u8]
    simp
   have HB := Lib.hid hbt
   have hU2 := Upd.alloc0 wr (.cells #[.int .u8 bt] 5 (0, 0)) []
   have hown2 := hown.frame (hU2.same hown.lt (by simp))
   obtain ⟨nb, hnb, hsrc⟩ := (yju' wr (.int .u8 bt) 5 (0, 0)).src (P := Tryz.prog) (tx := 71) Tryz.underlying71 (by intro u hu; rw [List.mem_singleton.1 hu]; rfl)
   have hnb1 : 1 = nb := by simpa using hnb
   subst hnb1
   have HBD := Lib.hid (show ∀ n', ((l ++ (yad' v).take (8 - (j + 1))).map bv).length = n' * 1 → n' + 1 ≤ 140737488355328 ∧ (n' + 1) * i0.bytes ≤ 140737488355328 from fun n' hn' => by simp at hn'; rw [hz2]; omega)
   have HU := Lib.hid (hu.trans (Upd.alloc0 wr (.cells #[.int .u8 bt] 5 (0, 0)) D))
   clear hbt hown hu hnb hU2
   go_wp2_with (at_builtin; go_must (refine ybs' rfl _ _ 71 71 rfl 1 _ _ _ rfl hown2 _ i0 _ Tryz.underlying71 hi0 hz0 hz1 rfl _ _ _ rfl hsrc HBD.out ?_); intro a4 n4 c4 w4 D4 hown4 hu4)
   go_roundg j
   case rel =>
    refine ⟨j, D4, by omega, rfl, rfl, ?_, HU.out.trans hu4⟩
    have e1 : 8 - j = 7 - j + 1 := by omega
    have e2 : 8 - (j + 1) = 7 - j := by omega
    rw [e2] at hown4
    rw [e1, yi4' v j (by omega), ← HN.out, ← List.append_assoc, List.map_append]
    have e3 : ([UInt8.ofNat (nn / 2 ^ (8 * j))] : Bs).map bv = [.int .u8 bt] := by simp [bv, HB.out]
    rw [e3]
    exact hown4
   case measure => omega
set_option maxRecDepth 100000 in
set_option maxHeartbeats 1000000 in
theorem yu0' (b : Value) (l : Bs) (E : List Nat) (s : ByteArray) (w : World) (h : ReadRow w 1 b (l.map bv) E) (hl : l.length ≤ 1000000) (hs : s.size ≤ 1000000) :
  Calls Tryz.prog 122 #[b, .string s] w (yhi' w [] (l ++ ybl' s.data.toList)) := by
 obtain ⟨i0, hi0, hz0, hz1, hz2⟩ := info_parts yj0'
 have hsz : s.size = s.data.toList.length := by simp
 have hp := ynu' b l E (s.size : Int) w h (by omega)
 have HP := Lib.hid hp
 have hln : (l ++ yad' (s.size : Int)).length ≤ 1000008 := by rw [List.length_append, yaf']; omega
 have HT := Lib.hid (show l ++ ybl' s.data.toList = (l ++ yad' (s.size : Int)) ++ s.data.toList by unfold ybl'; rw [hsz, List.append_assoc])
 obtain ⟨lp, hlp⟩ : ∃ lp, l ++ yad' (s.size : Int) = lp := ⟨_, rfl⟩
 rw [hlp] at hln HP HT
 clear h hp hlp hsz
 go_enter Tryz.func122, Tryz.ntmps122
 go_wp2_with fail
 refine HP.out.mono ?_
 rintro e w1 ⟨v1, D1, rfl, ho1, hu1⟩
 have hsrc : Src Tryz.prog 1 9 (.string s) s.size (byteCells s) w1 := Src.ofString _ Tryz.underlying9 s
 have HBD := Lib.hid (show ∀ n', (lp.map bv).length = n' * 1 → n' + s.size ≤ 140737488355328 ∧ (n' + s.size) * i0.bytes ≤ 140737488355328 from fun n' hn' => by
  rw [List.length_map] at hn'
  rw [hz2]; omega)
 have HU := Lib.hid hu1
 clear hu1 HP
 obtain ⟨a1, n1, c1, rfl, -⟩ := ho1.len
 go_wp2_with (at_builtin; go_must (refine ybs' rfl _ _ 71 9 rfl 1 _ _ _ rfl ho1 _ i0 _ Tryz.underlying71 hi0 hz0 hz1 rfl _ _ _ rfl hsrc HBD.out ?_); intro a3 n3 c3' w3 D3 hown3 hu3)
 go_ret
 rw [HT.out]
 rw [ykw', ← List.map_append] at hown3
 exact ⟨_, D3, rfl, hown3, HU.out.trans hu3⟩
end Go.Proofs.YtcnkifbjlihaoaaGreatDoor

namespace Go.Proofs.YtcnkifbjlihaoaaGreatDoor
open Go.RowKit Go.Av
def RdFAt (w : World) (r : Nat) (v : Value) (T : TypeId) (E : List Nat) (B : Bs) (k : Nat) (bad : Bool) : Prop :=
 w.heap[r]? = some (.cells #[v, .int .i64 (k : Int), .bool bad] T (0, 0)) ∧ ReadRow w 1 v (B.map bv) E ∧ (∀ x ∈ E, x ≠ r) ∧ k ≤ B.length
section
variable {w : World} {r : Nat} {v : Value} {T : TypeId} {E : List Nat} {B : Bs} {k : Nat} {bad : Bool}
theorem RdFAt.frame {w' : World} (h : RdFAt w r v T E B k bad) (hs : w'.heap = w.heap) : RdFAt w' r v T E B k bad := by
 obtain ⟨h1, h2, h3, h4⟩ := h
 exact ⟨by rw [hs]; exact h1, h2.frame (fun b _ => by rw [hs]), h3, h4⟩
def yb4' (B : Bs) (k : Nat) (bad : Bool) : Rd := if bad then ([], true) else (B.drop k, false)
def yge' (w : World) (r : Nat) (v : Value) (T : TypeId) (E : List Nat) (B : Bs) (d : Rd) (ret : Ending) (e : Ending) (w' : World) : Prop := e = ret ∧ ∃ k bad, RdFAt w' r v T E B k bad ∧ yb4' B k bad = d ∧ Upd w w' [r] [r]
theorem RdFAt.spoil (h : RdFAt w r v T E B k bad) : w.frozen? ⟨r, 2, none⟩ = false ∧ RdFAt (w.setCell ⟨r, 2, none⟩ (.bool true)) r v T E B k true ∧ Upd w (w.setCell ⟨r, 2, none⟩ (.bool true)) [r] [r] := by
 obtain ⟨h1, h2, h3, h4⟩ := h
 exact ⟨yae' h1 2, ⟨heap_setCell_same w r 2 _ T (.bool true) h1, h2.frame (fun b hb => heap_setCell_other _ _ _ _ (fun e => h3 b hb e)), h3, h4⟩, Upd.set1 _ _ _ _ (by simp)⟩
theorem RdFAt.on (h : RdFAt w r v T E B k bad) (k' : Nat) (hk : k' ≤ B.length) : w.frozen? ⟨r, 1, none⟩ = false ∧ RdFAt (w.setCell ⟨r, 1, none⟩ (.int .i64 (k' : Int))) r v T E B k' bad ∧ Upd w (w.setCell ⟨r, 1, none⟩ (.int .i64 (k' : Int))) [r] [r] := by
 obtain ⟨h1, h2, h3, h4⟩ := h
 exact ⟨yae' h1 1, ⟨heap_setCell_same w r 1 _ T (.int .i64 (k' : Int)) h1, h2.frame (fun b hb => heap_setCell_other _ _ _ _ (fun e => h3 b hb e)), h3, hk⟩, Upd.set1 _ _ _ _ (by simp)⟩
theorem RdFAt.cells (h : RdFAt w r v T E B k bad) : ∃ a c, B.length ≤ c ∧ c ≤ maxLen ∧ k ≤ B.length ∧ w.cell? ⟨r, 0, none⟩ = some (.slice a B.length c) ∧ w.cell? ⟨r, 1, none⟩ = some (.int .i64 (k : Int)) ∧ w.cell? ⟨r, 2, none⟩ = some (.bool bad) ∧
  (0 < B.length → ∃ x : Addr, a = some x ∧ x.spot = none ∧ ∀ (i : Nat) (h : i < B.length), w.cell? (x.add i) = some (bv B[i])) ∧ ∃ E, ReadRow w 1 (.slice a B.length c) (B.map bv) E := by
 obtain ⟨h1, h2, h3, h4⟩ := h
 obtain ⟨a, n, c, rfl, -⟩ := id h2
 obtain ⟨hn, hnc, hcm, hcell⟩ := yd0' h2
 rw [List.length_map] at hn
 subst hn
 refine ⟨a, c, hnc, hcm, h4, yaa' h1 0 rfl, yaa' h1 1 rfl, yaa' h1 2 rfl, fun h0 => ?_, E, h2⟩
 obtain ⟨x, rfl, hs, hx⟩ := hcell h0
 exact ⟨x, rfl, hs, fun i hi => hx i _ (by rw [List.getElem?_map, List.getElem?_eq_getElem hi]; rfl)⟩
end
theorem yck' {w W : World} (h : W.heap = w.heap) (a : Addr) : W.cell? a = w.cell? a := by unfold World.cell?; rw [h]
theorem ypd' (B : Bs) (k : Nat) : yb4' B k true = ([], true) := rfl
theorem ych' (B : Bs) (k : Nat) : yb4' B k false = (B.drop k, false) := rfl
set_option maxRecDepth 100000 in
set_option maxHeartbeats 1000000 in
theorem ym2' (r : Nat) (v : Value) (T : TypeId) (E : List Nat) (B : Bs) (k : Nat) (bad : Bool) (w : World) (h : RdFAt w r v T E B k bad) :
  Calls Tryz.prog 110 #[.pointer (some ⟨r, 0, none⟩)] w (yge' w r v T E B (i64R (yb4' B k bad)).2 (.returned (.int .i64 (i64R (yb4' B k bad)).1))) := by
 obtain ⟨a, c, hlc, hcm, hkB, c0, c1, c2, hel, -⟩ := h.cells
 unfold maxLen at hcm
 obtain ⟨y2, -⟩ := h.spoil
 have H := Lib.hid h
 have HE := Lib.hid hel
 clear h hel
 cases bad with
 | true =>
  go_enter Tryz.func110, Tryz.ntmps110
  go_wp2_with fail
  refine yan' (fun W => W.cell? ⟨r, 0, none⟩ = some (.slice a B.length c) ∧ W.cell? ⟨r, 1, none⟩ = some (.int .i64 (k : Int)) ∧ W.cell? ⟨r, 2, none⟩ = some (.bool true)) 17 (by kernel_rfl) ?_
  refine rT [(0, false), (1, false), (2, false), (3, true), (4, false), (5, false), (6, false), (7, false), (8, true), (9, false), (10, false), (11, false), (12, false), (13, true), (14, false), (15, false), (16, false)] 0 ?_
  apply Exists.intro; refine ⟨?_, ⟨c0, c1, c2⟩, ?_⟩
  ·iterate 17 ((first | (apply ybm'; (· (simp only [k_i, k_j, k_k]; try rfl)); (· rfl)) | ((first | apply yav' | apply yas'); (· (simp only [k_i, k_j, k_k]; try rfl)); (· rfl); (· (intros; go_simp; try with_reducible rfl)))); (· (simp only [Act.put, k_a, k_b, k_c]; try rfl)))
   exact rfl
  refine yah' (by kernel_rfl) ?_ _
  go_wp2_with fail
  go_ret
  obtain ⟨-, h1, h2⟩ := (H.out.frame (w' := w.drew) rfl).spoil
  exact ⟨rfl, _, _, h1, rfl, (Upd.refl w [r]).drew.trans h2⟩
 | false =>
 obtain ⟨m, hm⟩ : ∃ m, B.length = k + m := ⟨B.length - k, by omega⟩
 have hw : IntKind.i64.wrap ((B.length : Int) - (k : Int)) = (m : Int) := by rw [IntWalk.i64_in _ (by omega)]; omega
 by_cases h8 : m < 8
 ·have h8' : (m : Int) < 8 := by omega
  have HR := Lib.hid (show i64R (yb4' B k false) = (0, [], true) by rw [ych']; unfold i64R; rw [if_pos (by rw [List.length_drop]; omega)])
  clear hm
  go_enter Tryz.func110, Tryz.ntmps110
  go_wp2_with fail
  refine yan' (fun W => W.cell? ⟨r, 0, none⟩ = some (.slice a B.length c) ∧ W.cell? ⟨r, 1, none⟩ = some (.int .i64 (k : Int)) ∧ W.cell? ⟨r, 2, none⟩ = some (.bool false)) 17 (by kernel_rfl) ?_
  refine rT [(0, false), (1, false), (2, false), (3, true), (4, false), (5, false), (6, false), (7, false), (8, true), (9, false), (10, false), (11, false), (12, false), (13, true), (14, false), (15, false), (16, false)] 0 ?_
  apply Exists.intro; refine ⟨?_, ⟨c0, c1, c2⟩, ?_⟩
  ·iterate 17 ((first | (apply ybm'; (· (simp only [k_i, k_j, k_k]; try rfl)); (· rfl)) | ((first | apply yav' | apply yas'); (· (simp only [k_i, k_j, k_k]; try rfl)); (· rfl); (· (intros; go_simp; try with_reducible rfl)))); (· (simp only [Act.put, k_a, k_b, k_c]; try rfl)))
   exact rfl
  refine yah' (by kernel_rfl) ?_ _
  go_wp2_with fail
  go_ret
  obtain ⟨-, h1, h2⟩ := (H.out.frame (w' := w.drew) rfl).spoil
  rw [HR.out]
  exact ⟨rfl, _, _, h1, rfl, (Upd.refl w [r]).drew.trans h2⟩
 have h8' : ¬ (m : Int) < 8 := by omega
 have hk8 : k + 8 ≤ B.length := by omega
 have HR := Lib.hid (show i64R (yb4' B k false) = (rdI (B.drop k), B.drop (k + 8), false) by
  rw [ych']; unfold i64R; rw [if_neg (by rw [List.length_drop]; omega)]; simp [List.drop_drop])
 obtain ⟨x, rfl, hxs, hx⟩ := HE.out (by omega)
 have HX := Lib.hid hx
 obtain ⟨y1, -⟩ := H.out.on (k + 8) hk8
 have hm8 : 8 ≤ m := by omega
 have HM := Lib.hid hm
 clear hx h8 hm
 go_enter Tryz.func110, Tryz.ntmps110
 go_wp2_with fail
 refine yan' (fun W => W.cell? ⟨r, 0, none⟩ = some (.slice (some x) B.length c) ∧ W.cell? ⟨r, 1, none⟩ = some (.int .i64 (k : Int)) ∧ W.cell? ⟨r, 2, none⟩ = some (.bool false)) 17 (by kernel_rfl) ?_
 refine rT [(0, false), (1, false), (2, false), (3, true), (4, false), (5, false), (6, false), (7, false), (8, true), (9, false), (10, false), (11, false), (12, false), (13, true), (14, false), (15, false), (16, false)] 0 ?_
 apply Exists.intro; refine ⟨?_, ⟨c0, c1, c2⟩, ?_⟩
 ·iterate 17 ((first | (apply ybm'; (· (simp only [k_i, k_j, k_k]; try rfl)); (· rfl)) | ((first | apply yav' | apply yas'); (· (simp only [k_i, k_j, k_k]; try rfl)); (· rfl); (· (intros; go_simp; try with_reducible rfl)))); (· (simp only [Act.put, k_a, k_b, k_c]; try rfl)))
  exact rfl
 refine yah' (by kernel_rfl) ?_ _
 go_wp2_with fail
 go_loopg [3, 4] 8 (fun g s i wr => ∃ m : Nat, m ≤ 8 ∧ g = 8 - m ∧ i = .int .i64 m ∧ s = .int .u64 (ycd' ((B.drop k).take m)) ∧ wr.heap = w.heap ∧ Upd w wr [] [])
 case atStart => exact ⟨0, by omega, rfl, rfl, rfl, rfl, (Upd.refl w []).drew⟩
 case round =>
  obtain ⟨j, hj, hk, rfl, rfl, hh, hu⟩ := hrel
  have k0 := (yck' hh _).trans c0
  have k1 := (yck' hh _).trans c1
  by_cases hlt : j < 8
  ·have hjB : k + j < B.length := by have := HM.out; omega
   have kx := (yck' hh _).trans (HX.out (k + j) hjB)
   have hgd : (B.drop k)[j]? = some B[k + j] := by rw [List.getElem?_drop, List.getElem?_eq_getElem hjB]
   unfold bv at kx
   obtain ⟨u, hu8⟩ : ∃ u, B[k + j] = u := ⟨_, rfl⟩
   rw [hu8] at kx hgd
   obtain ⟨xv, hxv⟩ : ∃ xv : Nat, xv = u.toNat := ⟨_, rfl⟩
   have hxl : xv < 256 := by rw [hxv]; exact UInt8.toNat_lt _
   rw [← hxv] at kx
   have hjn := yrn' (ycd' ((B.drop k).take j)) xv hxl u hxv.symm
   obtain ⟨f0, hf0⟩ : ∃ f0, f0 = ycd' ((B.drop k).take j) := ⟨_, rfl⟩
   rw [← hf0] at hjn ⊢
   obtain ⟨q, hq⟩ : ∃ q, k + j = q := ⟨_, rfl⟩
   have hkj : IntKind.i64.wrap ((k : Int) + (j : Int)) = (q : Int) := by rw [IntWalk.i64_in _ (by omega)]; omega
   rw [hq] at kx
   have HJ := Lib.hid hjn
   have HF := Lib.hid (show _ ∧ _ ∧ _ ∧ _ from ⟨hf0, hgd, hh, hu⟩)
   have hb1 : q < B.length := by omega
   clear hjn hf0 hxv hu8 hgd hh hu hq hjB
   go_wp2_with fail
   refine yan' (fun W => W.cell? ⟨r, 0, none⟩ = some (.slice (some x) B.length c) ∧ W.cell? ⟨r, 1, none⟩ = some (.int .i64 (k : Int)) ∧ W.cell? (x.add q) = some (.int .u8 (xv : Int))) 17 (by kernel_rfl) ?_
   refine rT [(0, false), (1, false), (2, false), (3, false), (4, false), (5, true), (6, false), (7, false), (8, false), (9, true), (10, false), (11, false), (12, false), (13, true), (14, true), (15, false), (16, false)] 0 ?_
   apply Exists.intro; refine ⟨?_, ⟨k0, k1, kx⟩, ?_⟩
   ·iterate 17 ((first | (apply ybm'; (· (simp only [k_i, k_j, k_k]; try rfl)); (· rfl)) | ((first | apply yav' | apply yas'); (· (simp only [k_i, k_j, k_k]; try rfl)); (· rfl); (· (intros; go_simp; try with_reducible rfl)))); (· (simp only [Act.put, k_a, k_b, k_c]; try rfl)))
    exact rfl
   refine yah' (by kernel_rfl) ?_ _
   go_wp2_with fail
   go_roundg (8 - (j + 1))
   case rel =>
    obtain ⟨hf0, hgd, hh, hu⟩ := HF.out
    refine ⟨j + 1, by omega, rfl, by go_num, ?_, hh, hu.drew⟩
    have e : ycd' ((B.drop k).take (j + 1)) = yf5' (ycd' ((B.drop k).take j)) u := by
     unfold ycd'
     obtain ⟨hl, hg⟩ := List.getElem?_eq_some_iff.1 hgd
     rw [List.take_succ_eq_append_getElem hl, List.foldl_append, hg]
     rfl
    rw [show IntKind.u64.wrap (xv : Int) = (xv : Int) by rw [IntKind.wrap_u64]; omega, HJ.out, hf0, e]
   case measure => omega
  obtain rfl : j = 8 := by omega
  have y1 : wr.frozen? ⟨r, 1, none⟩ = false := by unfold World.frozen? at y1 ⊢; rw [hh]; exact y1
  have HU := Lib.hid (show _ ∧ _ from ⟨hu, hh⟩)
  clear hu hh
  go_wp2_with fail
  go_ret
  obtain ⟨hu, hh⟩ := HU.out
  obtain ⟨-, h1, h2⟩ := (H.out.frame (w' := wr) hh).on (k + 8) hk8
  rw [show ((k + 8 : Nat) : Int) = (k : Int) + 8 by omega] at h1 h2
  rw [HR.out]
  refine ⟨congrArg (fun z => Ending.returned (.int .i64 z)) (ysw' _), _, _, h1, by rw [ych'], ?_⟩
  exact (hu.mono (by simp) (fun b hb => .inr hb)).trans h2
theorem ywe' (most : Int) (B : Bs) (k : Nat) (bad : Bool) : cntR most (yb4' B k bad) =
  if (i64R (yb4' B k bad)).2.2 = true ∨ (i64R (yb4' B k bad)).1 < 0 ∨ most < (i64R (yb4' B k bad)).1 then (0, [], true) else ((i64R (yb4' B k bad)).1, (i64R (yb4' B k bad)).2) := by
 cases bad with
 | true => rfl
 | false =>
  rw [ych']
  unfold cntR cntS i64R
  by_cases h8 : (B.drop k).length < 8
  ·simp only [if_pos h8]
   simp
  ·simp only [if_neg h8]
   by_cases hv : rdI (B.drop k) < 0 ∨ most < rdI (B.drop k)
   ·rw [if_pos hv, if_pos (.inr hv)]
   ·rw [if_neg hv, if_neg (by simpa using hv)]
set_option maxRecDepth 100000 in
set_option maxHeartbeats 1000000 in
theorem yh7' (r : Nat) (v : Value) (T : TypeId) (E : List Nat) (B : Bs) (k : Nat) (bad : Bool) (most : Int) (w : World) (h : RdFAt w r v T E B k bad) :
  Calls Tryz.prog 109 #[.pointer (some ⟨r, 0, none⟩), .int .i64 most] w (yge' w r v T E B (cntR most (yb4' B k bad)).2 (.returned (.int .i64 (cntR most (yb4' B k bad)).1))) := by
 have hc := ywe' most B k bad
 have hi := ym2' r v T E B k bad w h
 obtain ⟨q, hq⟩ : ∃ q, cntR most (yb4' B k bad) = q := ⟨_, rfl⟩
 rw [hq] at hc ⊢
 obtain ⟨z, hz⟩ : ∃ z, i64R (yb4' B k bad) = z := ⟨_, rfl⟩
 rw [hz] at hc hi
 clear hq hz h
 obtain ⟨nv, d⟩ := z
 dsimp only at hc hi
 have HI := Lib.hid hi
 have HC := Lib.hid hc
 clear hi hc
 go_enter Tryz.func109, Tryz.ntmps109
 go_wp2_with fail
 refine HI.out.mono ?_
 rintro e w1 ⟨rfl, k1, bad1, h1, hd, hu⟩
 obtain ⟨a, c, -, -, -, -, -, c2, -⟩ := h1.cells
 obtain ⟨y2, h2, hu2⟩ := h1.spoil
 have HB := Lib.hid (show yge' w r v T E B ([], true) (.returned (.int .i64 0)) (.returned (.int .i64 0)) (w1.setCell ⟨r, 2, none⟩ (.bool true)) from ⟨rfl, _, _, h2, rfl, hu.trans hu2⟩)
 have HG := Lib.hid (show yge' w r v T E B d (.returned (.int .i64 nv)) (.returned (.int .i64 nv)) w1 from ⟨rfl, _, _, h1, hd, hu⟩)
 have HD := Lib.hid hd
 clear h1 h2 hu hu2 hd HI
 cases bad1 with
 | true =>
  have HQ := Lib.hid (show q = (0, [], true) by rw [HC.out, if_pos (.inl (by rw [← HD.out]; rfl))])
  go_wp2_with fail
  go_ret
  rw [HQ.out]
  exact HB.out
 | false =>
 have hd2 : d.2 = false := by rw [← HD.out]; rfl
 by_cases h0 : nv < 0
 ·have HQ := Lib.hid (show q = (0, [], true) by rw [HC.out, if_pos (.inr (.inl h0))])
  clear hd2
  go_wp2_with fail
  go_ret
  rw [HQ.out]
  exact HB.out
 by_cases hm : most < nv
 ·have HQ := Lib.hid (show q = (0, [], true) by rw [HC.out, if_pos (.inr (.inr hm))])
  clear hd2
  go_wp2_with fail
  go_ret
  rw [HQ.out]
  exact HB.out
 have HQ := Lib.hid (show q = (nv, d) by rw [HC.out, if_neg (by rw [hd2]; simp; omega)])
 clear hd2
 go_wp2_with fail
 go_ret
 rw [HQ.out]
 exact HG.out
set_option maxRecDepth 100000 in
set_option maxHeartbeats 1000000 in
theorem yxe' (r : Nat) (v : Value) (T : TypeId) (E : List Nat) (B : Bs) (k : Nat) (bad : Bool) (w : World) (h : RdFAt w r v T E B k bad) :
  Calls Tryz.prog 114 #[.pointer (some ⟨r, 0, none⟩)] w fun e w' => e = .returned (.bool (!(yb4' B k bad).2 && (yb4' B k bad).1.isEmpty)) ∧ Upd w w' [] [] ∧ w'.heap = w.heap := by
 obtain ⟨a, c, hlc, hcm, hkB, c0, c1, c2, -, -⟩ := h.cells
 clear h
 cases bad with
 | true =>
  go_enter Tryz.func114, Tryz.ntmps114
  go_wp2_with fail
  refine yan' (fun W => W.cell? ⟨r, 0, none⟩ = some (.slice a B.length c) ∧ W.cell? ⟨r, 1, none⟩ = some (.int .i64 (k : Int)) ∧ W.cell? ⟨r, 2, none⟩ = some (.bool true)) 18 (by kernel_rfl) ?_
  refine rT [(0, false), (1, false), (2, false), (3, true), (4, false), (5, false), (6, false), (7, false), (8, false), (9, true), (10, false), (11, false), (12, false), (13, true), (14, false), (15, false), (16, false), (17, false)] 0 ?_
  apply Exists.intro; refine ⟨?_, ⟨c0, c1, c2⟩, ?_⟩
  ·iterate 18 ((first | (apply ybm'; (· (simp only [k_i, k_j, k_k]; try rfl)); (· rfl)) | ((first | apply yav' | apply yas'); (· (simp only [k_i, k_j, k_k]; try rfl)); (· rfl); (· (intros; go_simp; try with_reducible rfl)))); (· (simp only [Act.put, k_a, k_b, k_c]; try rfl)))
   exact rfl
  refine yah' (by kernel_rfl) ?_ _
  go_wp2_with fail
  go_ret
  exact ⟨rfl, (Upd.refl w []).drew, rfl⟩
 | false =>
 obtain ⟨b, hb⟩ : ∃ b, ((k : Int) == (B.length : Int)) = b := ⟨_, rfl⟩
 have HB := Lib.hid (show (!(yb4' B k false).2 && (yb4' B k false).1.isEmpty) = b by
  rw [ych', ← hb]
  simp only [Bool.not_false, Bool.true_and]
  cases hx : (B.drop k).isEmpty with
  | true =>
   have : B.length ≤ k := by simpa using hx
   simp; omega
  | false =>
   have : ¬ B.length ≤ k := by simpa using hx
   simp; omega)
 rw [HB.out]
 clear HB
 go_enter Tryz.func114, Tryz.ntmps114
 go_wp2_with fail
 refine yan' (fun W => W.cell? ⟨r, 0, none⟩ = some (.slice a B.length c) ∧ W.cell? ⟨r, 1, none⟩ = some (.int .i64 (k : Int)) ∧ W.cell? ⟨r, 2, none⟩ = some (.bool false)) 18 (by kernel_rfl) ?_
 refine rT [(0, false), (1, false), (2, false), (3, true), (4, false), (5, false), (6, false), (7, false), (8, false), (9, true), (10, false), (11, false), (12, false), (13, true), (14, false), (15, false), (16, false), (17, false)] 0 ?_
 apply Exists.intro; refine ⟨?_, ⟨c0, c1, c2⟩, ?_⟩
 ·iterate 18 ((first | (apply ybm'; (· (simp only [k_i, k_j, k_k]; try rfl)); (· rfl)) | ((first | apply yav' | apply yas'); (· (simp only [k_i, k_j, k_k]; try rfl)); (· rfl); (· (intros; go_simp; try with_reducible rfl)))); (· (simp only [Act.put, k_a, k_b, k_c]; try rfl)))
  exact rfl
 refine yah' (by kernel_rfl) ?_ _
 go_wp2_with fail
 go_ret
 exact ⟨rfl, (Upd.refl w []).drew, rfl⟩
set_option maxRecDepth 100000 in
set_option maxHeartbeats 1000000 in
theorem yoc' (r : Nat) (v : Value) (T : TypeId) (E : List Nat) (B : Bs) (k : Nat) (bad : Bool) (most : Int) (hm : 0 ≤ most) (w : World) (h : RdFAt w r v T E B k bad) :
  Calls Tryz.prog 112 #[.pointer (some ⟨r, 0, none⟩), .int .i64 most] w (yge' w r v T E B (yaj' most (yb4' B k bad)).2 (.returned (sv (yaj' most (yb4' B k bad)).1))) := by
 obtain ⟨i0, hi0, hz0, hz1, hz2⟩ := info_parts yj0'
 have hc := yh7' r v T E B k bad most w h
 have hbd := yct' hm (yb4' B k bad)
 have htx : yaj' most (yb4' B k bad) = yaj' most (yb4' B k bad) := rfl
 conv at htx => rhs; unfold yaj'
 obtain ⟨q, hq⟩ : ∃ q, cntR most (yb4' B k bad) = q := ⟨_, rfl⟩
 rw [hq] at hc hbd
 simp only [hq] at htx
 obtain ⟨n, d⟩ := q
 dsimp only at htx hbd hc
 obtain ⟨m, rfl⟩ : ∃ m : Nat, n = m := ⟨n.toNat, by omega⟩
 rw [Int.toNat_natCast] at htx
 have HC := Lib.hid hc
 clear hc hq h hbd
 obtain ⟨tx, htx2⟩ : ∃ tx, yaj' most (yb4' B k bad) = tx := ⟨_, rfl⟩
 rw [htx2] at htx ⊢
 clear htx2
 have HT := Lib.hid htx
 clear htx
 go_enter Tryz.func112, Tryz.ntmps112
 go_wp2_with fail
 refine HC.out.mono ?_
 rintro e w1 ⟨rfl, k1, bad1, h1, hd, hu⟩
 obtain ⟨a, c, hlc, hcm, hkB, c0, c1, c2, hel, E1, hrow⟩ := h1.cells
 unfold maxLen at hcm
 have HB := Lib.hid (show ∀ W : World, W.heap = w1.heap → Upd w W [r] [r] → yge' w r v T E B ([], true) (.returned (sv [])) (.returned (sv [])) (W.setCell ⟨r, 2, none⟩ (.bool true)) from fun W hW hU => by
  obtain ⟨-, h2, hu2⟩ := (h1.frame (w' := W) hW).spoil
  exact ⟨rfl, _, _, h2, rfl, hU.trans hu2⟩)
 obtain ⟨y2, -⟩ := h1.spoil
 have HU := Lib.hid hu
 have HD := Lib.hid hd
 cases bad1 with
 | true =>
  have HQ := Lib.hid (show tx = ([], [], true) by
   rw [HT.out, ← HD.out, ypd']
   dsimp only
   split <;> simp)
  clear h1 hu hd hel hrow HC
  go_wp2_with fail
  refine yan' (fun W => W.cell? ⟨r, 0, none⟩ = some (.slice a B.length c) ∧ W.cell? ⟨r, 1, none⟩ = some (.int .i64 (k1 : Int)) ∧ W.cell? ⟨r, 2, none⟩ = some (.bool true)) 18 (by kernel_rfl) ?_
  refine rT [(0, false), (1, false), (2, false), (3, true), (4, false), (5, false), (6, false), (7, false), (8, true), (9, false), (10, false), (11, false), (12, false), (13, true), (14, false), (15, false), (16, false), (17, false)] 0 ?_
  apply Exists.intro; refine ⟨?_, ⟨c0, c1, c2⟩, ?_⟩
  ·iterate 18 ((first | (apply ybm'; (· (simp only [k_i, k_j, k_k]; try rfl)); (· rfl)) | ((first | apply yav' | apply yas'); (· (simp only [k_i, k_j, k_k]; try rfl)); (· rfl); (· (intros; go_simp; try with_reducible rfl)))); (· (simp only [Act.put, k_a, k_b, k_c]; try rfl)))
   exact rfl
  refine yah' (by kernel_rfl) ?_ _
  go_wp2_with fail
  go_ret
  rw [HQ.out]
  exact HB.out w1.drew rfl HU.out.drew
 | false =>
 obtain ⟨z, hz⟩ : ∃ z, B.length = k1 + z := ⟨B.length - k1, by omega⟩
 have hw : IntKind.i64.wrap ((B.length : Int) - (k1 : Int)) = (z : Int) := by rw [IntWalk.i64_in _ (by omega)]; omega
 have hdl : (B.drop k1).length = z := by rw [List.length_drop]; omega
 by_cases hlt : z < m
 ·have HQ := Lib.hid (show tx = ([], [], true) by
   rw [HT.out, ← HD.out, ych']
   dsimp only
   rw [if_pos (by rw [hdl]; omega)])
  clear h1 hu hd hel hrow HC hz hdl
  go_wp2_with fail
  refine yan' (fun W => W.cell? ⟨r, 0, none⟩ = some (.slice a B.length c) ∧ W.cell? ⟨r, 1, none⟩ = some (.int .i64 (k1 : Int)) ∧ W.cell? ⟨r, 2, none⟩ = some (.bool false)) 18 (by kernel_rfl) ?_
  refine rT [(0, false), (1, false), (2, false), (3, true), (4, false), (5, false), (6, false), (7, false), (8, true), (9, false), (10, false), (11, false), (12, false), (13, true), (14, false), (15, false), (16, false), (17, false)] 0 ?_
  apply Exists.intro; refine ⟨?_, ⟨c0, c1, c2⟩, ?_⟩
  ·iterate 18 ((first | (apply ybm'; (· (simp only [k_i, k_j, k_k]; try rfl)); (· rfl)) | ((first | apply yav' | apply yas'); (· (simp only [k_i, k_j, k_k]; try rfl)); (· rfl); (· (intros; go_simp; try with_reducible rfl)))); (· (simp only [Act.put, k_a, k_b, k_c]; try rfl)))
   exact rfl
  refine yah' (by kernel_rfl) ?_ _
  go_wp2_with fail
  go_ret
  rw [HQ.out]
  exact HB.out w1.drew rfl HU.out.drew
 have HQ := Lib.hid (show tx = ((B.drop k1).take m, B.drop (k1 + m), false) by
  rw [HT.out, ← HD.out, ych']
  dsimp only
  rw [if_neg (by rw [hdl]; omega)]
  simp [List.drop_drop])
 have hkm : k1 + m ≤ B.length := by omega
 obtain ⟨a', hsl, E', hr', -⟩ := yr4' (P := Tryz.prog) (t := 71) Tryz.underlying71 hi0 hz1 hrow k1 (k1 + m) (by omega) hkm
 rw [show k1 + m - k1 = m by omega] at hsl hr'
 obtain ⟨q, hq⟩ : ∃ q, k1 + m = q := ⟨_, rfl⟩
 rw [hq] at hsl
 have hwq : IntKind.i64.wrap ((k1 : Int) + (m : Int)) = (q : Int) := by rw [IntWalk.i64_in _ (by omega)]; omega
 have hcv : ∀ W : World, W.heap = w1.heap → _ := fun W hW => conv_str (P := Tryz.prog) (src := 71) (dst := 9) Tryz.underlying71 Tryz.underlying5 Tryz.underlying9 hr' W (fun b _ => by rw [hW])
 have k0 := fun (W : World) (hW : W.heap = w1.heap) => (yck' hW _).trans c0
 have kk1 := fun (W : World) (hW : W.heap = w1.heap) => (yck' hW _).trans c1
 have k2 := fun (W : World) (hW : W.heap = w1.heap) => (yck' hW _).trans c2
 have y1 : w1.frozen? ⟨r, 1, none⟩ = false := (h1.on (k1 + m) hkm).1
 have HH := Lib.hid (show _ ∧ _ from ⟨h1, hq⟩)
 have hzm : ¬ (z : Int) < (m : Int) := by omega
 clear h1 hu hd hel hrow HC hz hdl hr' hlt hq
 go_wp2_with fail
 refine yan' (fun W => W.heap = w1.heap) 18 (by kernel_rfl) ?_
 refine rT [(0, false), (1, false), (2, false), (3, true), (4, false), (5, false), (6, false), (7, false), (8, true), (9, false), (10, false), (11, false), (12, false), (13, true), (14, false), (15, false), (16, false), (17, false)] 0 ?_
 apply Exists.intro; refine ⟨?_, rfl, ?_⟩
 ·iterate 18 ((first | (apply ybm'; (· (simp only [k_i, k_j, k_k]; try rfl)); (· rfl)) | ((first | apply yav' | apply yas'); (· (simp only [k_i, k_j, k_k]; try rfl)); (· rfl); (· (intros; go_simp; try with_reducible rfl)))); (· (simp only [Act.put, k_a, k_b, k_c]; try rfl)))
  exact rfl
 refine yah' (by kernel_rfl) ?_ _
 go_wp2_with fail
 have y1 : w1.frozen? ⟨r, 1, none⟩ = false := y1
 obtain ⟨w2, hw2⟩ : ∃ w2, w2 = w1.drew := ⟨_, rfl⟩
 have hh2 : w2.heap = w1.heap := by rw [hw2]; rfl
 have HU2 := Lib.hid (show Upd w w2 [r] [r] from by rw [hw2]; exact HU.out.drew)
 have y1 : w2.frozen? ⟨r, 1, none⟩ = false := by unfold World.frozen? at y1 ⊢; rw [hh2]; exact y1
 rw [← hw2]
 clear hw2
 refine yan' (fun W => W.heap = w1.heap) 17 (by kernel_rfl) ?_
 refine rT [(0, false), (1, false), (2, false), (3, true), (4, false), (5, false), (6, false), (7, true), (8, false), (9, false), (10, false), (11, true), (12, false), (13, false), (14, false), (15, true), (16, false)] 0 ?_
 apply Exists.intro; refine ⟨?_, hh2, ?_⟩
 ·iterate 17 ((first | (apply ybm'; (· (simp only [k_i, k_j, k_k]; try rfl)); (· rfl)) | ((first | apply yav' | apply yas'); (· (simp only [k_i, k_j, k_k]; try rfl)); (· rfl); (· (intros; go_simp; try with_reducible rfl)))); (· (simp only [Act.put, k_a, k_b, k_c]; try rfl)))
  exact rfl
 refine yah' (by kernel_rfl) ?_ _
 go_wp2_with fail
 go_ret
 rw [HQ.out]
 obtain ⟨h1, hq⟩ := HH.out
 obtain ⟨-, h2, hu2⟩ := (h1.frame (w' := w2) hh2).on (k1 + m) hkm
 rw [hq] at h2 hu2
 exact ⟨rfl, _, _, h2.frame rfl, by rw [← hq]; rfl, (HU2.out.trans hu2).drew⟩
def RdF (w0 w : World) (r : Nat) (d : Rd) (R : List Thing) (rows : List (Value × Bs)) : Prop :=
 ∃ v T B k bad, (v, B) ∈ rows ∧ k ≤ B.length ∧ yb4' B k bad = d ∧ Sep w0 w (yac' r (.cells #[v, .int .i64 (k : Int), .bool bad] T (0, 0)) :: R) rows
section
variable {w0 w : World} {r : Nat} {d : Rd} {R : List Thing} {rows : List (Value × Bs)}
theorem RdF.use (h : RdF w0 w r d R rows) : ∃ v T E B k bad, RdFAt w r v T E B k bad ∧ yb4' B k bad = d ∧ ∀ w' k' bad', RdFAt w' r v T E B k' bad' → Upd w w' [r] [r] → RdF w0 w' r (yb4' B k' bad') R rows := by
 obtain ⟨v, T, B, k, bad, hm, hk, hd, hS⟩ := h
 obtain ⟨D, ⟨hb, rfl⟩, hr, back⟩ := hS.use
 obtain ⟨E, hE, hdis⟩ := hr _ hm
 refine ⟨v, T, E, B, k, bad, ⟨hb, hE, fun x hx e => hdis x hx (by simp [e]), hk⟩, hd, fun w' k' bad' h' hu => ?_⟩
 exact ⟨v, T, B, k', bad', hm, h'.2.2.2, rfl, back w' [r] (yac' r (.cells #[v, .int .i64 (k' : Int), .bool bad'] T (0, 0))) hu ⟨h'.1, rfl⟩⟩
theorem RdF.i64 (h : RdF w0 w r d R rows) :
  Calls Tryz.prog 110 #[.pointer (some ⟨r, 0, none⟩)] w fun e w' => e = .returned (.int .i64 (i64R d).1) ∧ RdF w0 w' r (i64R d).2 R rows := by
 obtain ⟨v, T, E, B, k, bad, hP, rfl, back⟩ := h.use
 refine (ym2' r v T E B k bad w hP).mono ?_
 rintro e w' ⟨rfl, k', bad', h', e', hu⟩
 exact ⟨rfl, by rw [← e']; exact back w' _ _ h' hu⟩
theorem RdF.count (h : RdF w0 w r d R rows) (most : Int) :
  Calls Tryz.prog 109 #[.pointer (some ⟨r, 0, none⟩), .int .i64 most] w fun e w' => e = .returned (.int .i64 (cntR most d).1) ∧ RdF w0 w' r (cntR most d).2 R rows := by
 obtain ⟨v, T, E, B, k, bad, hP, rfl, back⟩ := h.use
 refine (yh7' r v T E B k bad most w hP).mono ?_
 rintro e w' ⟨rfl, k', bad', h', e', hu⟩
 exact ⟨rfl, by rw [← e']; exact back w' _ _ h' hu⟩
theorem RdF.text (h : RdF w0 w r d R rows) (most : Int) (hm : 0 ≤ most) :
  Calls Tryz.prog 112 #[.pointer (some ⟨r, 0, none⟩), .int .i64 most] w fun e w' => e = .returned (sv (yaj' most d).1) ∧ RdF w0 w' r (yaj' most d).2 R rows := by
 obtain ⟨v, T, E, B, k, bad, hP, rfl, back⟩ := h.use
 refine (yoc' r v T E B k bad most hm w hP).mono ?_
 rintro e w' ⟨rfl, k', bad', h', e', hu⟩
 exact ⟨rfl, by rw [← e']; exact back w' _ _ h' hu⟩
theorem RdF.keep (h : RdF w0 w r d R rows) {w' : World} {D' : List Nat} (hu : Upd w w' [] D') : RdF w0 w' r d R rows := by
 obtain ⟨v, T, B, k, bad, hm, hk, hd, hS⟩ := h
 exact ⟨v, T, B, k, bad, hm, hk, hd, hS.keep hu⟩
theorem RdF.made {v : Value} {b : Bs} (h : Sep w0 w R rows) (hv : (v, b) ∈ rows) (T : TypeId) : RdF w0 (w.alloc (.cells #[v, .int .i64 0, .bool false] T (0, 0))) w.heap.size (b, false) R rows :=
 ⟨v, T, b, 0, false, hv, Nat.zero_le _, rfl, h.newCell _⟩
theorem RdF.drop (h : RdF w0 w r d R rows) : Sep w0 w R rows := by
 obtain ⟨v, T, B, k, bad, hm, hk, hd, hS⟩ := h
 exact hS.drop
theorem RdF.to (h : RdF w0 w r d R rows) : ∃ X, Sep w0 w (X :: R) rows ∧ ∀ w' R' rows', (∀ x ∈ rows, x ∈ rows') → Sep w0 w' (X :: R') rows' → RdF w0 w' r d R' rows' := by
 obtain ⟨v, T, B, k, bad, hm, hk, hd, hS⟩ := h
 exact ⟨_, hS, fun w' R' rows' hs h' => ⟨v, T, B, k, bad, hs _ hm, hk, hd, h'⟩⟩
end
end Go.Proofs.YtcnkifbjlihaoaaGreatDoor

namespace Go.Proofs.YtcnkifbjlihaoaaGreatDoor
open Go.RowKit Go.Av
section
variable {w0 w : World} {r : Nat} {d : Rd} {P P' : List PRow} {R : List Thing} {rows : List (Value × Bs)}
theorem ypc' {o : Obj} (h : Sep w0 w (yac' r o :: yab' w0 P :: R) rows) {q : PRow} (hq : q ∈ P) : ∃ E, ReadRow w q.1 q.2.1 q.2.2 E ∧ ∀ x ∈ E, x ≠ r := by
 obtain ⟨D, E, hD, hP, hA, -⟩ := h.use2
 rcases hP.2 q hq with ⟨F, hF, hs⟩ | ⟨F, hF⟩
 ·exact ⟨F, hF, fun x hx e => hA x (by rw [hD.2, e]; simp) (hs x hx)⟩
 ·refine ⟨F, hF.frame (fun b hb => h.below.block b (hF.lt b hb)), fun x hx e => ?_⟩
  have hlt := hF.lt x hx
  obtain ⟨D0, hl, hu, -⟩ := h
  cases hl with
  | @cons _ D _ G h1 h2 h3 =>
   rcases hu.new x (by rw [h1.2, e]; simp) with h4 | h4
   ·cases h4
   ·omega
def RfO (r : Nat) (d : Rd) (P : List PRow) (L : List Thing) : Prop :=
 ∃ v B k bad, L = [yac' r (.cells #[v, .int .i64 (k : Nat), .bool bad] 187 (0, 0))] ∧ (1, v, B.map bv) ∈ P ∧ k ≤ B.length ∧ yb4' B k bad = d
def ThRf (r : Nat) (d : Rd) (P : List PRow) : Thing := Bun (RfO r d P)
theorem yoe' (h : Sep w0 w (ThRf r d P :: yab' w0 P :: R) rows) : ∃ v E B k bad, RdFAt w r v 187 E B k bad ∧ yb4' B k bad = d ∧
  ∀ w' k' bad', RdFAt w' r v 187 E B k' bad' → Upd w w' [r] [r] → Sep w0 w' (ThRf r (yb4' B k' bad') P :: yab' w0 P :: R) rows := by
 obtain ⟨L, ⟨v, B, k, bad, rfl, hm, hk, hd⟩, hS⟩ := h.opens
 have hS : Sep w0 w (yac' r (.cells #[v, .int .i64 (k : Nat), .bool bad] 187 (0, 0)) :: yab' w0 P :: R) rows := hS
 obtain ⟨E, hE, hx⟩ := ypc' hS hm
 obtain ⟨D, ⟨hb, rfl⟩, -, back⟩ := hS.use
 refine ⟨v, E, B, k, bad, ⟨hb, hE, hx, hk⟩, hd, fun w' k' bad' h' hu => ?_⟩
 exact Sep.shut (O := RfO r (yb4' B k' bad') P) ⟨v, B, k', bad', rfl, hm, h'.2.2.2, rfl⟩ (back w' [r] (yac' r (.cells #[v, .int .i64 (k' : Nat), .bool bad'] 187 (0, 0))) hu ⟨h'.1, rfl⟩)
theorem ygz' (h : Sep w0 w (ThRf r d P :: yab' w0 P :: R) rows) :
  Calls Tryz.prog 110 #[.pointer (some ⟨r, 0, none⟩)] w fun e w' => e = .returned (.int .i64 (i64R d).1) ∧ Sep w0 w' (ThRf r (i64R d).2 P :: yab' w0 P :: R) rows := by
 obtain ⟨v, E, B, k, bad, hP, rfl, back⟩ := yoe' h
 refine (ym2' r v _ E B k bad w hP).mono ?_
 rintro e w' ⟨rfl, k', bad', h', e', hu⟩
 exact ⟨rfl, by rw [← e']; exact back w' _ _ h' hu⟩
theorem ydz' (h : Sep w0 w (ThRf r d P :: yab' w0 P :: R) rows) (most : Int) :
  Calls Tryz.prog 109 #[.pointer (some ⟨r, 0, none⟩), .int .i64 most] w fun e w' => e = .returned (.int .i64 (cntR most d).1) ∧ Sep w0 w' (ThRf r (cntR most d).2 P :: yab' w0 P :: R) rows := by
 obtain ⟨v, E, B, k, bad, hP, rfl, back⟩ := yoe' h
 refine (yh7' r v _ E B k bad most w hP).mono ?_
 rintro e w' ⟨rfl, k', bad', h', e', hu⟩
 exact ⟨rfl, by rw [← e']; exact back w' _ _ h' hu⟩
theorem ykh' (h : Sep w0 w (ThRf r d P :: yab' w0 P :: R) rows) (most : Int) (hm : 0 ≤ most) :
  Calls Tryz.prog 112 #[.pointer (some ⟨r, 0, none⟩), .int .i64 most] w fun e w' => e = .returned (sv (yaj' most d).1) ∧ Sep w0 w' (ThRf r (yaj' most d).2 P :: yab' w0 P :: R) rows := by
 obtain ⟨v, E, B, k, bad, hP, rfl, back⟩ := yoe' h
 refine (yoc' r v _ E B k bad most hm w hP).mono ?_
 rintro e w' ⟨rfl, k', bad', h', e', hu⟩
 exact ⟨rfl, by rw [← e']; exact back w' _ _ h' hu⟩
theorem yrt' (h : Sep w0 w (ThRf r d P :: yab' w0 P :: R) rows) :
  Calls Tryz.prog 114 #[.pointer (some ⟨r, 0, none⟩)] w fun e w' => e = .returned (.bool (!d.2 && d.1.isEmpty)) ∧ Sep w0 w' (ThRf r d P :: yab' w0 P :: R) rows := by
 obtain ⟨v, E, B, k, bad, hP, rfl, back⟩ := yoe' h
 refine (yxe' r v _ E B k bad w hP).mono ?_
 rintro e w' ⟨rfl, hu, hh⟩
 exact ⟨rfl, h.keep hu⟩
theorem yvo' (h : Sep w0 w (ThRf r d P :: R) rows) : w.cell? ⟨r, 2, none⟩ = some (.bool d.2) := by
 obtain ⟨L, ⟨v, B, k, bad, rfl, hm, hk, rfl⟩, hS⟩ := h.opens
 have hS : Sep w0 w (yac' r (.cells #[v, .int .i64 (k : Nat), .bool bad] 187 (0, 0)) :: R) rows := hS
 cases bad <;> exact yaa' hS.blk 2 rfl
theorem yvp' {v : Value} {B : Bs} (h : Sep w0 w (yac' r (.cells #[v, .int .i64 0, .bool false] 187 (0, 0)) :: R) rows) (hm : (1, v, B.map bv) ∈ P) : Sep w0 w (ThRf r (B, false) P :: R) rows :=
 Sep.shut (O := RfO r (B, false) P) ⟨v, B, 0, false, rfl, hm, Nat.zero_le _, rfl⟩ h
theorem ygn' (h : Sep w0 w (ThRf r d P :: R) rows) (hP : ∀ q ∈ P, q ∈ P') : Sep w0 w (ThRf r d P' :: R) rows := by
 obtain ⟨L, ⟨v, B, k, bad, h1, hm, hk, hd⟩, hS⟩ := h.opens
 exact Sep.shut (O := RfO r d P') ⟨v, B, k, bad, h1, hP _ hm, hk, hd⟩ hS
end
end Go.Proofs.YtcnkifbjlihaoaaGreatDoor

namespace Go.Proofs.YtcnkifbjlihaoaaGreatDoor
open Go.RowKit Go.Av
section
variable {w0 w : World} {P P' : List PRow} {R : List Thing} {rows : List (Value × Bs)}
theorem sn_x3 : StructN Tryz.prog 44 3 := ⟨by kernel_rfl⟩
theorem z_x3 : yco' Tryz.prog 44 #[.int .i64 0, .int .i64 0, .slice none 0 0] := by unfold yco'; kernel_rfl
theorem i64D {v : Value} {l : Bs} (h : Sep w0 w (ybc' 1 v (l.map bv) :: R) rows) (x : Int) (hl : l.length ≤ 1000000) :
  Calls Tryz.prog 121 #[v, .int .i64 x] w fun e w' => ∃ v', e = .returned v' ∧ Sep w0 w' (ybc' 1 v' ((l ++ yad' x).map bv) :: R) rows := by
 obtain ⟨E, hE⟩ := yf6' h
 refine (ynu' v l E x w hE (by omega)).mono ?_
 rintro e w' ⟨v', D, rfl, ho, hu⟩
 exact ⟨v', rfl, (h.drop).addRow ho hu⟩
theorem txtD {v : Value} {l : Bs} (h : Sep w0 w (ybc' 1 v (l.map bv) :: R) rows) (s : ByteArray) (hl : l.length ≤ 1000000) (hs : s.size ≤ 1000000) :
  Calls Tryz.prog 122 #[v, .string s] w fun e w' => ∃ v', e = .returned v' ∧ Sep w0 w' (ybc' 1 v' ((l ++ ybl' s.data.toList).map bv) :: R) rows := by
 obtain ⟨E, hE⟩ := yf6' h
 refine (yu0' v l E s w hE hl hs).mono ?_
 rintro e w' ⟨v', D, rfl, ho, hu⟩
 exact ⟨v', rfl, (h.drop).addRow ho hu⟩
def yva' (w0 : World) (b : Nat) (l0 : Bs) (req : Array Value) (ops : List OpS) (P : List PRow) (R : List Thing) (rows : List (Value × Bs)) (k : Nat) (v3 v21 : Value) (w : World) : Prop :=
 ∃ (i : Nat), i + k = ops.length ∧ v21 = .int .i64 (i : Int) ∧ Sep w0 w (ybc' 1 v3 ((l0 ++ (ops.take i).flatMap opB).map bv) :: yac' b (.cells req 44 (0, 0)) :: yab' w0 P :: R) rows
set_option maxRecDepth 100000 in
set_option maxHeartbeats 4000000 in
theorem yhg' (h : Sep w0 w (yab' w0 P :: R) rows) (sess num : Int) (ops : List OpS) (v : Value) (hv : (5, v, ops.flatMap OpS.cells) ∈ P) (hp : ∀ o ∈ ops, o.path.size ≤ 100000) :
  Calls Tryz.prog 123 #[.agg #[.int .i64 sess, .int .i64 num, v]] w (yes' w0 (putR sess num ops) (yab' w0 P :: R) rows) := by
 obtain ⟨E, hE⟩ := h.poolGet hv
 obtain ⟨a, n, c, rfl, hl0, -, -, hne⟩ := ReadRow.some hE
 rw [yar' yai'] at hl0
 obtain rfl : ops.length = n := by omega
 have HNE := Lib.hid hne
 have HV := Lib.hid (show _ ∧ _ from ⟨hv, hp⟩)
 have HX := Lib.hid h
 obtain ⟨bs, hbs⟩ : ∃ bs, putR sess num ops = bs := ⟨_, rfl⟩
 rw [hbs]
 have HBS := Lib.hid hbs
 clear h hE hne hv hp hl0 hbs
 go_enter Tryz.func123, Tryz.ntmps123
 go_wp2_with (first | refine u0 ?_ | (refine uS ?_; clear HX; intro w HX) | (refine uA ?_; clear HX; (first | (have hq := b7; clear hq; intro w b8 HX) | (have hq := b6; clear hq; intro w b7 HX) | (have hq := b5; clear hq; intro w b6 HX) | (have hq := b4; clear hq; intro w b5 HX) | (have hq := b3; clear hq; intro w b4 HX) | (have hq := b2; clear hq; intro w b3 HX) | (have hq := b; clear hq; intro w b2 HX) | intro w b HX)))
 refine (yj5' HX.out.up1 sess num ops _ HV.out.1 HV.out.2).mono ?_
 obtain ⟨me, hme⟩ : ∃ me, mayS sess num ops = me := ⟨_, rfl⟩
 rw [hme]
 have HME := Lib.hid hme
 rintro e w ⟨rfl, hx⟩
 clear hme
 replace HX := Lib.hid hx
 clear hx
 by_cases h0 : me = 0
 case neg =>
  have q1 : (me != 0) = true := by rw [bne_iff_ne]; exact h0
  obtain rfl : bs = [] := by rw [← HBS.out]; unfold putR; rw [HME.out, if_pos h0]
  clear h0
  go_wp2_with (first | refine u0 ?_ | (refine uS ?_; clear HX; intro w HX) | (refine uA ?_; clear HX; (first | (have hq := b7; clear hq; intro w b8 HX) | (have hq := b6; clear hq; intro w b7 HX) | (have hq := b5; clear hq; intro w b6 HX) | (have hq := b4; clear hq; intro w b5 HX) | (have hq := b3; clear hq; intro w b4 HX) | (have hq := b2; clear hq; intro w b3 HX) | (have hq := b; clear hq; intro w b2 HX) | intro w b HX)))
  go_ret
  exact ⟨_, rfl, HX.out.up1.drop.nilRow 1⟩
 case pos =>
  subst h0
  have hg := yfw' HME.out
  have hn := ygl' HME.out
  have HGD := Lib.hid (show _ ∧ _ from ⟨hn.2.2.1, hg⟩)
  clear hn
  have hb0 := HBS.out
  unfold putR at hb0
  rw [HME.out, if_neg (fun hh => hh rfl)] at hb0
  have HB0 := Lib.hid hb0
  clear hb0 hg HBS
  go_wp2_with (first | refine u0 ?_ | (refine uS ?_; clear HX; intro w HX) | (refine uA ?_; clear HX; (first | (have hq := b7; clear hq; intro w b8 HX) | (have hq := b6; clear hq; intro w b7 HX) | (have hq := b5; clear hq; intro w b6 HX) | (have hq := b4; clear hq; intro w b5 HX) | (have hq := b3; clear hq; intro w b4 HX) | (have hq := b2; clear hq; intro w b3 HX) | (have hq := b; clear hq; intro w b2 HX) | intro w b HX)))
  refine rM (fun W => (∃ Ts, Sep w0 W (yac' b (.cells #[.int .i64 sess, .int .i64 num, .slice a ops.length c] 44 (0, 0)) :: Ts) rows)) 10 ?_
  intro KEEPX
  replace HX := Lib.hid HX.out.drew
  have hl : ∀ V, (∃ Ts, Sep w0 V (yac' b (.cells #[.int .i64 sess, .int .i64 num, .slice a ops.length c] 44 (0, 0)) :: Ts) rows) → (Instr.loadAt 2 (.pointer (some ⟨b, 0, none⟩))).run Tryz.prog V = .ok (.int .i64 sess) V := by
   rintro V ⟨Ts, hV⟩
   exact yag' (by kernel_rfl) (yaa' hV.blk 0 rfl)
  have hl2 : ∀ V, (∃ Ts, Sep w0 V (yac' b (.cells #[.int .i64 sess, .int .i64 num, .slice a ops.length c] 44 (0, 0)) :: Ts) rows) → (Instr.loadAt 2 (.pointer (some ⟨b, 1, none⟩))).run Tryz.prog V = .ok (.int .i64 num) V := by
   rintro V ⟨Ts, hV⟩
   exact yag' (by kernel_rfl) (yaa' hV.blk 1 rfl)
  have hl3 : ∀ V, (∃ Ts, Sep w0 V (yac' b (.cells #[.int .i64 sess, .int .i64 num, .slice a ops.length c] 44 (0, 0)) :: Ts) rows) → (Instr.loadAt 30 (.pointer (some ⟨b, 2, none⟩))).run Tryz.prog V = .ok (.slice a ops.length c) V := by
   rintro V ⟨Ts, hV⟩
   exact yag' (by kernel_rfl) (yaa' hV.blk 2 rfl)
  refine rT [(0, false), (1, true), (3, false), (4, true), (6, false), (7, true), (8, false)] 4 ?_
  apply Exists.intro; refine ⟨?_, ⟨_, HX.out.up1⟩, ?_⟩
  ·iterate 7 (refine xE ?_)
   exact rfl
  clear hl hl2 hl3
  refine r1 3 2 fun K hK => ?_
  go_wp2_with fail
  refine (i64D (l := []) (HX.out.nilRow 1) sess (by simp)).mono ?_
  rintro e w ⟨v4, rfl, hx⟩
  replace HX := Lib.hid hx
  clear hx
  go_wp2_with fail
  refine hK _ _ ⟨_, HX.out.up2⟩ ?_
  clear hK
  refine r1 2 5 fun K hK => ?_
  go_wp2_with fail
  refine (i64D HX.out num (by simp [yaf'])).mono ?_
  rintro e w ⟨v5, rfl, hx⟩
  replace HX := Lib.hid hx
  clear hx
  go_wp2_with fail
  refine hK _ _ ⟨_, HX.out.up2⟩ ?_
  clear hK
  refine r1 1 9 fun K hK => ?_
  go_wp2_with fail
  refine (i64D HX.out (ops.length : Int) (by simp [yaf'])).mono ?_
  rintro e w ⟨v3, rfl, hx⟩
  replace HX := Lib.hid hx
  clear hx
  go_wp2_with fail
  refine hK _ _ ⟨_, HX.out.up2⟩ ?_
  clear hK
  have e3 : ((([] ++ yad' sess) ++ yad' num) ++ yad' (ops.length : Int)) = yad' sess ++ (yad' num ++ yad' (ops.length : Int)) := by simp
  obtain ⟨l0, hl0⟩ : ∃ l0, ((([] ++ yad' sess) ++ yad' num) ++ yad' (ops.length : Int)) = l0 := ⟨_, rfl⟩
  rw [hl0] at HX e3
  have HL0 := Lib.hid e3
  have HN0 := Lib.hid (show l0.length = 24 by rw [← hl0]; simp [yaf'])
  clear hl0 e3
  refine rL [10] 0 ?_
  simp only [List.filterMap_cons, List.filterMap_nil, k_i, k_j, k_k]
  go_wp2_with (first | refine u0 ?_ | (refine uS ?_; clear HX; intro w HX) | (refine uA ?_; clear HX; (first | (have hq := b7; clear hq; intro w b8 HX) | (have hq := b6; clear hq; intro w b7 HX) | (have hq := b5; clear hq; intro w b6 HX) | (have hq := b4; clear hq; intro w b5 HX) | (have hq := b3; clear hq; intro w b4 HX) | (have hq := b2; clear hq; intro w b3 HX) | (have hq := b; clear hq; intro w b2 HX) | intro w b HX)))
  have HST := Lib.hid (show yva' w0 b l0 #[.int .i64 sess, .int .i64 num, .slice a ops.length c] ops P R rows ops.length v3 (.int .i64 (0 : Int)) w from ⟨0, by simp, rfl, by rw [k_g, List.flatMap_nil, List.append_nil]; exact HX.out.pm 3 [0, 2, 1] rfl rfl⟩)
  clear HX
  go_loopg [3, 4, 5] ops.length (fun k v3 v4 _ wr => yva' w0 b l0 #[.int .i64 sess, .int .i64 num, .slice a ops.length c] ops P R rows k v3 v4 wr)
  case atStart => exact HST.out
  case round =>
   rename World => w
   obtain ⟨i, hik, rfl, hS⟩ := hrel
   clear HST
   have HX := Lib.hid hS
   clear hS
   by_cases hlt : i < ops.length
   case neg =>
    obtain rfl : i = ops.length := by omega
    rw [List.take_length] at HX
    clear hlt hik
    go_wp2_with (first | refine u0 ?_ | (refine uS ?_; clear HX; intro w HX) | (refine uA ?_; clear HX; (first | (have hq := b7; clear hq; intro w b8 HX) | (have hq := b6; clear hq; intro w b7 HX) | (have hq := b5; clear hq; intro w b6 HX) | (have hq := b4; clear hq; intro w b5 HX) | (have hq := b3; clear hq; intro w b4 HX) | (have hq := b2; clear hq; intro w b3 HX) | (have hq := b; clear hq; intro w b2 HX) | intro w b HX)))
    go_ret
    refine ⟨_, rfl, ?_⟩
    rw [← HB0.out]
    have e : yad' sess ++ (yad' num ++ (yad' (ops.length : Int) ++ ops.flatMap opB)) = l0 ++ ops.flatMap opB := by rw [HL0.out]; simp [List.append_assoc]
    rw [e]
    exact HX.out.up1.drop
   case pos =>
    obtain ⟨g, off, rfl⟩ := HNE.out (by intro e; have := congrArg List.length e; rw [yar' yai'] at this; simp at this; omega)
    obtain ⟨E, hE⟩ := HX.out.up2.poolGet HV.out.1
    have hl := yc2' (P := Tryz.prog) (f := OpS.cells) (i := i) hE yai' sn_op hlt
    have hgd := HGD.out.2 ops[i] (List.getElem_mem hlt)
    have hbl : (l0 ++ (ops.take i).flatMap opB).length ≤ 20000 := by
     have h1 := yhe' (ops.take i) (fun o ho => HGD.out.2 o (List.mem_of_mem_take ho))
     have h2 := HN0.out
     have h3 := HGD.out.1
     rw [List.length_append]
     rw [List.length_take] at h1
     omega
    have hnx : l0 ++ (ops.take (i + 1)).flatMap opB = (l0 ++ (ops.take i).flatMap opB) ++ opB ops[i] := by
     rw [List.take_succ_eq_append_getElem hlt, List.flatMap_append, List.append_assoc]
     simp
    obtain ⟨bs, hbs⟩ : ∃ bs, l0 ++ (ops.take i).flatMap opB = bs := ⟨_, rfl⟩
    rw [hbs] at HX hbl hnx
    obtain ⟨o, ho⟩ : ∃ o, ops[i] = o := ⟨_, rfl⟩
    rw [ho] at hl hgd hnx
    obtain ⟨hg1, hg2, -, -⟩ := yce' hgd
    have hg3 := yb3' (yb2' hg1).2.2.1
    have q0 : decide (i < ops.length) = true := decide_eq_true hlt
    have q9 : i ≤ 16 := by have := HGD.out.1; omega
    obtain ⟨kind, path, data, ver, flags⟩ := o
    dsimp only [OpS.p] at hg2 hg3
    have hps : path.size ≤ 200 := by rw [show path.size = path.data.toList.length from (Array.length_toList).symm]; exact hg3
    have HNX := Lib.hid hnx
    have HSZ := Lib.hid (show _ ∧ _ ∧ _ ∧ _ from ⟨hbl, hps, hg2, hg3⟩)
    simp only [OpS.cells] at hl
    clear hE ho hbs hgd hg1 hg2 hg3 hnx hbl hps
    go_wp2_with (first | refine u0 ?_ | (refine uS ?_; clear HX; intro w HX) | (refine uA ?_; clear HX; (first | (have hq := b7; clear hq; intro w b8 HX) | (have hq := b6; clear hq; intro w b7 HX) | (have hq := b5; clear hq; intro w b6 HX) | (have hq := b4; clear hq; intro w b5 HX) | (have hq := b3; clear hq; intro w b4 HX) | (have hq := b2; clear hq; intro w b3 HX) | (have hq := b; clear hq; intro w b2 HX) | intro w b HX)) | ((with_reducible apply yau' hl); (· rfl); (· rfl); simp only [Act.put, k_a, k_b, k_c]))
    clear hl
    refine rM (fun W => (∃ Ts, Sep w0 W (yac' b2 (.cells #[.int .i64 kind, .string path, .string data, .int .i64 ver, .int .i64 flags] 89 (0, 0)) :: Ts) rows)) 10 ?_
    intro KEEPX
    replace HX := Lib.hid HX.out.drew
    have hl : ∀ V, (∃ Ts, Sep w0 V (yac' b2 (.cells #[.int .i64 kind, .string path, .string data, .int .i64 ver, .int .i64 flags] 89 (0, 0)) :: Ts) rows) → (Instr.loadAt 3 (.pointer (some ⟨b2, 0, none⟩))).run Tryz.prog V = .ok (.int .i64 kind) V := by
     rintro V ⟨Ts, hV⟩
     exact yag' (by kernel_rfl) (yaa' hV.blk 0 rfl)
    have hl2 : ∀ V, (∃ Ts, Sep w0 V (yac' b2 (.cells #[.int .i64 kind, .string path, .string data, .int .i64 ver, .int .i64 flags] 89 (0, 0)) :: Ts) rows) → (Instr.loadAt 9 (.pointer (some ⟨b2, 1, none⟩))).run Tryz.prog V = .ok (.string path) V := by
     rintro V ⟨Ts, hV⟩
     exact yag' (by kernel_rfl) (yaa' hV.blk 1 rfl)
    have hl3 : ∀ V, (∃ Ts, Sep w0 V (yac' b2 (.cells #[.int .i64 kind, .string path, .string data, .int .i64 ver, .int .i64 flags] 89 (0, 0)) :: Ts) rows) → (Instr.loadAt 9 (.pointer (some ⟨b2, 2, none⟩))).run Tryz.prog V = .ok (.string data) V := by
     rintro V ⟨Ts, hV⟩
     exact yag' (by kernel_rfl) (yaa' hV.blk 2 rfl)
    refine rT [(0, false), (1, false), (2, true), (4, false), (5, true), (7, false), (8, true)] 4 ?_
    apply Exists.intro; refine ⟨?_, ⟨_, HX.out⟩, ?_⟩
    ·iterate 7 (refine xE ?_)
     exact rfl
    clear hl hl2 hl3
    refine r1 3 3 fun K hK => ?_
    go_wp2_with fail
    refine (i64D HX.out.up1 kind (by have := HSZ.out.1; omega)).mono ?_
    rintro e w ⟨v5, rfl, hx⟩
    replace HX := Lib.hid hx
    clear hx
    go_wp2_with fail
    refine hK _ _ ⟨_, HX.out.up1⟩ ?_
    clear hK
    refine r1 2 6 fun K hK => ?_
    go_wp2_with fail
    refine (txtD HX.out path (by have := HSZ.out.1; rw [List.length_append, yaf']; omega) (by have := HSZ.out.2.1; omega)).mono ?_
    rintro e w ⟨v6, rfl, hx⟩
    replace HX := Lib.hid hx
    clear hx
    go_wp2_with fail
    refine hK _ _ ⟨_, HX.out.up1⟩ ?_
    clear hK
    refine r1 1 9 fun K hK => ?_
    go_wp2_with fail
    refine (txtD HX.out data (by have := HSZ.out.1; have := HSZ.out.2.2.2; unfold ybl'; simp only [List.length_append, yaf']; omega) (by have := HSZ.out.2.2.1; omega)).mono ?_
    rintro e w ⟨v7, rfl, hx⟩
    replace HX := Lib.hid hx
    clear hx
    go_wp2_with fail
    refine hK _ _ ⟨_, HX.out.up1⟩ ?_
    clear hK
    refine rL [10] 0 ?_
    simp only [List.filterMap_cons, List.filterMap_nil, k_i, k_j, k_k]
    have hs7 : (((bs ++ yad' kind) ++ ybl' path.data.toList) ++ ybl' data.data.toList).length ≤ 30000 := by
     have := HSZ.out.1
     have := HSZ.out.2.2.2
     have h3 : data.data.toList.length ≤ 1000 := HSZ.out.2.2.1
     unfold ybl'
     simp only [List.length_append, yaf']
     omega
    have e7 : bs ++ opB ⟨kind, path, data, ver, flags⟩ = (((((bs ++ yad' kind) ++ ybl' path.data.toList) ++ ybl' data.data.toList)) ++ yad' ver) ++ yad' flags := by
     unfold opB OpS.p
     simp [List.append_assoc]
    obtain ⟨b7, hb7⟩ : ∃ b7, (((bs ++ yad' kind) ++ ybl' path.data.toList) ++ ybl' data.data.toList) = b7 := ⟨_, rfl⟩
    rw [hb7] at HX hs7 e7
    have H7 := Lib.hid (show _ ∧ _ from ⟨hs7, e7⟩)
    clear hb7 hs7 e7
    go_wp2_with (first | refine u0 ?_ | (refine uS ?_; clear HX; intro w HX) | (refine uA ?_; clear HX; (first | (have hq := b7; clear hq; intro w b8 HX) | (have hq := b6; clear hq; intro w b7 HX) | (have hq := b5; clear hq; intro w b6 HX) | (have hq := b4; clear hq; intro w b5 HX) | (have hq := b3; clear hq; intro w b4 HX) | (have hq := b2; clear hq; intro w b3 HX) | (have hq := b; clear hq; intro w b2 HX) | intro w b HX)))
    refine rM (fun W => (∃ Ts, Sep w0 W (yac' b2 (.cells #[.int .i64 kind, .string path, .string data, .int .i64 ver, .int .i64 flags] 89 (0, 0)) :: Ts) rows)) 7 ?_
    intro KEEPX
    replace HX := Lib.hid HX.out.drew
    have hl : ∀ V, (∃ Ts, Sep w0 V (yac' b2 (.cells #[.int .i64 kind, .string path, .string data, .int .i64 ver, .int .i64 flags] 89 (0, 0)) :: Ts) rows) → (Instr.loadAt 3 (.pointer (some ⟨b2, 3, none⟩))).run Tryz.prog V = .ok (.int .i64 ver) V := by
     rintro V ⟨Ts, hV⟩
     exact yag' (by kernel_rfl) (yaa' hV.blk 3 rfl)
    have hl2 : ∀ V, (∃ Ts, Sep w0 V (yac' b2 (.cells #[.int .i64 kind, .string path, .string data, .int .i64 ver, .int .i64 flags] 89 (0, 0)) :: Ts) rows) → (Instr.loadAt 3 (.pointer (some ⟨b2, 4, none⟩))).run Tryz.prog V = .ok (.int .i64 flags) V := by
     rintro V ⟨Ts, hV⟩
     exact yag' (by kernel_rfl) (yaa' hV.blk 4 rfl)
    refine rT [(0, false), (1, false), (2, true), (4, false), (5, true)] 3 ?_
    apply Exists.intro; refine ⟨?_, ⟨_, HX.out.up1⟩, ?_⟩
    ·iterate 5 (refine xE ?_)
     exact rfl
    clear hl hl2
    refine r1 2 3 fun K hK => ?_
    go_wp2_with fail
    refine (i64D HX.out ver (by have := H7.out.1; omega)).mono ?_
    rintro e w ⟨v8, rfl, hx⟩
    replace HX := Lib.hid hx
    clear hx
    go_wp2_with fail
    refine hK _ _ ⟨_, HX.out.up1⟩ ?_
    clear hK
    refine r1 1 6 fun K hK => ?_
    go_wp2_with fail
    refine (i64D HX.out flags (by have := H7.out.1; rw [List.length_append, yaf']; omega)).mono ?_
    rintro e w ⟨v9, rfl, hx⟩
    replace HX := Lib.hid hx
    clear hx
    go_wp2_with fail
    refine hK _ _ ⟨_, HX.out.up1⟩ ?_
    clear hK
    rw [← H7.out.2, ← HNX.out] at HX
    refine rL [7] 0 ?_
    simp only [List.filterMap_cons, List.filterMap_nil, k_i, k_j, k_k]
    go_wp2_with (first | refine u0 ?_ | (refine uS ?_; clear HX; intro w HX) | (refine uA ?_; clear HX; (first | (have hq := b7; clear hq; intro w b8 HX) | (have hq := b6; clear hq; intro w b7 HX) | (have hq := b5; clear hq; intro w b6 HX) | (have hq := b4; clear hq; intro w b5 HX) | (have hq := b3; clear hq; intro w b4 HX) | (have hq := b2; clear hq; intro w b3 HX) | (have hq := b; clear hq; intro w b2 HX) | intro w b HX)))
    go_roundg (ops.length - (i + 1))
    case rel => exact ⟨i + 1, by omega, by go_num, HX.out.pm 4 [0, 2, 3] rfl rfl⟩
    case measure => omega
end
end Go.Proofs.YtcnkifbjlihaoaaGreatDoor

namespace Go.Proofs.YtcnkifbjlihaoaaGreatDoor
open Go.RowKit Go.Av
theorem yyu' (b0 b1 b2 b3 b4 b5 b6 b7 : UInt8) : ycd' [b0, b1, b2, b3, b4, b5, b6, b7] = b0.toNat * 72057594037927936 + b1.toNat * 281474976710656 + b2.toNat * 1099511627776 + b3.toNat * 4294967296 + b4.toNat * 16777216 + b5.toNat * 65536 + b6.toNat * 256 + b7.toNat := by
 have h0 := b0.toNat_lt
 have h1 := b1.toNat_lt
 have h2 := b2.toNat_lt
 have h3 := b3.toNat_lt
 have h4 := b4.toNat_lt
 have h5 := b5.toNat_lt
 have h6 := b6.toNat_lt
 have h7 := b7.toNat_lt
 simp only [ycd', List.foldl_cons, List.foldl_nil, yf5']
 omega
theorem yc4' {n : Nat} {b : UInt8} (h : n % 256 = b.toNat) : UInt8.ofNat n = b := by
 apply UInt8.toNat_inj.1
 rw [UInt8.toNat_ofNat']
 exact h
theorem ylt' (b0 b1 b2 b3 b4 b5 b6 b7 : UInt8) : be8 (ycd' [b0, b1, b2, b3, b4, b5, b6, b7]) = [b0, b1, b2, b3, b4, b5, b6, b7] := by
 rw [yyu']
 have h0 := b0.toNat_lt
 have h1 := b1.toNat_lt
 have h2 := b2.toNat_lt
 have h3 := b3.toNat_lt
 have h4 := b4.toNat_lt
 have h5 := b5.toNat_lt
 have h6 := b6.toNat_lt
 have h7 := b7.toNat_lt
 unfold be8
 congr 1
 ·exact yc4' (by omega)
 congr 1
 ·exact yc4' (by omega)
 congr 1
 ·exact yc4' (by omega)
 congr 1
 ·exact yc4' (by omega)
 congr 1
 ·exact yc4' (by omega)
 congr 1
 ·exact yc4' (by omega)
 congr 1
 ·exact yc4' (by omega)
 congr 1
 exact yc4' (by omega)
theorem yrl' {l : Bs} (h : 8 ≤ l.length) : l = yad' (rdI l) ++ l.drop 8 := by
 match l, h with
 | b0 :: b1 :: b2 :: b3 :: b4 :: b5 :: b6 :: b7 :: r, _ =>
  have e : yad' (rdI (b0 :: b1 :: b2 :: b3 :: b4 :: b5 :: b6 :: b7 :: r)) = [b0, b1, b2, b3, b4, b5, b6, b7] := by
   unfold rdI yad'
   rw [show (b0 :: b1 :: b2 :: b3 :: b4 :: b5 :: b6 :: b7 :: r).take 8 = [b0, b1, b2, b3, b4, b5, b6, b7] from rfl, ← ylt']
   congr 1
   have hf : ycd' [b0, b1, b2, b3, b4, b5, b6, b7] < 18446744073709551616 := by
    rw [show ([b0, b1, b2, b3, b4, b5, b6, b7] : Bs) = [b0, b1, b2, b3, b4, b5, b6] ++ [b7] from rfl]
    unfold ycd'
    rw [List.foldl_append]
    exact yrm' b7
   rw [ylt']
   generalize ycd' [b0, b1, b2, b3, b4, b5, b6, b7] = n at hf ⊢
   rw [IntKind.wrap_i64]
   omega
  rw [e]
  rfl
theorem ycw' {d : Rd} (h : (i64R d).2.2 = false) : d.2 = false ∧ d.1 = yad' (i64R d).1 ++ (i64R d).2.1 := by
 unfold i64R at h ⊢
 split at h
 ·cases h
 ·rename_i h8
  rw [if_neg h8]
  exact ⟨h, yrl' (by omega)⟩
theorem ycu' {m : Int} {d : Rd} (h : (cntR m d).2.2 = false) : d.2 = false ∧ d.1 = yad' (cntR m d).1 ++ (cntR m d).2.1 := by
 unfold cntR cntS at h ⊢
 by_cases h8 : d.1.length < 8
 ·rw [if_pos h8] at h; cases h
 ·rw [if_neg h8] at h ⊢
  split at h
  ·cases h
  ·rename_i hb
   rw [if_neg hb]
   exact ⟨h, yrl' (by omega)⟩
theorem yej' (d : Rd) : -9223372036854775808 ≤ (i64R d).1 ∧ (i64R d).1 ≤ 9223372036854775807 := by
 unfold i64R
 split
 ·exact ⟨by decide, by decide⟩
 ·unfold rdI
  rw [IntKind.wrap_i64]
  dsimp only
  omega
theorem yeq' {m : Int} (hm : 0 ≤ m) {d : Rd} (h : (yaj' m d).2.2 = false) : d.2 = false ∧ d.1 = ybl' (yaj' m d).1 ++ (yaj' m d).2.1 := by
 have hb := yct' hm d
 unfold yaj' at h ⊢
 split at h
 ·cases h
 ·rename_i hl
  rw [if_neg hl]
  obtain ⟨h1, h2⟩ := ycu' (m := m) (d := d) h
  refine ⟨h1, ?_⟩
  dsimp only
  unfold ybl'
  have hlen : ((cntR m d).2.1.take (cntR m d).1.toNat).length = (cntR m d).1.toNat := by rw [List.length_take]; omega
  rw [hlen, Int.toNat_of_nonneg hb.1, List.append_assoc, List.take_append_drop]
  exact h2
def opM (m1 m2 : Int) (d : Rd) : OpS × Rd := match i64R d with
 | (k, d1) => match yaj' m1 d1 with
  | (p, d2) => match yaj' m2 d2 with
   | (t, d3) => match i64R d3 with
    | (v, d4) => match i64R d4 with
     | (f, d5) => (⟨k, ⟨p.toArray⟩, ⟨t.toArray⟩, v, f⟩, d5)
theorem yvk' (d : Rd) : opR d = opM 20000 20000 d := by
 unfold opR opM
 rfl
theorem yw7' (m1 m2 : Int) (d : Rd) : opM m1 m2 d = (⟨(i64R d).1, ⟨(yaj' m1 (i64R d).2).1.toArray⟩, ⟨(yaj' m2 (yaj' m1 (i64R d).2).2).1.toArray⟩, (i64R (yaj' m2 (yaj' m1 (i64R d).2).2).2).1, (i64R (i64R (yaj' m2 (yaj' m1 (i64R d).2).2).2).2).1⟩, (i64R (i64R (yaj' m2 (yaj' m1 (i64R d).2).2).2).2).2) := by
 unfold opM
 generalize i64R d = a
 obtain ⟨k, d1⟩ := a
 dsimp only
theorem yq6' {m1 m2 : Int} (h1 : 0 ≤ m1) (h2 : 0 ≤ m2) {d : Rd} (h : (opM m1 m2 d).2.2 = false) : d.2 = false ∧ d.1 = opB (opM m1 m2 d).1 ++ (opM m1 m2 d).2.1 ∧ FitO (opM m1 m2 d).1 := by
 have f := yej' (yaj' m2 (yaj' m1 (i64R d).2).2).2
 rw [yw7'] at h ⊢
 have a5 : (i64R (i64R (yaj' m2 (yaj' m1 (i64R d).2).2).2).2).2.2 = false := h
 clear h
 obtain ⟨a4, e5⟩ := ycw' a5
 obtain ⟨a3, e4⟩ := ycw' a4
 obtain ⟨a2, e3⟩ := yeq' h2 a3
 obtain ⟨a1, e2⟩ := yeq' h1 a2
 obtain ⟨a0, e1⟩ := ycw' a1
 refine ⟨a0, ?_, f⟩
 unfold opB OpS.p
 dsimp only
 show d.1 = (yad' (i64R d).1 ++ (ybl' (yaj' m1 (i64R d).2).1 ++ (ybl' (yaj' m2 (yaj' m1 (i64R d).2).2).1 ++ (yad' (i64R (yaj' m2 (yaj' m1 (i64R d).2).2).2).1 ++ yad' (i64R (i64R (yaj' m2 (yaj' m1 (i64R d).2).2).2).2).1)))) ++ (i64R (i64R (yaj' m2 (yaj' m1 (i64R d).2).2).2).2).2.1
 simp only [List.append_assoc]
 rw [← e5, ← e4, ← e3, ← e2]
 exact e1
theorem yw8' (m1 m2 : Int) (hm1 : 200 ≤ m1 ∧ m1 ≤ 100000) (hm2 : 1000 ≤ m2 ∧ m2 ≤ 100000) {o : OpS} (hg : ybk' o = 0) (hf : FitO o) (x : Bs) (bad : Bool) : opM m1 m2 (opB o ++ x, bad) = (o, x, bad) := by
 obtain ⟨h1, h2, -, -⟩ := yce' hg
 obtain ⟨f1, f2, f3, f4, f5, f6⟩ := yb2' h1
 have hp := yb3' f3
 have hps : o.path.size = o.p.length := by unfold OpS.p; exact (Array.length_toList).symm
 have hds : o.data.size = o.data.data.toList.length := (Array.length_toList).symm
 obtain ⟨kind, path, data, ver, flags⟩ := o
 have e1 : i64R (opB ⟨kind, path, data, ver, flags⟩ ++ x, bad) = (kind, ybl' path.data.toList ++ (ybl' data.data.toList ++ (yad' ver ++ (yad' flags ++ x))), bad) := by
  have : opB ⟨kind, path, data, ver, flags⟩ ++ x = yad' kind ++ (ybl' path.data.toList ++ (ybl' data.data.toList ++ (yad' ver ++ (yad' flags ++ x)))) := by
   unfold opB OpS.p
   simp only [List.append_assoc]
  rw [this]
  exact yby' kind _ bad (by dsimp only at f1; omega) (by dsimp only at f2; omega)
 have e2 := ycz' m1 path.data.toList (ybl' data.data.toList ++ (yad' ver ++ (yad' flags ++ x))) bad (by dsimp only [OpS.p] at hp; omega) (by omega)
 have e3 := ycz' m2 data.data.toList (yad' ver ++ (yad' flags ++ x)) bad (by dsimp only at hds h2; omega) (by omega)
 have e4 := yby' ver (yad' flags ++ x) bad hf.1 hf.2
 have e5 := yby' flags x bad (by dsimp only at f5; omega) (by dsimp only at f6; omega)
 unfold opM
 rw [e1]
 dsimp only
 rw [e2]
 dsimp only
 rw [e3]
 dsimp only
 rw [e4]
 dsimp only
 rw [e5]
def ops5 : Nat → Rd → List OpS × Rd
 | 0, d => ([], d)
 | n + 1, d => if d.2 then ([], d) else ((opM 200 1000 d).1 :: (ops5 n (opM 200 1000 d).2).1, (ops5 n (opM 200 1000 d).2).2)
theorem yn4' : ∀ {n : Nat} {d : Rd}, (opsR n d).2.2 = false → d.2 = false ∧ d.1 = (opsR n d).1.flatMap opB ++ (opsR n d).2.1 ∧ ∀ o ∈ (opsR n d).1, FitO o
 | 0, d, h => ⟨h, by simp [opsR], by simp [opsR]⟩
 | n + 1, d, h => by
  rw [ydn'] at h ⊢
  dsimp only at h ⊢
  obtain ⟨h1, h2, h3⟩ := yn4' (n := n) (d := (opR d).2) h
  rw [yvk' d] at h1
  obtain ⟨h4, h5, h6⟩ := yq6' (m1 := 20000) (m2 := 20000) (by decide) (by decide) (d := d) h1
  rw [← yvk' d] at h5 h6
  refine ⟨h4, ?_, ?_⟩
  ·rw [List.flatMap_cons, List.append_assoc, ← h2]
   exact h5
  ·intro o ho
   rcases List.mem_cons.1 ho with rfl | ho
   ·exact h6
   ·exact h3 o ho
theorem yn2' : ∀ {n : Nat} {d : Rd}, (ops5 n d).2.2 = false → d.2 = false ∧ ∀ o ∈ (ops5 n d).1, FitO o
 | 0, d, h => ⟨h, by simp [ops5]⟩
 | n + 1, d, h => by
  unfold ops5 at h ⊢
  cases hd : d.2 with
  | true =>
   rw [if_pos hd] at h
   have h : d.2 = false := h
   rw [hd] at h
   cases h
  | false =>
   rw [if_neg (by simp [hd])] at h ⊢
   dsimp only at h ⊢
   obtain ⟨h1, h2⟩ := yn2' (n := n) h
   obtain ⟨h4, h5, h6⟩ := yq6' (m1 := 200) (m2 := 1000) (by decide) (by decide) (d := d) h1
   refine ⟨rfl, fun o ho => ?_⟩
   rcases List.mem_cons.1 ho with rfl | ho
   ·exact h6
   ·exact h2 o ho
theorem yn3' : ∀ (l : List OpS) (x : Bs), (∀ o ∈ l, ybk' o = 0 ∧ FitO o) → ops5 l.length (l.flatMap opB ++ x, false) = (l, x, false)
 | [], x, _ => rfl
 | o :: l, x, h => by
  have h1 := h o k_s
  rw [List.length_cons, ops5, if_neg (by simp), List.flatMap_cons, List.append_assoc, yw8' 200 1000 (by omega) (by omega) h1.1 h1.2]
  dsimp only
  rw [yn3' l x (fun q hq => h q (k_n _ hq))]
def raw5 (b : Bs) : (Int × Int × List OpS) × Rd :=
 (((i64R (b, false)).1, (i64R (i64R (b, false)).2).1, (ops5 (cntR 16 (i64R (i64R (b, false)).2).2).1.toNat (cntR 16 (i64R (i64R (b, false)).2).2).2).1), (ops5 (cntR 16 (i64R (i64R (b, false)).2).2).1.toNat (cntR 16 (i64R (i64R (b, false)).2).2).2).2)
def get5 (b : Bs) : Option (Int × Int × List OpS) := if endR (raw5 b).2 = true ∧ putR (raw5 b).1.1 (raw5 b).1.2.1 (raw5 b).1.2.2 = b ∧ mayS (raw5 b).1.1 (raw5 b).1.2.1 (raw5 b).1.2.2 = 0 then some (raw5 b).1 else none
theorem yuc' {sess num : Int} {l : List OpS} (h : mayS sess num l = 0) (hs : sess ≤ 9223372036854775807) (hn : num ≤ 9223372036854775807) (hf : ∀ o ∈ l, FitO o) : raw5 (putR sess num l) = ((sess, num, l), [], false) := by
 obtain ⟨h1, h2, h3, -⟩ := ygl' h
 have hg := yfw' h
 unfold putR raw5
 rw [if_neg (fun hh => hh h)]
 have e1 := yby' sess (yad' num ++ (yad' l.length ++ l.flatMap opB)) false (by omega) hs
 have e2 := yby' num (yad' l.length ++ l.flatMap opB) false (by omega) hn
 have e3 := yhm' 16 l.length (l.flatMap opB) false (by omega) (by omega) (by omega)
 have e4 := yn3' l [] (fun o ho => ⟨hg o ho, hf o ho⟩)
 rw [List.append_nil] at e4
 rw [e1]
 dsimp only
 rw [e2]
 dsimp only
 rw [e3]
 dsimp only
 rw [Int.toNat_natCast, e4]
theorem yjz' {b : Bs} {sess num : Int} {l : List OpS} (h : getR b = some (sess, num, l)) : b = putR sess num l ∧ mayS sess num l = 0 ∧ sess ≤ 9223372036854775807 ∧ num ≤ 9223372036854775807 ∧ ∀ o ∈ l, FitO o := by
 unfold getR at h
 split at h
 ·rename_i hc
  obtain ⟨he, hm⟩ := hc
  have h := Option.some.inj h
  unfold endR at he
  rw [Bool.and_eq_true, Bool.not_eq_true'] at he
  obtain ⟨a1, a2, a3⟩ := yn4' (n := (cntR 16 (i64R (i64R (b, false)).2).2).1.toNat) (d := (cntR 16 (i64R (i64R (b, false)).2).2).2) he.1
  obtain ⟨b1, b2⟩ := ycu' a1
  obtain ⟨c1, c2⟩ := ycw' b1
  obtain ⟨d1, d2⟩ := ycw' c1
  have hbd := yct' (most := 16) (by decide) (i64R (i64R (b, false)).2).2
  have hln := yj9' (cntR 16 (i64R (i64R (b, false)).2).2).1.toNat (cntR 16 (i64R (i64R (b, false)).2).2).2
  have f1 := (yej' (b, false)).2
  have f2 := (yej' (i64R (b, false)).2).2
  have hnil : (rawR b).2.1 = [] := List.isEmpty_iff.1 he.2
  unfold rawR at h hm hnil
  dsimp only at hnil
  rw [h] at hm
  simp only [Prod.mk.injEq] at h
  obtain ⟨rfl, rfl, rfl⟩ := h
  refine ⟨?_, hm, f1, f2, a3⟩
  unfold putR
  rw [if_neg (fun hh => hh hm)]
  have e : ((opsR (cntR 16 (i64R (i64R (b, false)).2).2).1.toNat (cntR 16 (i64R (i64R (b, false)).2).2).2).1.length : Int) = (cntR 16 (i64R (i64R (b, false)).2).2).1 := by rw [hln]; omega
  rw [e]
  rw [hnil, List.append_nil] at a2
  rw [← a2, ← b2, ← c2]
  exact d2
 ·cases h
theorem yqd' (b : Bs) : get5 b = getR b := by
 cases hg : getR b with
 | some q =>
  obtain ⟨sess, num, l⟩ := q
  obtain ⟨rfl, h1, h2, h3, h4⟩ := yjz' hg
  unfold get5
  rw [yuc' h1 h2 h3 h4, if_pos ⟨rfl, rfl, h1⟩]
 | none =>
  unfold get5
  rw [if_neg]
  rintro ⟨he, hb, hm⟩
  unfold endR at he
  rw [Bool.and_eq_true, Bool.not_eq_true'] at he
  have hf := (yn2' (n := (cntR 16 (i64R (i64R (b, false)).2).2).1.toNat) (d := (cntR 16 (i64R (i64R (b, false)).2).2).2) he.1).2
  have := yha' hm (yej' (b, false)).2 (yej' (i64R (b, false)).2).2 hf
  rw [hb, hg] at this
  cases this
end Go.Proofs.YtcnkifbjlihaoaaGreatDoor

namespace Go.Proofs.YtcnkifbjlihaoaaGreatDoor
open Go.RowKit Go.Av
section
variable {w0 w : World} {P P' : List PRow} {R : List Thing} {rows : List (Value × Bs)}
theorem ylz' (h : Sep w0 w (yab' w0 P :: R) rows) (v : Value) (l : Bs) (hv : (1, v, l.map bv) ∈ P) (hl : l.length ≤ 1000000) :
  Calls Tryz.prog 101 #[v] w fun e w' => ∃ r, e = .returned (.pointer (some ⟨r, 0, none⟩)) ∧ Sep w0 w' (yds' r (l, false) :: yab' w0 P :: R) rows := by
 obtain ⟨E, hE⟩ := h.poolGet hv
 refine (yxg' v l E w hE (by omega)).mono ?_
 rintro e w' ⟨r, D, rfl, hr, hu⟩
 exact ⟨r, rfl, h.add hu hr⟩
def ys1' (w0 : World) (o : Option (Int × Int × List OpS)) (P : List PRow) (R : List Thing) (rows : List (Value × Bs)) (e : Ending) (w' : World) : Prop :=
 ∃ vs P', e = .returned (.tuple #[.agg #[.int .i64 (o.getD (0, 0, [])).1, .int .i64 (o.getD (0, 0, [])).2.1, vs], .int .i64 (if o.isSome = true then 0 else 3)]) ∧ (∀ q ∈ P, q ∈ P') ∧ (5, vs, (o.getD (0, 0, [])).2.2.flatMap OpS.cells) ∈ P' ∧ Sep w0 w' (yab' w0 P' :: R) rows
def yu7' (w0 : World) (r b b2 : Nat) (s n : Int) (K : Nat) (d : Rd) (P : List PRow) (R : List Thing) (rows : List (Value × Bs)) (k : Nat) (v17 : Value) (w : World) : Prop :=
 ∃ (i : Nat) (a : Option Addr) (n' c' : Nat), i + k = K ∧ v17 = .int .i64 (i : Int) ∧ Sep w0 w (yds' r (opsR i d).2 :: yac' b2 (.cells #[.int .i64 s, .int .i64 n, .slice a n' c'] 42 (0, 0)) :: ybc' 5 (.slice a n' c') ((opsR i d).1.flatMap OpS.cells) ::
  yac' b (.cells #[.int .i64 0, .int .i64 0, .slice none 0 0] 42 (0, 0)) :: yab' w0 P :: R) rows
theorem yez' (most : Int) (d : Rd) (hm : 0 ≤ most) : ((yaj' most d).1.length : Int) ≤ most := by
 have h := yct' hm d
 unfold yaj'
 split
 ·simpa using hm
 ·simp only [List.length_take]
  omega
theorem ygm' : ∀ (n : Nat) (d : Rd), ∀ o ∈ (opsR n d).1, o.path.size ≤ 20000
 | 0, d, o, h => by cases h
 | n + 1, d, o, h => by
  rw [ydn'] at h
  rcases List.mem_cons.1 h with rfl | h
  ·obtain ⟨⟨k1, e1⟩, g1⟩ : ∃ x, i64R d = x := ⟨_, rfl⟩
   obtain ⟨⟨t2, e2⟩, g2⟩ : ∃ x, yaj' 20000 e1 = x := ⟨_, rfl⟩
   have hl := yez' 20000 e1 (by omega)
   rw [g2] at hl
   unfold opR
   rw [g1]
   dsimp only
   rw [g2]
   dsimp only at hl ⊢
   show (⟨t2.toArray⟩ : ByteArray).size ≤ 20000
   have : (⟨t2.toArray⟩ : ByteArray).size = t2.length := by show t2.toArray.size = _; simp
   omega
  ·exact ygm' n _ o h
set_option maxRecDepth 100000 in
set_option maxHeartbeats 4000000 in
theorem yq7' (h : Sep w0 w (yab' w0 P :: R) rows) (hd : DoorN w0) (v : Value) (l : Bs) (hv : (1, v, l.map bv) ∈ P) (hl : l.length ≤ 1000000) :
  Calls Tryz.prog 167 #[v] w (ys1' w0 (getR l) P R rows) := by
 have HV := Lib.hid (show _ ∧ _ from ⟨hv, hl⟩)
 have HX := Lib.hid h
 obtain ⟨o, ho⟩ : ∃ o, getR l = o := ⟨_, rfl⟩
 rw [ho]
 have HO := Lib.hid ho
 clear h hv hl ho
 obtain ⟨⟨s, d1⟩, h1⟩ : ∃ x, i64R (l, false) = x := ⟨_, rfl⟩
 obtain ⟨⟨n, d2⟩, h2⟩ : ∃ x, i64R d1 = x := ⟨_, rfl⟩
 obtain ⟨⟨kk, d3⟩, h3⟩ : ∃ x, cntR 16 d2 = x := ⟨_, rfl⟩
 have hb3 := yct' (most := 16) (by omega) d2
 rw [h3] at hb3
 dsimp only at hb3
 obtain ⟨K, rfl⟩ : ∃ K : Nat, kk = (K : Int) := ⟨kk.toNat, by omega⟩
 have HD := Lib.hid (show rawR l = ((s, n, (opsR K d3).1), (opsR K d3).2) by unfold rawR; rw [h1]; dsimp only; rw [h2]; dsimp only; rw [h3]; dsimp only; rw [Int.toNat_natCast])
 have H1 := Lib.hid h1
 have H2 := Lib.hid h2
 have H3 := Lib.hid h3
 have HK := Lib.hid (show K ≤ 16 by omega)
 clear h1 h2 h3 hb3
 go_enter Tryz.func167, Tryz.ntmps167
 go_wp2_with (first | refine u0 ?_ | (refine uS ?_; clear HX; intro w HX) | (refine uA ?_; clear HX; (first | (have hq := b2; clear hq; intro w b3 HX) | (have hq := b; clear hq; intro w b2 HX) | intro w b HX)) | (refine uP ?_; clear HX; intro w av nv cv HX))
 refine (ylz' HX.out.up1 v l HV.out.1 HV.out.2).mono ?_
 rintro e w ⟨r, rfl, hx⟩
 replace HX := Lib.hid hx
 clear hx
 go_wp2_with (first | refine u0 ?_ | (refine uS ?_; clear HX; intro w HX) | (refine uA ?_; clear HX; (first | (have hq := b2; clear hq; intro w b3 HX) | (have hq := b; clear hq; intro w b2 HX) | intro w b HX)) | (refine uP ?_; clear HX; intro w av nv cv HX))
 refine (yb8' HX.out).mono ?_
 rw [H1.out]
 rintro e w ⟨rfl, hx⟩
 replace HX := Lib.hid hx
 clear hx
 go_wp2_with (first | refine u0 ?_ | (refine uS ?_; clear HX; intro w HX) | (refine uA ?_; clear HX; (first | (have hq := b2; clear hq; intro w b3 HX) | (have hq := b; clear hq; intro w b2 HX) | intro w b HX)) | (refine uP ?_; clear HX; intro w av nv cv HX))
 refine (yb8' HX.out.up1).mono ?_
 rw [H2.out]
 rintro e w ⟨rfl, hx⟩
 replace HX := Lib.hid hx
 clear hx
 go_wp2_with (first | refine u0 ?_ | (refine uS ?_; clear HX; intro w HX) | (refine uA ?_; clear HX; (first | (have hq := b2; clear hq; intro w b3 HX) | (have hq := b; clear hq; intro w b2 HX) | intro w b HX)) | (refine uP ?_; clear HX; intro w av nv cv HX))
 refine (ycl' HX.out 16 (by omega)).mono ?_
 rw [H3.out]
 rintro e w ⟨rfl, hx⟩
 replace HX := Lib.hid hx
 clear hx
 go_wp2_with (first | refine u0 ?_ | (refine uS ?_; clear HX; intro w HX) | (refine uA ?_; clear HX; (first | (have hq := b2; clear hq; intro w b3 HX) | (have hq := b; clear hq; intro w b2 HX) | intro w b HX)) | (refine uP ?_; clear HX; intro w av nv cv HX))
 have HST := Lib.hid (show yu7' w0 r b b2 s n K d3 P R rows K (.int .i64 (0 : Int)) w from ⟨0, none, 0, 0, by omega, rfl, (HX.out.nilRow 5).pm 5 [1, 2, 0, 4, 3] rfl rfl⟩)
 clear HX
 go_loopg [6, 17] K (fun k _ v17 wr => yu7' w0 r b b2 s n K d3 P R rows k v17 wr)
 case atStart => exact HST.out
 case round =>
  rename World => w
  obtain ⟨i, a, n', c', hik, rfl, hS⟩ := hrel
  clear HST
  have HX := Lib.hid hS
  clear hS
  by_cases hlt : i < K
  case neg =>
   obtain rfl : i = K := by omega
   have q0 : decide ((i : Int) < (i : Int)) = false := decide_eq_false (by omega)
   have q1 : decide (i < i) = false := decide_eq_false (by omega)
   clear hlt hik
   have HPS := Lib.hid (ygm' i d3)
   obtain ⟨⟨os, dd⟩, hod⟩ : ∃ x, opsR i d3 = x := ⟨_, rfl⟩
   rw [hod] at HX HPS HD
   have hgo : o = if endR dd = true ∧ mayS s n os = 0 then some (s, n, os) else none := by
    rw [← HO.out]
    unfold getR
    rw [HD.out]
   have HGO := Lib.hid hgo
   clear hgo hod HO
   go_wp2_with (first | refine u0 ?_ | (refine uS ?_; clear HX; intro w HX) | (refine uA ?_; clear HX; (first | (have hq := b2; clear hq; intro w b3 HX) | (have hq := b; clear hq; intro w b2 HX) | intro w b HX)) | (refine uP ?_; clear HX; intro w av nv cv HX))
   refine (yjb' HX.out).mono ?_
   obtain ⟨ze, hze⟩ : ∃ z, endR dd = z := ⟨_, rfl⟩
   have hze2 : (!dd.2 && dd.1.isEmpty) = ze := hze
   rw [hze2]
   rintro e w ⟨rfl, rfl⟩
   clear hze2
   rw [hze] at HGO
   cases ze with
   | false =>
    obtain rfl : o = none := HGO.out.trans (if_neg (by simp))
    go_wp2_with (first | refine u0 ?_ | (refine uS ?_; clear HX; intro w HX) | (refine uA ?_; clear HX; (first | (have hq := b2; clear hq; intro w b3 HX) | (have hq := b; clear hq; intro w b2 HX) | intro w b HX)) | (refine uP ?_; clear HX; intro w av nv cv HX))
    refine ybp' HX rfl rfl (by (repeat (first | (with_reducible exact k_s) | (with_reducible apply k_m)))) (by kernel_rfl) ?_
    exact ⟨.slice none 0 0, (5, .slice none 0 0, []) :: P, rfl, fun q hq => k_n _ hq, k_s, HX.out.drop.drop.drop.drop.poolNil 5⟩
   | true =>
    have hx := (HX.out.pm 5 [2, 4, 0, 1, 3] rfl rfl : Sep w0 _ (ybc' 5 (.slice a n' c') (os.flatMap OpS.cells) :: yab' w0 P :: yds' r dd :: yac' b2 (.cells #[.int .i64 s, .int .i64 n, .slice a n' c'] 42 (0, 0)) :: yac' b (.cells #[.int .i64 0, .int .i64 0, .slice none 0 0] 42 (0, 0)) :: R) rows).poolRow
    replace HX := Lib.hid hx
    clear hx
    obtain ⟨me, hme⟩ : ∃ me, mayS s n os = me := ⟨_, rfl⟩
    rw [hme] at HGO
    go_wp2_with (first | refine u0 ?_ | (refine uS ?_; clear HX; intro w HX) | (refine uA ?_; clear HX; (first | (have hq := b2; clear hq; intro w b3 HX) | (have hq := b; clear hq; intro w b2 HX) | intro w b HX)) | (refine uP ?_; clear HX; intro w av nv cv HX))
    refine (yj6' HX.out hd s n os _ k_s (fun q hq => by have := HPS.out q hq; omega)).mono ?_
    rw [hme]
    rintro e w ⟨rfl, hx⟩
    replace HX := Lib.hid hx
    clear hx
    by_cases h0 : me = 0
    case neg =>
     have q3 : (me != 0) = true := by rw [bne_iff_ne]; exact h0
     obtain rfl : o = none := HGO.out.trans (if_neg (fun hh => h0 hh.2))
     clear h0
     go_wp2_with (first | refine u0 ?_ | (refine uS ?_; clear HX; intro w HX) | (refine uA ?_; clear HX; (first | (have hq := b2; clear hq; intro w b3 HX) | (have hq := b; clear hq; intro w b2 HX) | intro w b HX)) | (refine uP ?_; clear HX; intro w av nv cv HX))
     refine ybp' HX rfl rfl (by (repeat (first | (with_reducible exact k_s) | (with_reducible apply k_m)))) (by kernel_rfl) ?_
     exact ⟨.slice none 0 0, (5, .slice none 0 0, []) :: _, rfl, fun q hq => k_n _ (k_n _ hq), k_s, (HX.out.poolNil 5) |> fun h => h.up1.drop.up1.drop.up1.drop⟩
    case pos =>
     subst h0
     obtain rfl : o = some (s, n, os) := HGO.out.trans (by simp)
     go_wp2_with (first | refine u0 ?_ | (refine uS ?_; clear HX; intro w HX) | (refine uA ?_; clear HX; (first | (have hq := b2; clear hq; intro w b3 HX) | (have hq := b; clear hq; intro w b2 HX) | intro w b HX)) | (refine uP ?_; clear HX; intro w av nv cv HX))
     refine ybp' HX rfl rfl (by (repeat (first | (with_reducible exact k_s) | (with_reducible apply k_m)))) (by kernel_rfl) ?_
     exact ⟨.slice a n' c', _, rfl, fun q hq => k_n _ hq, k_s, HX.out.up1.drop.up1.drop.up1.drop⟩
  case pos =>
   have q0 : decide (i < K) = true := decide_eq_true hlt
   have q1 : decide ((i : Int) < (K : Int)) = true := decide_eq_true (by omega)
   have q9 : i ≤ 16 := by have := HK.out; omega
   have hnx := ylr' i d3
   have hlen := yj9' i d3
   obtain ⟨⟨os, dd⟩, hod⟩ : ∃ x, opsR i d3 = x := ⟨_, rfl⟩
   rw [hod] at HX hnx hlen
   dsimp only at HX hnx hlen
   obtain ⟨⟨k1, e1⟩, g1⟩ : ∃ x, i64R dd = x := ⟨_, rfl⟩
   obtain ⟨⟨t2, e2⟩, g2⟩ : ∃ x, yaj' 20000 e1 = x := ⟨_, rfl⟩
   obtain ⟨⟨t3, e3⟩, g3⟩ : ∃ x, yaj' 20000 e2 = x := ⟨_, rfl⟩
   obtain ⟨⟨k4, e4⟩, g4⟩ : ∃ x, i64R e3 = x := ⟨_, rfl⟩
   obtain ⟨⟨k5, e5⟩, g5⟩ : ∃ x, i64R e4 = x := ⟨_, rfl⟩
   have hop : opR dd = (⟨k1, ⟨t2.toArray⟩, ⟨t3.toArray⟩, k4, k5⟩, e5) := by
    unfold opR
    rw [g1]; dsimp only
    rw [g2]; dsimp only
    rw [g3]; dsimp only
    rw [g4]; dsimp only
    rw [g5]
   rw [hop] at hnx
   have HNX := Lib.hid hnx
   have HG := Lib.hid (show _ ∧ _ ∧ _ ∧ _ ∧ _ from ⟨g1, g2, g3, g4, g5⟩)
   have HLEN := Lib.hid (show (os.flatMap OpS.cells).length = i * 5 by rw [yar' yai', hlen])
   have HBD := Lib.hid (show ∀ n, (os.flatMap OpS.cells).length = n * 5 → n + 1 ≤ 140737488355328 ∧ (n + 1) * 56 ≤ 140737488355328 from fun n hn => by have := HLEN.out; omega)
   clear hnx hop g1 g2 g3 g4 g5 hod hlen
   go_wp2_with (first | refine u0 ?_ | (refine uS ?_; clear HX; intro w HX) | (refine uA ?_; clear HX; (first | (have hq := b2; clear hq; intro w b3 HX) | (have hq := b; clear hq; intro w b2 HX) | intro w b HX)) | (refine uP ?_; clear HX; intro w av nv cv HX))
   refine (yb8' HX.out).mono ?_
   rw [HG.out.1]
   rintro e w ⟨rfl, hx⟩
   replace HX := Lib.hid hx
   clear hx
   go_wp2_with (first | refine u0 ?_ | (refine uS ?_; clear HX; intro w HX) | (refine uA ?_; clear HX; (first | (have hq := b2; clear hq; intro w b3 HX) | (have hq := b; clear hq; intro w b2 HX) | intro w b HX)) | (refine uP ?_; clear HX; intro w av nv cv HX))
   refine (yfj' HX.out.up1 20000 (by omega)).mono ?_
   rw [HG.out.2.1]
   rintro e w ⟨rfl, hx⟩
   replace HX := Lib.hid hx
   clear hx
   unfold sv
   go_wp2_with (first | refine u0 ?_ | (refine uS ?_; clear HX; intro w HX) | (refine uA ?_; clear HX; (first | (have hq := b2; clear hq; intro w b3 HX) | (have hq := b; clear hq; intro w b2 HX) | intro w b HX)) | (refine uP ?_; clear HX; intro w av nv cv HX))
   refine (yfj' HX.out 20000 (by omega)).mono ?_
   rw [HG.out.2.2.1]
   rintro e w ⟨rfl, hx⟩
   replace HX := Lib.hid hx
   clear hx
   unfold sv
   go_wp2_with (first | refine u0 ?_ | (refine uS ?_; clear HX; intro w HX) | (refine uA ?_; clear HX; (first | (have hq := b2; clear hq; intro w b3 HX) | (have hq := b; clear hq; intro w b2 HX) | intro w b HX)) | (refine uP ?_; clear HX; intro w av nv cv HX))
   refine (yb8' HX.out).mono ?_
   rw [HG.out.2.2.2.1]
   rintro e w ⟨rfl, hx⟩
   replace HX := Lib.hid hx
   clear hx
   go_wp2_with (first | refine u0 ?_ | (refine uS ?_; clear HX; intro w HX) | (refine uA ?_; clear HX; (first | (have hq := b2; clear hq; intro w b3 HX) | (have hq := b; clear hq; intro w b2 HX) | intro w b HX)) | (refine uP ?_; clear HX; intro w av nv cv HX))
   refine (yb8' HX.out).mono ?_
   rw [HG.out.2.2.2.2]
   rintro e w ⟨rfl, hx⟩
   replace HX := Lib.hid hx
   clear hx
   go_wp2_with (first | refine u0 ?_ | (refine uS ?_; clear HX; intro w HX) | (refine uA ?_; clear HX; (first | (have hq := b2; clear hq; intro w b3 HX) | (have hq := b; clear hq; intro w b2 HX) | intro w b HX)) | (refine uP ?_; clear HX; intro w av nv cv HX))
   go_roundg (K - (i + 1))
   case rel =>
    refine ⟨i + 1, av, nv, cv, by omega, by go_num, ?_⟩
    rw [HNX.out]
    dsimp only
    rw [List.flatMap_append]
    exact HX.out.pm 7 [2, 4, 0, 5, 6] rfl rfl
   case measure => omega
end
end Go.Proofs.YtcnkifbjlihaoaaGreatDoor

namespace Go.Proofs.YtcnkifbjlihaoaaGreatDoor
open Go.RowKit Go.Av
theorem sn_x4 : StructN Tryz.prog 180 2 := ⟨by kernel_rfl⟩
theorem sn_x5 : StructN Tryz.prog 70 9 := ⟨by kernel_rfl⟩
theorem z_x5 : yco' Tryz.prog 70 #[.int .i64 0, .int .i64 0, .int .i64 0, .int .i64 0, .int .i64 0, .slice none 0 0, .slice none 0 0, .int .i64 0, .bool false] := by unfold yco'; kernel_rfl
section
variable {w0 w : World} {P P' : List PRow} {R : List Thing} {rows : List (Value × Bs)}
set_option maxRecDepth 100000 in
theorem yp2' (y : Bool) (w : World) : Calls Tryz.prog 120 #[.bool y] w fun e w' => e = .returned (.int .i64 (bitI y)) ∧ w' = w := by
 cases y with
 | true =>
  go_enter Tryz.func120, Tryz.ntmps120
  go_wp2_with fail
  go_ret
  exact ⟨rfl, rfl⟩
 | false =>
  go_enter Tryz.func120, Tryz.ntmps120
  go_wp2_with fail
  go_ret
  exact ⟨rfl, rfl⟩
def yvd' (w0 : World) (l : Bs) (xs : List Int) (P : List PRow) (R : List Thing) (rows : List (Value × Bs)) (k : Nat) (v0 v13 : Value) (w : World) : Prop :=
 ∃ (i : Nat), i + k = xs.length ∧ v13 = .int .i64 (i : Int) ∧ Sep w0 w (ybc' 1 v0 ((l ++ (yad' (xs.length : Int) ++ (xs.take i).flatMap yad')).map bv) :: yab' w0 P :: R) rows
set_option maxRecDepth 100000 in
set_option maxHeartbeats 4000000 in
theorem ygo' (v : Value) (l : Bs) (h : Sep w0 w (ybc' 1 v (l.map bv) :: yab' w0 P :: R) rows) (vs : Value) (xs : List Int) (hv : (1, vs, xs.map ivn) ∈ P) (hl : l.length ≤ 100000) (hx : xs.length ≤ 1000) :
  Calls Tryz.prog 118 #[v, vs] w (yes' w0 (l ++ shB xs) (yab' w0 P :: R) rows) := by
 obtain ⟨E, hE⟩ := h.up1.poolGet hv
 obtain ⟨a, n, c, rfl, hl0, -, -, hne⟩ := ReadRow.some hE
 rw [List.length_map, Nat.mul_one] at hl0
 subst hl0
 have HNE := Lib.hid hne
 have HV := Lib.hid (show _ ∧ _ ∧ _ from ⟨hv, hl, hx⟩)
 have HX := Lib.hid h
 clear h hE hne hv hl hx
 go_enter Tryz.func118, Tryz.ntmps118
 go_wp2_with (first | refine u0 ?_ | (refine uS ?_; clear HX; intro w HX) | (refine uA ?_; clear HX; (first | (have hq := b; clear hq; intro w b2 HX) | intro w b HX)))
 refine (yhy' HX.out (xs.length : Int) (by have := HV.out.2.1; omega)).mono ?_
 rintro e w ⟨v0, rfl, hx⟩
 replace HX := Lib.hid hx
 clear hx
 go_wp2_with (first | refine u0 ?_ | (refine uS ?_; clear HX; intro w HX) | (refine uA ?_; clear HX; (first | (have hq := b; clear hq; intro w b2 HX) | intro w b HX)))
 have HST := Lib.hid (show yvd' w0 l xs P R rows xs.length v0 (.int .i64 (0 : Int)) w from ⟨0, by simp, rfl, by rw [k_g, List.flatMap_nil, List.append_nil]; exact HX.out⟩)
 clear HX
 go_loopg [0, 6, 13] xs.length (fun k v0 _ v13 wr => yvd' w0 l xs P R rows k v0 v13 wr)
 case atStart => exact HST.out
 case round =>
  rename World => w
  obtain ⟨i, hik, rfl, hS⟩ := hrel
  clear HST
  have HX := Lib.hid hS
  clear hS
  by_cases hlt : i < xs.length
  case neg =>
   obtain rfl : i = xs.length := by omega
   rw [List.take_length] at HX
   clear hlt hik
   go_wp2_with (first | refine u0 ?_ | (refine uS ?_; clear HX; intro w HX) | (refine uA ?_; clear HX; (first | (have hq := b; clear hq; intro w b2 HX) | intro w b HX)))
   go_ret
   exact ⟨_, rfl, HX.out⟩
  case pos =>
   obtain ⟨g, off, rfl⟩ := HNE.out (by intro e; rw [List.map_eq_nil_iff] at e; rw [e] at hlt; simp at hlt)
   obtain ⟨E, hE⟩ := HX.out.up1.poolGet HV.out.1
   have hl := yee' (P := Tryz.prog) (ty := 3) (i := i) (v := .int .i64 xs[i]) hE (by kernel_rfl) (by simp [hlt]; rfl)
   have hnx : l ++ (yad' (xs.length : Int) ++ (xs.take (i + 1)).flatMap yad') = (l ++ (yad' (xs.length : Int) ++ (xs.take i).flatMap yad')) ++ yad' xs[i] := by
    rw [List.take_succ_eq_append_getElem hlt, List.flatMap_append]
    simp
   have hln : (l ++ (yad' (xs.length : Int) ++ (xs.take i).flatMap yad')).length ≤ 200000 := by
    have h1 := HV.out.2.1
    have h2 := HV.out.2.2
    rw [List.length_append, List.length_append, yaf', yfu', List.length_take]
    omega
   obtain ⟨x, hxx⟩ : ∃ x, xs[i] = x := ⟨_, rfl⟩
   rw [hxx] at hl hnx
   have HNX := Lib.hid (show _ ∧ _ from ⟨hnx, hln⟩)
   have q0 : decide (i < xs.length) = true := decide_eq_true hlt
   have q9 : i ≤ 1000 := by have := HV.out.2.2; omega
   clear hE hnx hln hxx
   go_wp2_with (first | refine u0 ?_ | (refine uS ?_; clear HX; intro w HX) | (refine uA ?_; clear HX; (first | (have hq := b; clear hq; intro w b2 HX) | intro w b HX)) | ((with_reducible apply yau' hl); (· rfl); (· rfl); simp only [Act.put, k_a, k_b, k_c]))
   refine (yhy' HX.out x (by have := HNX.out.2; omega)).mono ?_
   rintro e w ⟨v4, rfl, hx⟩
   rw [← HNX.out.1] at hx
   clear hl
   replace HX := Lib.hid hx
   clear hx
   go_wp2_with (first | refine u0 ?_ | (refine uS ?_; clear HX; intro w HX) | (refine uA ?_; clear HX; (first | (have hq := b; clear hq; intro w b2 HX) | intro w b HX)))
   go_roundg (xs.length - (i + 1))
   case rel => exact ⟨i + 1, by omega, by go_num, HX.out⟩
   case measure => omega
def yv3' (w0 : World) (r q : Nat) (bad : Bool) (x : List Int × Rd) (P : List PRow) (R : List Thing) (rows : List (Value × Bs)) (e : Ending) (w' : World) : Prop :=
 ∃ v P', e = .returned v ∧ (∀ z ∈ P, z ∈ P') ∧ (1, v, x.1.map ivn) ∈ P' ∧ Sep w0 w' (yds' r x.2 :: yac' q (.cells #[.pointer (some ⟨r, 0, none⟩), .bool bad] 180 (0, 0)) :: yab' w0 P' :: R) rows
set_option maxRecDepth 100000 in
theorem ylx' {r q : Nat} {bad : Bool} {d : Rd} (h : Sep w0 w (yds' r d :: yac' q (.cells #[.pointer (some ⟨r, 0, none⟩), .bool bad] 180 (0, 0)) :: R) rows) :
  Calls Tryz.prog 105 #[.pointer (some ⟨q, 0, none⟩)] w fun e w' => e = .returned (.bool ((cntR 1 d).1 == 1)) ∧ Sep w0 w' (yds' r (cntR 1 d).2 :: yac' q (.cells #[.pointer (some ⟨r, 0, none⟩), .bool bad] 180 (0, 0)) :: R) rows := by
 have HX := Lib.hid h
 clear h
 go_enter Tryz.func105, Tryz.ntmps105
 go_wp2_with (first | refine u0 ?_ | (refine uS ?_; clear HX; intro w HX) | (refine uA ?_; clear HX; (first | (have hq := b; clear hq; intro w b2 HX) | intro w b HX)))
 refine (ycl' HX.out 1 (by omega)).mono ?_
 rintro e w ⟨rfl, hx⟩
 replace HX := Lib.hid hx
 clear hx
 go_wp2_with (first | refine u0 ?_ | (refine uS ?_; clear HX; intro w HX) | (refine uA ?_; clear HX; (first | (have hq := b; clear hq; intro w b2 HX) | intro w b HX)))
 go_ret
 exact ⟨rfl, HX.out⟩
end
end Go.Proofs.YtcnkifbjlihaoaaGreatDoor

namespace Go.Av
open Go.RowKit
section
variable {P : Program} {ops : Array Oper} {Q : Exit → Act → World → Prop} {a : Act} {w w0 : World} {rest : List Oper} {R : List Thing} {rows : List (Value × Bs)} {dst : Option Tmp} {tyy src tt e : TypeId} {pos : String} {aft : Array Edge} {g : Option (Nat × Bool)} {Pl : List PRow}
theorem Sep.conv (h : Sep w0 w (yab' w0 Pl :: R) rows) (e : TypeId) (s : ByteArray) (hs : s.size ≤ maxLen) :
  Sep w0 (Lib.bytesWorld w e s) (yab' w0 ((1, .slice (some ⟨w.heap.size, 0, none⟩) s.size (grownCap w s.size 0 e), s.data.toList.map bv) :: Pl) :: R) rows := by
 have hsz : s.data.toList.length = s.size := Array.length_toList
 refine h.poolRead (E := [w.heap.size]) ?_ (by simp) ?_
 ·refine ⟨_, _, _, rfl, by rw [List.length_map, hsz, Nat.mul_one], grownCap_ge w s.size 0 e, grownCap_le_maxLen w s.size 0 e hs, (fun h => by cases h), .inr ⟨w.heap.size, 0, rfl, rfl, by rw [Lib.bytesWorld_size]; omega, fun i v hv => ?_⟩⟩
  rw [List.getElem?_map] at hv
  obtain ⟨c, hc, rfl⟩ := Option.map_eq_some_iff.1 hv
  have hi := (List.getElem?_eq_some_iff.1 hc).1
  rw [Nat.zero_add, Lib.bytesWorld_cell w e s i (by omega), List.getD, hc]
  rfl
 ·refine ⟨?_, ?_, ?_, by rw [Lib.bytesWorld_size]; omega, fun b hb _ => Lib.bytesWorld_at_old w e s b hb, by simp⟩
  ·rfl
  ·rfl
  ·rfl
theorem yne' {x : Operand} {s : ByteArray} (H : Hid (Sep w0 w (yab' w0 Pl :: R) rows)) (hs : P.underlying src = some .string) (hd : P.underlying tt = some (.slice e)) (he : P.underlying e = some (.int .u8)) (hx : a.eval x = .string s) (hz : s.size ≤ maxLen)
  (hw : Region.wanted ⟨dst, .convert src tt x, tyy, pos, aft, g⟩ (yielded ops a.tmps) = true)
  (k : ∀ w' b c, Hid (Sep w0 w' (yab' w0 ((1, .slice (some ⟨b, 0, none⟩) s.size c, s.data.toList.map bv) :: Pl) :: R) rows) → wpList P ops Q rest (a.put dst (.slice (some ⟨b, 0, none⟩) s.size c)) w') : wpList P ops Q (⟨dst, .convert src tt x, tyy, pos, aft, g⟩ :: rest) a w := by
 refine ycb' hw ?_ (k _ _ _ (Lib.hid (H.out.conv e s hz)))
 unfold execOp
 dsimp only
 rw [hx]
 exact ycn' (Lib.run_convert_string_bytes w src tt e s hs hd he)
theorem yoj' {x : Operand} {v : Value} {l : Bs} (H : Hid (Sep w0 w (ybc' 1 v (l.map bv) :: R) rows)) (hs : P.underlying src = some (.slice e)) (he : P.underlying e = some (.int .u8)) (hd : P.underlying tt = some .string) (hx : a.eval x = v)
  (hw : Region.wanted ⟨dst, .convert src tt x, tyy, pos, aft, g⟩ (yielded ops a.tmps) = true)
  (k : wpList P ops Q rest (a.put dst (.string ⟨l.toArray⟩)) w) : wpList P ops Q (⟨dst, .convert src tt x, tyy, pos, aft, g⟩ :: rest) a w := by
 refine ycb' hw ?_ k
 unfold execOp
 dsimp only
 rw [hx]
 obtain ⟨D, hD⟩ := H.out.fst
 obtain ⟨E, hE, -⟩ := OwnRow.read hD
 exact ycn' (Go.Av.conv_str hs he hd hE w (fun _ _ => rfl))
end
end Go.Av
