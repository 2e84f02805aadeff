/-
  Texts of this claim, laid together.
-/
import Derived.Test.YtcnkifbjlihaoaaGreatDoorMg3
import Derived.Lib.ConvBytes
import Derived.IntWalk
import Derived.WalkKit
import Derived.Deep.DeepCutAuto
import Derived.Sort.KeysCollected
import Derived.Lib.SlKeysI
set_option linter.unusedVariables false
set_option linter.unusedSimpArgs false

namespace Go.Proofs.YtcnkifbjlihaoaaGreatDoor
open Go.RowKit Go.Av
theorem sl_x1 : SliceN Tryz.prog 53 2 1 8 := .of Tryz.underlying53 (by kernel_rfl)
section
variable {w0 w : World} {P P' : List PRow} {R : List Thing} {rows : List (Value × Bs)}
theorem yl4' {K : Nat} {v : Value} {xs : List Value} (h : Sep w0 w (yai' K v xs :: R) rows) : ∃ E, ReadRow w K v xs E := by
 obtain ⟨D, hD⟩ := h.fst
 obtain ⟨E, hE, -⟩ := OwnRow.read hD
 exact ⟨E, hE⟩
theorem yi7' {v : Value} {l : Bs} (h : Sep w0 w (yai' 1 v (l.map bv) :: R) rows) (x : Int) (hl : l.length ≤ 1000000) :
  Calls Tryz.prog 119 #[v, .int .i64 x] w fun e w' => ∃ v', e = .returned v' ∧ Sep w0 w' (yai' 1 v' ((l ++ yal' x).map bv) :: R) rows := by
 obtain ⟨E, hE⟩ := yl4' h
 refine (yly' v l E x w hE (by omega)).mono ?_
 rintro e w' ⟨v', D, rfl, ho, hu⟩
 exact ⟨v', rfl, (h.drop).addRow ho hu⟩
theorem yl6' {v : Value} {l : Bs} (h : Sep w0 w (yai' 1 v (l.map bv) :: R) rows) (s : ByteArray) (hl : l.length ≤ 1000000) (hs : s.size ≤ 1000000) :
  Calls Tryz.prog 116 #[v, .string s] w fun e w' => ∃ v', e = .returned v' ∧ Sep w0 w' (yai' 1 v' ((l ++ ydk' s.data.toList).map bv) :: R) rows := by
 obtain ⟨E, hE⟩ := yl4' h
 refine (yuw' v l E s w hE hl hs).mono ?_
 rintro e w' ⟨v', D, rfl, ho, hu⟩
 exact ⟨v', rfl, (h.drop).addRow ho hu⟩
theorem ye8' {v : Value} {l : Bs} {c n : Nat} {xs : List Int} {T : TypeId} (h : Sep w0 w (yai' 1 v (l.map bv) :: yac' c (.cells (xs.map ivn).toArray T (0, 0)) :: R) rows) (hn : xs.length = n) (hx : n ≤ 1000) (hl : l.length ≤ 1000000) :
  Calls Tryz.prog 115 #[v, .slice (some ⟨c, 0, none⟩) n n] w fun e w' => ∃ v', e = .returned v' ∧ Sep w0 w' (yai' 1 v' ((l ++ xs.flatMap yal').map bv) :: R) rows := by
 obtain ⟨E, hE⟩ := yl4' h
 have h1 := Sep.poolCell (K := 1) (n := n) (cs := xs.map ivn) (P := []) (h.up1.poolNew.up1) (by simp [hn]) hx
 obtain ⟨F, hF⟩ := h1.poolGet k_s
 refine (yym' v _ l xs E F w hE hF hl (by omega)).mono ?_
 rintro e w' ⟨v', D, rfl, ho, hu⟩
 exact ⟨v', rfl, (h.drop.drop).addRow ho hu⟩
def yiw' (w0 : World) (l : Bs) (R : List Thing) (rows : List (Value × Bs)) (e : Ending) (w' : World) : Prop :=
 ∃ v, e = .returned v ∧ Sep w0 w' (yai' 1 v (l.map bv) :: R) rows
def yxl' (w0 : World) (b : Nat) (l0 : Bs) (req : Array Value) (ops : List OpS) (P : List PRow) (R : List Thing) (rows : List (Value × Bs)) (k : Nat) (v3 v21 : Value) (w : World) : Prop :=
 ∃ (i : Nat), i + k = ops.length ∧ v21 = .int .i64 (i : Int) ∧ Sep w0 w (yai' 1 v3 ((l0 ++ (ops.take i).flatMap opB).map bv) :: yac' b (.cells req 42 (0, 0)) :: yab' w0 P :: R) rows
set_option maxRecDepth 100000 in
set_option maxHeartbeats 4000000 in
theorem ynh' (h : Sep w0 w (yab' w0 P :: R) rows) (hd : DoorN w0) (sess num : Int) (ops : List OpS) (v : Value) (hv : (5, v, ops.flatMap OpS.cells) ∈ P) (hp : ∀ o ∈ ops, o.path.size ≤ 100000) :
  Calls Tryz.prog 117 #[.agg #[.int .i64 sess, .int .i64 num, v]] w (yiw' w0 (putR sess num ops) (yab' w0 P :: R) rows) := by
 obtain ⟨E, hE⟩ := h.poolGet hv
 obtain ⟨a, n, c, rfl, hl0, -, -, hne⟩ := ReadRow.some hE
 rw [yau' yag'] at hl0
 obtain rfl : ops.length = n := by omega
 have HNE := Lib.hid hne
 have HV := Lib.hid (show _ ∧ _ from ⟨hv, hp⟩)
 have HX := Lib.hid h
 obtain ⟨bs, hbs⟩ : ∃ bs, putR sess num ops = bs := ⟨_, rfl⟩
 rw [hbs]
 have HBS := Lib.hid hbs
 clear h hE hne hv hp hl0 hbs
 go_enter Tryz.func117, Tryz.ntmps117
 go_wp2_with (first | refine u0 ?_ | (refine uS ?_; clear HX; intro w HX) | (refine uA ?_; clear HX; (first | (have hq := b2; clear hq; intro w b3 HX) | (have hq := b; clear hq; intro w b2 HX) | intro w b HX)))
 refine (yjd' HX.out.up1 hd sess num ops _ HV.out.1 HV.out.2).mono ?_
 obtain ⟨me, hme⟩ : ∃ me, mayS sess num ops = me := ⟨_, rfl⟩
 rw [hme]
 have HME := Lib.hid hme
 rintro e w ⟨rfl, hx⟩
 clear HX hme
 have HX := Lib.hid hx
 clear hx
 by_cases h0 : me = 0
 case neg =>
  have q1 : (me != 0) = true := by rw [bne_iff_ne]; exact h0
  obtain rfl : bs = [] := by rw [← HBS.out]; unfold putR; rw [HME.out, if_pos h0]
  clear h0
  go_wp2_with (first | refine u0 ?_ | (refine uS ?_; clear HX; intro w HX) | (refine uA ?_; clear HX; (first | (have hq := b2; clear hq; intro w b3 HX) | (have hq := b; clear hq; intro w b2 HX) | intro w b HX)))
  go_ret
  exact ⟨_, rfl, HX.out.up1.drop.nilRow 1⟩
 case pos =>
  subst h0
  have hg := yls' HME.out
  have hn := yow' HME.out
  have HGD := Lib.hid (show _ ∧ _ from ⟨hn.2.2.1, hg⟩)
  clear hn
  have hb0 := HBS.out
  unfold putR at hb0
  rw [HME.out, if_neg (fun hh => hh rfl)] at hb0
  have HB0 := Lib.hid hb0
  clear hb0 hg HBS
  go_wp2_with (first | refine u0 ?_ | (refine uS ?_; clear HX; intro w HX) | (refine uA ?_; clear HX; (first | (have hq := b2; clear hq; intro w b3 HX) | (have hq := b; clear hq; intro w b2 HX) | intro w b HX)))
  refine (ye8' (l := []) (xs := [sess, num, (ops.length : Int)]) (n := 3) ((HX.out.newCell _).nilRow 1) rfl (by omega) (by simp)).mono ?_
  rintro e w ⟨v3, rfl, hx⟩
  rw [List.nil_append] at hx
  obtain ⟨l0, hl0⟩ : ∃ l0, [sess, num, (ops.length : Int)].flatMap yal' = l0 := ⟨_, rfl⟩
  rw [hl0] at hx
  have HL0 := Lib.hid hl0
  have HN0 := Lib.hid (show l0.length = 24 by rw [← hl0]; rfl)
  clear HX hl0
  have HX := Lib.hid hx
  clear hx
  go_wp2_with (first | refine u0 ?_ | (refine uS ?_; clear HX; intro w HX) | (refine uA ?_; clear HX; (first | (have hq := b2; clear hq; intro w b3 HX) | (have hq := b; clear hq; intro w b2 HX) | intro w b HX)))
  have HST := Lib.hid (show yxl' w0 b l0 #[.int .i64 sess, .int .i64 num, .slice a ops.length c] ops P R rows ops.length v3 (.int .i64 (0 : Int)) w from ⟨0, by simp, rfl, by rw [k_g, List.flatMap_nil, List.append_nil]; exact HX.out.pm 3 [0, 2, 1] rfl rfl⟩)
  clear HX
  go_loopg [3, 5, 21] ops.length (fun k v3 _ v21 wr => yxl' w0 b l0 #[.int .i64 sess, .int .i64 num, .slice a ops.length c] ops P R rows k v3 v21 wr)
  case atStart => exact HST.out
  case round =>
   rename World => w
   obtain ⟨i, hik, rfl, hS⟩ := hrel
   clear HST
   have HX := Lib.hid hS
   clear hS
   by_cases hlt : i < ops.length
   case neg =>
    obtain rfl : i = ops.length := by omega
    rw [List.take_length] at HX
    clear hlt hik
    go_wp2_with (first | refine u0 ?_ | (refine uS ?_; clear HX; intro w HX) | (refine uA ?_; clear HX; (first | (have hq := b2; clear hq; intro w b3 HX) | (have hq := b; clear hq; intro w b2 HX) | intro w b HX)))
    go_ret
    refine ⟨_, rfl, ?_⟩
    rw [← HB0.out]
    have e : yal' sess ++ (yal' num ++ (yal' (ops.length : Int) ++ ops.flatMap opB)) = l0 ++ ops.flatMap opB := by rw [← HL0.out]; simp [List.flatMap_cons]
    rw [e]
    exact HX.out.up1.drop
   case pos =>
    obtain ⟨g, off, rfl⟩ := HNE.out (by intro e; have := congrArg List.length e; rw [yau' yag'] at this; simp at this; omega)
    obtain ⟨E, hE⟩ := HX.out.up2.poolGet HV.out.1
    have hl := ycs' (P := Tryz.prog) (f := OpS.cells) (i := i) hE yag' sn_op hlt
    have hgd := HGD.out.2 ops[i] (List.getElem_mem hlt)
    have hbl : (l0 ++ (ops.take i).flatMap opB).length ≤ 20000 := by
     have h1 := ylx' (ops.take i) (fun o ho => HGD.out.2 o (List.mem_of_mem_take ho))
     have h2 := HN0.out
     have h3 := HGD.out.1
     rw [List.length_append]
     rw [List.length_take] at h1
     omega
    have hnx : l0 ++ (ops.take (i + 1)).flatMap opB = (l0 ++ (ops.take i).flatMap opB) ++ opB ops[i] := by
     rw [List.take_succ_eq_append_getElem hlt, List.flatMap_append, List.append_assoc]
     simp
    obtain ⟨bs, hbs⟩ : ∃ bs, l0 ++ (ops.take i).flatMap opB = bs := ⟨_, rfl⟩
    rw [hbs] at HX hbl hnx
    obtain ⟨o, ho⟩ : ∃ o, ops[i] = o := ⟨_, rfl⟩
    rw [ho] at hl hgd hnx
    obtain ⟨hg1, hg2, -, -⟩ := yds' hgd
    have hg3 := ycc' (ydc' hg1).2.2.1
    have q0 : decide (i < ops.length) = true := decide_eq_true hlt
    have q9 : i ≤ 16 := by have := HGD.out.1; omega
    obtain ⟨kind, path, data, ver, flags⟩ := o
    dsimp only [OpS.p] at hg2 hg3
    have hps : path.size ≤ 200 := by rw [show path.size = path.data.toList.length from (Array.length_toList).symm]; exact hg3
    have HNX := Lib.hid hnx
    have HSZ := Lib.hid (show _ ∧ _ ∧ _ ∧ _ from ⟨hbl, hps, hg2, hg3⟩)
    simp only [OpS.cells] at hl
    clear hE ho hbs hgd hg1 hg2 hg3 hnx hbl hps
    go_wp2_with (first | refine u0 ?_ | (refine uS ?_; clear HX; intro w HX) | (refine uA ?_; clear HX; (first | (have hq := b2; clear hq; intro w b3 HX) | (have hq := b; clear hq; intro w b2 HX) | intro w b HX)) | ((with_reducible apply yaw' hl); (· rfl); (· rfl); simp only [Act.put, k_a, k_b, k_c]))
    refine (yi7' HX.out.up1 kind (by have := HSZ.out.1; omega)).mono ?_
    rintro e w ⟨v4, rfl, hx⟩
    clear HX hl
    have HX := Lib.hid hx
    clear hx
    go_wp2_with (first | refine u0 ?_ | (refine uS ?_; clear HX; intro w HX) | (refine uA ?_; clear HX; (first | (have hq := b2; clear hq; intro w b3 HX) | (have hq := b; clear hq; intro w b2 HX) | intro w b HX)))
    refine rM (fun W => (∃ Ts, Sep w0 W (yac' b2 (.cells #[.int .i64 kind, .string path, .string data, .int .i64 ver, .int .i64 flags] 89 (0, 0)) :: Ts) rows)) 7 ?_
    intro KEEPX
    replace HX := Lib.hid HX.out.drew
    have hl : ∀ V, (∃ Ts, Sep w0 V (yac' b2 (.cells #[.int .i64 kind, .string path, .string data, .int .i64 ver, .int .i64 flags] 89 (0, 0)) :: Ts) rows) → (Instr.loadAt 9 (.pointer (some ⟨b2, 1, none⟩))).run Tryz.prog V = .ok (.string path) V := by
     rintro V ⟨Ts, hV⟩
     exact yae' (by kernel_rfl) (yaa' hV.blk 1 rfl)
    have hl2 : ∀ V, (∃ Ts, Sep w0 V (yac' b2 (.cells #[.int .i64 kind, .string path, .string data, .int .i64 ver, .int .i64 flags] 89 (0, 0)) :: Ts) rows) → (Instr.loadAt 9 (.pointer (some ⟨b2, 2, none⟩))).run Tryz.prog V = .ok (.string data) V := by
     rintro V ⟨Ts, hV⟩
     exact yae' (by kernel_rfl) (yaa' hV.blk 2 rfl)
    refine rT [(0, false), (1, false), (2, true), (4, false), (5, true)] 3 ?_
    apply Exists.intro; refine ⟨?_, ⟨_, HX.out.up1⟩, ?_⟩
    ·iterate 5 (refine xE ?_)
     exact rfl
    clear hl hl2
    refine r1 2 3 fun K hK => ?_
    go_wp2_with fail
    refine (yl6' HX.out path (by have := HSZ.out.1; rw [List.length_append, ya0']; omega) (by have := HSZ.out.2.1; omega)).mono ?_
    rintro e w ⟨v5, rfl, hx⟩
    replace HX := Lib.hid hx
    clear hx
    go_wp2_with fail
    refine hK _ _ ⟨_, HX.out.up1⟩ ?_
    clear hK
    refine r1 1 6 fun K hK => ?_
    go_wp2_with fail
    refine (yl6' HX.out data (by have := HSZ.out.1; have := HSZ.out.2.2.2; unfold ydk'; simp only [List.length_append, ya0']; omega) (by have := HSZ.out.2.2.1; omega)).mono ?_
    rintro e w ⟨v6, rfl, hx⟩
    replace HX := Lib.hid hx
    clear hx
    go_wp2_with fail
    refine hK _ _ ⟨_, HX.out.up1⟩ ?_
    clear hK
    refine rL [7] 0 ?_
    simp only [List.filterMap_cons, List.filterMap_nil, k_i, k_j, k_k]
    go_wp2_with (first | refine u0 ?_ | (refine uS ?_; clear HX; intro w HX) | (refine uA ?_; clear HX; (first | (have hq := b2; clear hq; intro w b3 HX) | (have hq := b; clear hq; intro w b2 HX) | intro w b HX)))
    refine (ye8' (xs := [ver, flags]) (n := 2) ((HX.out.newCell _).up1) rfl (by omega) (by have := HSZ.out.1; have := HSZ.out.2.2.2; have h3 : data.data.toList.length ≤ 1000 := HSZ.out.2.2.1; unfold ydk'; simp only [List.length_append, ya0']; omega)).mono ?_
    rintro e w ⟨v7, rfl, hx⟩
    have e7 : bs ++ opB ⟨kind, path, data, ver, flags⟩ = (bs ++ yal' kind ++ ydk' path.data.toList ++ ydk' data.data.toList) ++ [ver, flags].flatMap yal' := by
     unfold opB OpS.p
     simp [List.flatMap_cons, List.append_assoc]
    rw [← e7, ← HNX.out] at hx
    replace HX := Lib.hid hx
    clear hx e7
    go_wp2_with (first | refine u0 ?_ | (refine uS ?_; clear HX; intro w HX) | (refine uA ?_; clear HX; (first | (have hq := b2; clear hq; intro w b3 HX) | (have hq := b; clear hq; intro w b2 HX) | intro w b HX)))
    go_roundg (ops.length - (i + 1))
    case rel => exact ⟨i + 1, by omega, by go_num, HX.out.pm 4 [0, 2, 3] rfl rfl⟩
    case measure => omega
end
end Go.Proofs.YtcnkifbjlihaoaaGreatDoor

namespace Go.Proofs.YtcnkifbjlihaoaaGreatDoor
open Go.RowKit Go.Av
section
variable {w0 w : World} {P P' : List PRow} {R : List Thing} {rows : List (Value × Bs)}
theorem ynr' (h : Sep w0 w (yab' w0 P :: R) rows) (v : Value) (l : Bs) (hv : (1, v, l.map bv) ∈ P) (hl : l.length ≤ 1000000) :
  Calls Tryz.prog 101 #[v] w fun e w' => ∃ r, e = .returned (.pointer (some ⟨r, 0, none⟩)) ∧ Sep w0 w' (yd9' r (l, false) :: yab' w0 P :: R) rows := by
 obtain ⟨E, hE⟩ := h.poolGet hv
 refine (yzr' v l E w hE (by omega)).mono ?_
 rintro e w' ⟨r, D, rfl, hr, hu⟩
 exact ⟨r, rfl, h.add hu hr⟩
def yu9' (w0 : World) (o : Option (Int × Int × List OpS)) (P : List PRow) (R : List Thing) (rows : List (Value × Bs)) (e : Ending) (w' : World) : Prop :=
 ∃ vs P', e = .returned (.tuple #[.agg #[.int .i64 (o.getD (0, 0, [])).1, .int .i64 (o.getD (0, 0, [])).2.1, vs], .int .i64 (if o.isSome = true then 0 else 3)]) ∧ (∀ q ∈ P, q ∈ P') ∧ (5, vs, (o.getD (0, 0, [])).2.2.flatMap OpS.cells) ∈ P' ∧ Sep w0 w' (yab' w0 P' :: R) rows
def yxk' (w0 : World) (r b b2 : Nat) (s n : Int) (K : Nat) (d : Rd) (P : List PRow) (R : List Thing) (rows : List (Value × Bs)) (k : Nat) (v17 : Value) (w : World) : Prop :=
 ∃ (i : Nat) (a : Option Addr) (n' c' : Nat), i + k = K ∧ v17 = .int .i64 (i : Int) ∧ Sep w0 w (yd9' r (opsR i d).2 :: yac' b2 (.cells #[.int .i64 s, .int .i64 n, .slice a n' c'] 42 (0, 0)) :: yai' 5 (.slice a n' c') ((opsR i d).1.flatMap OpS.cells) ::
  yac' b (.cells #[.int .i64 0, .int .i64 0, .slice none 0 0] 42 (0, 0)) :: yab' w0 P :: R) rows
theorem yn8' (most : Int) (d : Rd) (hm : 0 ≤ most) : ((ybq' most d).1.length : Int) ≤ most := by
 have h := yiz' hm d
 unfold ybq'
 split
 ·simpa using hm
 ·simp only [List.length_take]
  omega
theorem yhw' : ∀ (n : Nat) (d : Rd), ∀ o ∈ (opsR n d).1, o.path.size ≤ 20000
 | 0, d, o, h => by cases h
 | n + 1, d, o, h => by
  rw [yes'] at h
  rcases List.mem_cons.1 h with rfl | h
  ·obtain ⟨⟨k1, e1⟩, g1⟩ : ∃ x, i64R d = x := ⟨_, rfl⟩
   obtain ⟨⟨t2, e2⟩, g2⟩ : ∃ x, ybq' 20000 e1 = x := ⟨_, rfl⟩
   have hl := yn8' 20000 e1 (by omega)
   rw [g2] at hl
   unfold opR
   rw [g1]
   dsimp only
   rw [g2]
   dsimp only at hl ⊢
   show (⟨t2.toArray⟩ : ByteArray).size ≤ 20000
   have : (⟨t2.toArray⟩ : ByteArray).size = t2.length := by show t2.toArray.size = _; simp
   omega
  ·exact yhw' n _ o h
set_option maxRecDepth 100000 in
set_option maxHeartbeats 4000000 in
theorem ytt' (h : Sep w0 w (yab' w0 P :: R) rows) (hd : DoorN w0) (v : Value) (l : Bs) (hv : (1, v, l.map bv) ∈ P) (hl : l.length ≤ 1000000) :
  Calls Tryz.prog 167 #[v] w (yu9' w0 (getR l) P R rows) := by
 have HV := Lib.hid (show _ ∧ _ from ⟨hv, hl⟩)
 have HX := Lib.hid h
 obtain ⟨o, ho⟩ : ∃ o, getR l = o := ⟨_, rfl⟩
 rw [ho]
 have HO := Lib.hid ho
 clear h hv hl ho
 obtain ⟨⟨s, d1⟩, h1⟩ : ∃ x, i64R (l, false) = x := ⟨_, rfl⟩
 obtain ⟨⟨n, d2⟩, h2⟩ : ∃ x, i64R d1 = x := ⟨_, rfl⟩
 obtain ⟨⟨kk, d3⟩, h3⟩ : ∃ x, cntR 16 d2 = x := ⟨_, rfl⟩
 have hb3 := yiz' (most := 16) (by omega) d2
 rw [h3] at hb3
 dsimp only at hb3
 obtain ⟨K, rfl⟩ : ∃ K : Nat, kk = (K : Int) := ⟨kk.toNat, by omega⟩
 have HD := Lib.hid (show rawR l = ((s, n, (opsR K d3).1), (opsR K d3).2) by unfold rawR; rw [h1]; dsimp only; rw [h2]; dsimp only; rw [h3]; dsimp only; rw [Int.toNat_natCast])
 have H1 := Lib.hid h1
 have H2 := Lib.hid h2
 have H3 := Lib.hid h3
 have HK := Lib.hid (show K ≤ 16 by omega)
 clear h1 h2 h3 hb3
 go_enter Tryz.func167, Tryz.ntmps167
 go_wp2_with (first | refine u0 ?_ | (refine uS ?_; clear HX; intro w HX) | (refine uA ?_; clear HX; (first | (have hq := b2; clear hq; intro w b3 HX) | (have hq := b; clear hq; intro w b2 HX) | intro w b HX)) | (refine uP ?_; clear HX; intro w av nv cv HX))
 refine (ynr' HX.out.up1 v l HV.out.1 HV.out.2).mono ?_
 rintro e w ⟨r, rfl, hx⟩
 replace HX := Lib.hid hx
 clear hx
 go_wp2_with (first | refine u0 ?_ | (refine uS ?_; clear HX; intro w HX) | (refine uA ?_; clear HX; (first | (have hq := b2; clear hq; intro w b3 HX) | (have hq := b; clear hq; intro w b2 HX) | intro w b HX)) | (refine uP ?_; clear HX; intro w av nv cv HX))
 refine (ycj' HX.out).mono ?_
 rw [H1.out]
 rintro e w ⟨rfl, hx⟩
 replace HX := Lib.hid hx
 clear hx
 go_wp2_with (first | refine u0 ?_ | (refine uS ?_; clear HX; intro w HX) | (refine uA ?_; clear HX; (first | (have hq := b2; clear hq; intro w b3 HX) | (have hq := b; clear hq; intro w b2 HX) | intro w b HX)) | (refine uP ?_; clear HX; intro w av nv cv HX))
 refine (ycj' HX.out.up1).mono ?_
 rw [H2.out]
 rintro e w ⟨rfl, hx⟩
 replace HX := Lib.hid hx
 clear hx
 go_wp2_with (first | refine u0 ?_ | (refine uS ?_; clear HX; intro w HX) | (refine uA ?_; clear HX; (first | (have hq := b2; clear hq; intro w b3 HX) | (have hq := b; clear hq; intro w b2 HX) | intro w b HX)) | (refine uP ?_; clear HX; intro w av nv cv HX))
 refine (ycw' HX.out 16 (by omega)).mono ?_
 rw [H3.out]
 rintro e w ⟨rfl, hx⟩
 replace HX := Lib.hid hx
 clear hx
 go_wp2_with (first | refine u0 ?_ | (refine uS ?_; clear HX; intro w HX) | (refine uA ?_; clear HX; (first | (have hq := b2; clear hq; intro w b3 HX) | (have hq := b; clear hq; intro w b2 HX) | intro w b HX)) | (refine uP ?_; clear HX; intro w av nv cv HX))
 have HST := Lib.hid (show yxk' w0 r b b2 s n K d3 P R rows K (.int .i64 (0 : Int)) w from ⟨0, none, 0, 0, by omega, rfl, (HX.out.nilRow 5).pm 5 [1, 2, 0, 4, 3] rfl rfl⟩)
 clear HX
 go_loopg [6, 17] K (fun k _ v17 wr => yxk' w0 r b b2 s n K d3 P R rows k v17 wr)
 case atStart => exact HST.out
 case round =>
  rename World => w
  obtain ⟨i, a, n', c', hik, rfl, hS⟩ := hrel
  clear HST
  have HX := Lib.hid hS
  clear hS
  by_cases hlt : i < K
  case neg =>
   obtain rfl : i = K := by omega
   have q0 : decide ((i : Int) < (i : Int)) = false := decide_eq_false (by omega)
   have q1 : decide (i < i) = false := decide_eq_false (by omega)
   clear hlt hik
   have HPS := Lib.hid (yhw' i d3)
   obtain ⟨⟨os, dd⟩, hod⟩ : ∃ x, opsR i d3 = x := ⟨_, rfl⟩
   rw [hod] at HX HPS HD
   have hgo : o = if endR dd = true ∧ mayS s n os = 0 then some (s, n, os) else none := by
    rw [← HO.out]
    unfold getR
    rw [HD.out]
   have HGO := Lib.hid hgo
   clear hgo hod HO
   go_wp2_with (first | refine u0 ?_ | (refine uS ?_; clear HX; intro w HX) | (refine uA ?_; clear HX; (first | (have hq := b2; clear hq; intro w b3 HX) | (have hq := b; clear hq; intro w b2 HX) | intro w b HX)) | (refine uP ?_; clear HX; intro w av nv cv HX))
   refine (ykn' HX.out).mono ?_
   obtain ⟨ze, hze⟩ : ∃ z, endR dd = z := ⟨_, rfl⟩
   have hze2 : (!dd.2 && dd.1.isEmpty) = ze := hze
   rw [hze2]
   rintro e w ⟨rfl, rfl⟩
   clear hze2
   rw [hze] at HGO
   cases ze with
   | false =>
    obtain rfl : o = none := HGO.out.trans (if_neg (by simp))
    go_wp2_with (first | refine u0 ?_ | (refine uS ?_; clear HX; intro w HX) | (refine uA ?_; clear HX; (first | (have hq := b2; clear hq; intro w b3 HX) | (have hq := b; clear hq; intro w b2 HX) | intro w b HX)) | (refine uP ?_; clear HX; intro w av nv cv HX))
    refine yd5' HX rfl rfl (by (repeat (first | (with_reducible exact k_s) | (with_reducible apply k_m)))) (by kernel_rfl) ?_
    exact ⟨.slice none 0 0, (5, .slice none 0 0, []) :: P, rfl, fun q hq => k_n _ hq, k_s, HX.out.drop.drop.drop.drop.poolNil 5⟩
   | true =>
    have hx := (HX.out.pm 5 [2, 4, 0, 1, 3] rfl rfl : Sep w0 _ (yai' 5 (.slice a n' c') (os.flatMap OpS.cells) :: yab' w0 P :: yd9' r dd :: yac' b2 (.cells #[.int .i64 s, .int .i64 n, .slice a n' c'] 42 (0, 0)) :: yac' b (.cells #[.int .i64 0, .int .i64 0, .slice none 0 0] 42 (0, 0)) :: R) rows).poolRow
    replace HX := Lib.hid hx
    clear hx
    obtain ⟨me, hme⟩ : ∃ me, mayS s n os = me := ⟨_, rfl⟩
    rw [hme] at HGO
    go_wp2_with (first | refine u0 ?_ | (refine uS ?_; clear HX; intro w HX) | (refine uA ?_; clear HX; (first | (have hq := b2; clear hq; intro w b3 HX) | (have hq := b; clear hq; intro w b2 HX) | intro w b HX)) | (refine uP ?_; clear HX; intro w av nv cv HX))
    refine (yjd' HX.out hd s n os _ k_s (fun q hq => by have := HPS.out q hq; omega)).mono ?_
    rw [hme]
    rintro e w ⟨rfl, hx⟩
    replace HX := Lib.hid hx
    clear hx
    by_cases h0 : me = 0
    case neg =>
     have q3 : (me != 0) = true := by rw [bne_iff_ne]; exact h0
     obtain rfl : o = none := HGO.out.trans (if_neg (fun hh => h0 hh.2))
     clear h0
     go_wp2_with (first | refine u0 ?_ | (refine uS ?_; clear HX; intro w HX) | (refine uA ?_; clear HX; (first | (have hq := b2; clear hq; intro w b3 HX) | (have hq := b; clear hq; intro w b2 HX) | intro w b HX)) | (refine uP ?_; clear HX; intro w av nv cv HX))
     refine yd5' HX rfl rfl (by (repeat (first | (with_reducible exact k_s) | (with_reducible apply k_m)))) (by kernel_rfl) ?_
     exact ⟨.slice none 0 0, (5, .slice none 0 0, []) :: _, rfl, fun q hq => k_n _ (k_n _ hq), k_s, (HX.out.poolNil 5) |> fun h => h.up1.drop.up1.drop.up1.drop⟩
    case pos =>
     subst h0
     obtain rfl : o = some (s, n, os) := HGO.out.trans (by simp)
     go_wp2_with (first | refine u0 ?_ | (refine uS ?_; clear HX; intro w HX) | (refine uA ?_; clear HX; (first | (have hq := b2; clear hq; intro w b3 HX) | (have hq := b; clear hq; intro w b2 HX) | intro w b HX)) | (refine uP ?_; clear HX; intro w av nv cv HX))
     refine yd5' HX rfl rfl (by (repeat (first | (with_reducible exact k_s) | (with_reducible apply k_m)))) (by kernel_rfl) ?_
     exact ⟨.slice a n' c', _, rfl, fun q hq => k_n _ hq, k_s, HX.out.up1.drop.up1.drop.up1.drop⟩
  case pos =>
   have q0 : decide (i < K) = true := decide_eq_true hlt
   have q1 : decide ((i : Int) < (K : Int)) = true := decide_eq_true (by omega)
   have q9 : i ≤ 16 := by have := HK.out; omega
   have hnx := yni' i d3
   have hlen := yp7' i d3
   obtain ⟨⟨os, dd⟩, hod⟩ : ∃ x, opsR i d3 = x := ⟨_, rfl⟩
   rw [hod] at HX hnx hlen
   dsimp only at HX hnx hlen
   obtain ⟨⟨k1, e1⟩, g1⟩ : ∃ x, i64R dd = x := ⟨_, rfl⟩
   obtain ⟨⟨t2, e2⟩, g2⟩ : ∃ x, ybq' 20000 e1 = x := ⟨_, rfl⟩
   obtain ⟨⟨t3, e3⟩, g3⟩ : ∃ x, ybq' 20000 e2 = x := ⟨_, rfl⟩
   obtain ⟨⟨k4, e4⟩, g4⟩ : ∃ x, i64R e3 = x := ⟨_, rfl⟩
   obtain ⟨⟨k5, e5⟩, g5⟩ : ∃ x, i64R e4 = x := ⟨_, rfl⟩
   have hop : opR dd = (⟨k1, ⟨t2.toArray⟩, ⟨t3.toArray⟩, k4, k5⟩, e5) := by
    unfold opR
    rw [g1]; dsimp only
    rw [g2]; dsimp only
    rw [g3]; dsimp only
    rw [g4]; dsimp only
    rw [g5]
   rw [hop] at hnx
   have HNX := Lib.hid hnx
   have HG := Lib.hid (show _ ∧ _ ∧ _ ∧ _ ∧ _ from ⟨g1, g2, g3, g4, g5⟩)
   have HLEN := Lib.hid (show (os.flatMap OpS.cells).length = i * 5 by rw [yau' yag', hlen])
   have HBD := Lib.hid (show ∀ n, (os.flatMap OpS.cells).length = n * 5 → n + 1 ≤ 140737488355328 ∧ (n + 1) * 56 ≤ 140737488355328 from fun n hn => by have := HLEN.out; omega)
   clear hnx hop g1 g2 g3 g4 g5 hod hlen
   go_wp2_with (first | refine u0 ?_ | (refine uS ?_; clear HX; intro w HX) | (refine uA ?_; clear HX; (first | (have hq := b2; clear hq; intro w b3 HX) | (have hq := b; clear hq; intro w b2 HX) | intro w b HX)) | (refine uP ?_; clear HX; intro w av nv cv HX))
   refine (ycj' HX.out).mono ?_
   rw [HG.out.1]
   rintro e w ⟨rfl, hx⟩
   replace HX := Lib.hid hx
   clear hx
   go_wp2_with (first | refine u0 ?_ | (refine uS ?_; clear HX; intro w HX) | (refine uA ?_; clear HX; (first | (have hq := b2; clear hq; intro w b3 HX) | (have hq := b; clear hq; intro w b2 HX) | intro w b HX)) | (refine uP ?_; clear HX; intro w av nv cv HX))
   refine (ygd' HX.out.up1 20000 (by omega)).mono ?_
   rw [HG.out.2.1]
   rintro e w ⟨rfl, hx⟩
   replace HX := Lib.hid hx
   clear hx
   unfold sv
   go_wp2_with (first | refine u0 ?_ | (refine uS ?_; clear HX; intro w HX) | (refine uA ?_; clear HX; (first | (have hq := b2; clear hq; intro w b3 HX) | (have hq := b; clear hq; intro w b2 HX) | intro w b HX)) | (refine uP ?_; clear HX; intro w av nv cv HX))
   refine (ygd' HX.out 20000 (by omega)).mono ?_
   rw [HG.out.2.2.1]
   rintro e w ⟨rfl, hx⟩
   replace HX := Lib.hid hx
   clear hx
   unfold sv
   go_wp2_with (first | refine u0 ?_ | (refine uS ?_; clear HX; intro w HX) | (refine uA ?_; clear HX; (first | (have hq := b2; clear hq; intro w b3 HX) | (have hq := b; clear hq; intro w b2 HX) | intro w b HX)) | (refine uP ?_; clear HX; intro w av nv cv HX))
   refine (ycj' HX.out).mono ?_
   rw [HG.out.2.2.2.1]
   rintro e w ⟨rfl, hx⟩
   replace HX := Lib.hid hx
   clear hx
   go_wp2_with (first | refine u0 ?_ | (refine uS ?_; clear HX; intro w HX) | (refine uA ?_; clear HX; (first | (have hq := b2; clear hq; intro w b3 HX) | (have hq := b; clear hq; intro w b2 HX) | intro w b HX)) | (refine uP ?_; clear HX; intro w av nv cv HX))
   refine (ycj' HX.out).mono ?_
   rw [HG.out.2.2.2.2]
   rintro e w ⟨rfl, hx⟩
   replace HX := Lib.hid hx
   clear hx
   go_wp2_with (first | refine u0 ?_ | (refine uS ?_; clear HX; intro w HX) | (refine uA ?_; clear HX; (first | (have hq := b2; clear hq; intro w b3 HX) | (have hq := b; clear hq; intro w b2 HX) | intro w b HX)) | (refine uP ?_; clear HX; intro w av nv cv HX))
   go_roundg (K - (i + 1))
   case rel =>
    refine ⟨i + 1, av, nv, cv, by omega, by go_num, ?_⟩
    rw [HNX.out]
    dsimp only
    rw [List.flatMap_append]
    exact HX.out.pm 7 [2, 4, 0, 5, 6] rfl rfl
   case measure => omega
end
end Go.Proofs.YtcnkifbjlihaoaaGreatDoor

namespace Go.Proofs.YtcnkifbjlihaoaaGreatDoor
open Go.RowKit Go.Av
theorem sn_x4 : StructN Tryz.prog 180 2 := ⟨by kernel_rfl⟩
theorem sn_x5 : StructN Tryz.prog 70 9 := ⟨by kernel_rfl⟩
theorem z_x5 : yd8' Tryz.prog 70 #[.int .i64 0, .int .i64 0, .int .i64 0, .int .i64 0, .int .i64 0, .slice none 0 0, .slice none 0 0, .int .i64 0, .bool false] := by unfold yd8'; kernel_rfl
section
variable {w0 w : World} {P P' : List PRow} {R : List Thing} {rows : List (Value × Bs)}
set_option maxRecDepth 100000 in
theorem ysf' (y : Bool) (w : World) : Calls Tryz.prog 120 #[.bool y] w fun e w' => e = .returned (.int .i64 (bitI y)) ∧ w' = w := by
 cases y with
 | true =>
  go_enter Tryz.func120, Tryz.ntmps120
  go_wp2_with fail
  go_ret
  exact ⟨rfl, rfl⟩
 | false =>
  go_enter Tryz.func120, Tryz.ntmps120
  go_wp2_with fail
  go_ret
  exact ⟨rfl, rfl⟩
def yxo' (w0 : World) (l : Bs) (xs : List Int) (P : List PRow) (R : List Thing) (rows : List (Value × Bs)) (k : Nat) (v0 v13 : Value) (w : World) : Prop :=
 ∃ (i : Nat), i + k = xs.length ∧ v13 = .int .i64 (i : Int) ∧ Sep w0 w (yai' 1 v0 ((l ++ (yal' (xs.length : Int) ++ (xs.take i).flatMap yal')).map bv) :: yab' w0 P :: R) rows
set_option maxRecDepth 100000 in
set_option maxHeartbeats 4000000 in
theorem yh1' (v : Value) (l : Bs) (h : Sep w0 w (yai' 1 v (l.map bv) :: yab' w0 P :: R) rows) (vs : Value) (xs : List Int) (hv : (1, vs, xs.map ivn) ∈ P) (hl : l.length ≤ 100000) (hx : xs.length ≤ 1000) :
  Calls Tryz.prog 118 #[v, vs] w (yiw' w0 (l ++ shB xs) (yab' w0 P :: R) rows) := by
 obtain ⟨E, hE⟩ := h.up1.poolGet hv
 obtain ⟨a, n, c, rfl, hl0, -, -, hne⟩ := ReadRow.some hE
 rw [List.length_map, Nat.mul_one] at hl0
 subst hl0
 have HNE := Lib.hid hne
 have HV := Lib.hid (show _ ∧ _ ∧ _ from ⟨hv, hl, hx⟩)
 have HX := Lib.hid h
 clear h hE hne hv hl hx
 go_enter Tryz.func118, Tryz.ntmps118
 go_wp2_with (first | refine u0 ?_ | (refine uS ?_; clear HX; intro w HX) | (refine uA ?_; clear HX; (first | (have hq := b; clear hq; intro w b2 HX) | intro w b HX)))
 refine (yi7' HX.out (xs.length : Int) (by have := HV.out.2.1; omega)).mono ?_
 rintro e w ⟨v0, rfl, hx⟩
 replace HX := Lib.hid hx
 clear hx
 go_wp2_with (first | refine u0 ?_ | (refine uS ?_; clear HX; intro w HX) | (refine uA ?_; clear HX; (first | (have hq := b; clear hq; intro w b2 HX) | intro w b HX)))
 have HST := Lib.hid (show yxo' w0 l xs P R rows xs.length v0 (.int .i64 (0 : Int)) w from ⟨0, by simp, rfl, by rw [k_g, List.flatMap_nil, List.append_nil]; exact HX.out⟩)
 clear HX
 go_loopg [0, 6, 13] xs.length (fun k v0 _ v13 wr => yxo' w0 l xs P R rows k v0 v13 wr)
 case atStart => exact HST.out
 case round =>
  rename World => w
  obtain ⟨i, hik, rfl, hS⟩ := hrel
  clear HST
  have HX := Lib.hid hS
  clear hS
  by_cases hlt : i < xs.length
  case neg =>
   obtain rfl : i = xs.length := by omega
   rw [List.take_length] at HX
   clear hlt hik
   go_wp2_with (first | refine u0 ?_ | (refine uS ?_; clear HX; intro w HX) | (refine uA ?_; clear HX; (first | (have hq := b; clear hq; intro w b2 HX) | intro w b HX)))
   go_ret
   exact ⟨_, rfl, HX.out⟩
  case pos =>
   obtain ⟨g, off, rfl⟩ := HNE.out (by intro e; rw [List.map_eq_nil_iff] at e; rw [e] at hlt; simp at hlt)
   obtain ⟨E, hE⟩ := HX.out.up1.poolGet HV.out.1
   have hl := yb5' (P := Tryz.prog) (ty := 3) (i := i) (v := .int .i64 xs[i]) hE (by kernel_rfl) (by simp [hlt]; rfl)
   have hnx : l ++ (yal' (xs.length : Int) ++ (xs.take (i + 1)).flatMap yal') = (l ++ (yal' (xs.length : Int) ++ (xs.take i).flatMap yal')) ++ yal' xs[i] := by
    rw [List.take_succ_eq_append_getElem hlt, List.flatMap_append]
    simp
   have hln : (l ++ (yal' (xs.length : Int) ++ (xs.take i).flatMap yal')).length ≤ 200000 := by
    have h1 := HV.out.2.1
    have h2 := HV.out.2.2
    rw [List.length_append, List.length_append, ya0', ygq', List.length_take]
    omega
   obtain ⟨x, hxx⟩ : ∃ x, xs[i] = x := ⟨_, rfl⟩
   rw [hxx] at hl hnx
   have HNX := Lib.hid (show _ ∧ _ from ⟨hnx, hln⟩)
   have q0 : decide (i < xs.length) = true := decide_eq_true hlt
   have q9 : i ≤ 1000 := by have := HV.out.2.2; omega
   clear hE hnx hln hxx
   go_wp2_with (first | refine u0 ?_ | (refine uS ?_; clear HX; intro w HX) | (refine uA ?_; clear HX; (first | (have hq := b; clear hq; intro w b2 HX) | intro w b HX)) | ((with_reducible apply yaw' hl); (· rfl); (· rfl); simp only [Act.put, k_a, k_b, k_c]))
   refine (yi7' HX.out x (by have := HNX.out.2; omega)).mono ?_
   rintro e w ⟨v4, rfl, hx⟩
   rw [← HNX.out.1] at hx
   clear hl
   replace HX := Lib.hid hx
   clear hx
   go_wp2_with (first | refine u0 ?_ | (refine uS ?_; clear HX; intro w HX) | (refine uA ?_; clear HX; (first | (have hq := b; clear hq; intro w b2 HX) | intro w b HX)))
   go_roundg (xs.length - (i + 1))
   case rel => exact ⟨i + 1, by omega, by go_num, HX.out⟩
   case measure => omega
def yyi' (w0 : World) (r q : Nat) (bad : Bool) (x : List Int × Rd) (P : List PRow) (R : List Thing) (rows : List (Value × Bs)) (e : Ending) (w' : World) : Prop :=
 ∃ v P', e = .returned v ∧ (∀ z ∈ P, z ∈ P') ∧ (1, v, x.1.map ivn) ∈ P' ∧ Sep w0 w' (yd9' r x.2 :: yac' q (.cells #[.pointer (some ⟨r, 0, none⟩), .bool bad] 180 (0, 0)) :: yab' w0 P' :: R) rows
set_option maxRecDepth 100000 in
theorem ynq' {r q : Nat} {bad : Bool} {d : Rd} (h : Sep w0 w (yd9' r d :: yac' q (.cells #[.pointer (some ⟨r, 0, none⟩), .bool bad] 180 (0, 0)) :: R) rows) :
  Calls Tryz.prog 105 #[.pointer (some ⟨q, 0, none⟩)] w fun e w' => e = .returned (.bool ((cntR 1 d).1 == 1)) ∧ Sep w0 w' (yd9' r (cntR 1 d).2 :: yac' q (.cells #[.pointer (some ⟨r, 0, none⟩), .bool bad] 180 (0, 0)) :: R) rows := by
 have HX := Lib.hid h
 clear h
 go_enter Tryz.func105, Tryz.ntmps105
 go_wp2_with (first | refine u0 ?_ | (refine uS ?_; clear HX; intro w HX) | (refine uA ?_; clear HX; (first | (have hq := b; clear hq; intro w b2 HX) | intro w b HX)))
 refine (ycw' HX.out 1 (by omega)).mono ?_
 rintro e w ⟨rfl, hx⟩
 replace HX := Lib.hid hx
 clear hx
 go_wp2_with (first | refine u0 ?_ | (refine uS ?_; clear HX; intro w HX) | (refine uA ?_; clear HX; (first | (have hq := b; clear hq; intro w b2 HX) | intro w b HX)))
 go_ret
 exact ⟨rfl, HX.out⟩
end
end Go.Proofs.YtcnkifbjlihaoaaGreatDoor

namespace Go.Av
open Go.RowKit
section
variable {P : Program} {ops : Array Oper} {Q : Exit → Act → World → Prop} {a : Act} {w w0 : World} {rest : List Oper} {R : List Thing} {rows : List (Value × Bs)} {dst : Option Tmp} {tyy src tt e : TypeId} {pos : String} {aft : Array Edge} {g : Option (Nat × Bool)} {Pl : List PRow}
theorem Sep.conv (h : Sep w0 w (yab' w0 Pl :: R) rows) (e : TypeId) (s : ByteArray) (hs : s.size ≤ maxLen) :
  Sep w0 (Lib.bytesWorld w e s) (yab' w0 ((1, .slice (some ⟨w.heap.size, 0, none⟩) s.size (grownCap w s.size 0 e), s.data.toList.map bv) :: Pl) :: R) rows := by
 have hsz : s.data.toList.length = s.size := Array.length_toList
 refine h.poolRead (E := [w.heap.size]) ?_ (by simp) ?_
 ·refine ⟨_, _, _, rfl, by rw [List.length_map, hsz, Nat.mul_one], grownCap_ge w s.size 0 e, grownCap_le_maxLen w s.size 0 e hs, (fun h => by cases h), .inr ⟨w.heap.size, 0, rfl, rfl, by rw [Lib.bytesWorld_size]; omega, fun i v hv => ?_⟩⟩
  rw [List.getElem?_map] at hv
  obtain ⟨c, hc, rfl⟩ := Option.map_eq_some_iff.1 hv
  have hi := (List.getElem?_eq_some_iff.1 hc).1
  rw [Nat.zero_add, Lib.bytesWorld_cell w e s i (by omega), List.getD, hc]
  rfl
 ·refine ⟨?_, ?_, ?_, by rw [Lib.bytesWorld_size]; omega, fun b hb _ => Lib.bytesWorld_at_old w e s b hb, by simp⟩
  ·rfl
  ·rfl
  ·rfl
theorem yzz' {x : Operand} {s : ByteArray} (H : Hid (Sep w0 w (yab' w0 Pl :: R) rows)) (hs : P.underlying src = some .string) (hd : P.underlying tt = some (.slice e)) (he : P.underlying e = some (.int .u8)) (hx : a.eval x = .string s) (hz : s.size ≤ maxLen)
  (hw : Region.wanted ⟨dst, .convert src tt x, tyy, pos, aft, g⟩ (yielded ops a.tmps) = true)
  (k : ∀ w' b c, Hid (Sep w0 w' (yab' w0 ((1, .slice (some ⟨b, 0, none⟩) s.size c, s.data.toList.map bv) :: Pl) :: R) rows) → wpList P ops Q rest (a.put dst (.slice (some ⟨b, 0, none⟩) s.size c)) w') : wpList P ops Q (⟨dst, .convert src tt x, tyy, pos, aft, g⟩ :: rest) a w := by
 refine ycd' hw ?_ (k _ _ _ (Lib.hid (H.out.conv e s hz)))
 unfold execOp
 dsimp only
 rw [hx]
 exact yct' (Lib.run_convert_string_bytes w src tt e s hs hd he)
theorem yx4' {x : Operand} {v : Value} {l : Bs} (H : Hid (Sep w0 w (yai' 1 v (l.map bv) :: R) rows)) (hs : P.underlying src = some (.slice e)) (he : P.underlying e = some (.int .u8)) (hd : P.underlying tt = some .string) (hx : a.eval x = v)
  (hw : Region.wanted ⟨dst, .convert src tt x, tyy, pos, aft, g⟩ (yielded ops a.tmps) = true)
  (k : wpList P ops Q rest (a.put dst (.string ⟨l.toArray⟩)) w) : wpList P ops Q (⟨dst, .convert src tt x, tyy, pos, aft, g⟩ :: rest) a w := by
 refine ycd' hw ?_ k
 unfold execOp
 dsimp only
 rw [hx]
 obtain ⟨D, hD⟩ := H.out.fst
 obtain ⟨E, hE, -⟩ := OwnRow.read hD
 exact yct' (Go.Av.conv_str hs he hd hE w (fun _ _ => rfl))
end
end Go.Av

namespace Go.Proofs.YtcnkifbjlihaoaaGreatDoor
open Go.RowKit Go.Av
theorem sl_x2 : SliceN Tryz.prog 68 3 1 8 := .of Tryz.underlying68 (by kernel_rfl)
section
variable {w0 w : World} {P P' : List PRow} {R : List Thing} {rows : List (Value × Bs)}
def shR (d : Rd) : List Int × Rd := cntN 3 (cntR 4 d).1.toNat (cntR 4 d).2
def yxn' (w0 : World) (r q : Nat) (bad : Bool) (K : Nat) (d : Rd) (P : List PRow) (R : List Thing) (rows : List (Value × Bs)) (k : Nat) (v3 v9 : Value) (w : World) : Prop :=
 ∃ (i : Nat) (a : Option Addr) (n c : Nat), i + k = K ∧ v3 = .slice a n c ∧ v9 = .int .i64 (i : Int) ∧ Sep w0 w (yd9' r (cntN 3 i d).2 :: yac' q (.cells #[.pointer (some ⟨r, 0, none⟩), .bool bad] 180 (0, 0)) :: yai' 1 (.slice a n c) ((cntN 3 i d).1.map ivn) :: yab' w0 P :: R) rows
set_option maxRecDepth 100000 in
set_option maxHeartbeats 4000000 in
theorem yfh' {r q : Nat} {bad : Bool} {d : Rd} (h : Sep w0 w (yd9' r d :: yac' q (.cells #[.pointer (some ⟨r, 0, none⟩), .bool bad] 180 (0, 0)) :: yab' w0 P :: R) rows) :
  Calls Tryz.prog 104 #[.pointer (some ⟨q, 0, none⟩)] w (yyi' w0 r q bad (shR d) P R rows) := by
 have HX := Lib.hid h
 clear h
 obtain ⟨⟨kk, d1⟩, h1⟩ : ∃ x, cntR 4 d = x := ⟨_, rfl⟩
 have hb := yiz' (most := 4) (by omega) d
 rw [h1] at hb
 dsimp only at hb
 obtain ⟨K, rfl⟩ : ∃ K : Nat, kk = (K : Int) := ⟨kk.toNat, by omega⟩
 have HK := Lib.hid (show K ≤ 4 by omega)
 have HD := Lib.hid (show shR d = cntN 3 K d1 by unfold shR; rw [h1]; dsimp only; rw [Int.toNat_natCast])
 have H1 := Lib.hid h1
 clear hb h1
 go_enter Tryz.func104, Tryz.ntmps104
 go_wp2_with (first | refine u0 ?_ | (refine uS ?_; clear HX; intro w HX) | (refine tWA ?_; clear HX; (first | (have hq := b; clear hq; intro w b2 HX) | intro w b HX); simp only [Act.put, k_a, k_b, k_c]) | (refine uP ?_; clear HX; intro w av nv cv HX))
 refine (ycw' HX.out 4 (by omega)).mono ?_
 rw [H1.out]
 rintro e w ⟨rfl, hx⟩
 replace HX := Lib.hid hx
 clear hx
 go_wp2_with (first | refine u0 ?_ | (refine uS ?_; clear HX; intro w HX) | (refine tWA ?_; clear HX; (first | (have hq := b; clear hq; intro w b2 HX) | intro w b HX); simp only [Act.put, k_a, k_b, k_c]) | (refine uP ?_; clear HX; intro w av nv cv HX))
 have HST := Lib.hid (show yxn' w0 r q bad K d1 P R rows K (.slice none 0 0) (.int .i64 (0 : Int)) w from ⟨0, none, 0, 0, by omega, rfl, rfl, (HX.out.nilRow 1).pm 4 [1, 2, 0, 3] rfl rfl⟩)
 clear HX
 go_loopg [3, 9] K (fun k v3 v9 wr => yxn' w0 r q bad K d1 P R rows k v3 v9 wr)
 case atStart => exact HST.out
 case round =>
  rename World => w
  obtain ⟨i, a, n, c, hik, rfl, rfl, hS⟩ := hrel
  clear HST
  have HX := Lib.hid hS
  clear hS
  by_cases hlt : i < K
  case neg =>
   obtain rfl : i = K := by omega
   have q0 : decide ((i : Int) < (i : Int)) = false := decide_eq_false (by omega)
   have q1 : decide (i < i) = false := decide_eq_false (by omega)
   clear hlt hik
   go_wp2_with (first | refine u0 ?_ | (refine uS ?_; clear HX; intro w HX) | (refine tWA ?_; clear HX; (first | (have hq := b; clear hq; intro w b2 HX) | intro w b HX); simp only [Act.put, k_a, k_b, k_c]) | (refine uP ?_; clear HX; intro w av nv cv HX))
   go_ret
   refine ⟨_, (1, .slice a n c, (cntN 3 i d1).1.map ivn) :: P, rfl, fun z hz => k_n _ hz, by rw [HD.out]; exact k_s, ?_⟩
   rw [HD.out]
   exact (HX.out.pm 4 [2, 3, 0, 1] rfl rfl : Sep w0 _ (yai' 1 (.slice a n c) ((cntN 3 i d1).1.map ivn) :: yab' w0 P :: yd9' r (cntN 3 i d1).2 :: yac' q (.cells #[.pointer (some ⟨r, 0, none⟩), .bool bad] 180 (0, 0)) :: R) rows).poolRow.pm 3 [1, 2, 0] rfl rfl
  case pos =>
   have q0 : decide (i < K) = true := decide_eq_true hlt
   have q1 : decide ((i : Int) < (K : Int)) = true := decide_eq_true (by omega)
   have q9 : i ≤ 4 := by have := HK.out; omega
   have hnx := ymj' 3 i d1
   have hlen := yla' 3 i d1
   obtain ⟨⟨os, dd⟩, hod⟩ : ∃ x, cntN 3 i d1 = x := ⟨_, rfl⟩
   rw [hod] at HX hnx hlen
   dsimp only at HX hnx hlen
   obtain ⟨⟨k1, e1⟩, g1⟩ : ∃ x, cntR 3 dd = x := ⟨_, rfl⟩
   rw [g1] at hnx
   have HNX := Lib.hid hnx
   have HG := Lib.hid g1
   have HBD := Lib.hid (show ∀ n, (os.map ivn).length = n * 1 → n + 1 ≤ 140737488355328 ∧ (n + 1) * 8 ≤ 140737488355328 from fun n hn => by rw [List.length_map, hlen] at hn; omega)
   clear hnx g1 hod hlen
   go_wp2_with (first | refine u0 ?_ | (refine uS ?_; clear HX; intro w HX) | (refine tWA ?_; clear HX; (first | (have hq := b; clear hq; intro w b2 HX) | intro w b HX); simp only [Act.put, k_a, k_b, k_c]) | (refine uP ?_; clear HX; intro w av nv cv HX))
   refine (ycw' HX.out 3 (by omega)).mono ?_
   rw [HG.out]
   rintro e w ⟨rfl, hx⟩
   replace HX := Lib.hid hx
   clear hx
   go_wp2_with (first | refine u0 ?_ | (refine uS ?_; clear HX; intro w HX) | (refine tWA ?_; clear HX; (first | (have hq := b; clear hq; intro w b2 HX) | intro w b HX); simp only [Act.put, k_a, k_b, k_c]) | (refine uP ?_; clear HX; intro w av nv cv HX))
   go_roundg (K - (i + 1))
   case rel => exact ⟨i + 1, av, nv, cv, by omega, rfl, by go_num, by rw [HNX.out]; dsimp only; rw [List.map_append]; exact HX.out.pm 5 [2, 3, 0, 4] rfl rfl⟩
   case measure => omega
def yc3' (t : Bs) : Int × Int × List OpS := (getR t).getD (0, 0, [])
def yix' (w0 : World) (r q : Nat) (bad : Bool) (d : Rd) (P : List PRow) (R : List Thing) (rows : List (Value × Bs)) (e : Ending) (w' : World) : Prop :=
 ∃ v P', e = .returned (.agg #[.int .i64 (yc3' (ybq' 40000 d).1).1, .int .i64 (yc3' (ybq' 40000 d).1).2.1, v]) ∧ (∀ z ∈ P, z ∈ P') ∧ (5, v, (yc3' (ybq' 40000 d).1).2.2.flatMap OpS.cells) ∈ P' ∧
  Sep w0 w' (yd9' r (ybq' 40000 d).2 :: yac' q (.cells #[.pointer (some ⟨r, 0, none⟩), .bool (bad || (getR (ybq' 40000 d).1).isNone)] 180 (0, 0)) :: yab' w0 P' :: R) rows
set_option maxRecDepth 100000 in
set_option maxHeartbeats 4000000 in
theorem yko' {r q : Nat} {bad : Bool} {d : Rd} (h : Sep w0 w (yd9' r d :: yac' q (.cells #[.pointer (some ⟨r, 0, none⟩), .bool bad] 180 (0, 0)) :: yab' w0 P :: R) rows) (hd : DoorN w0) :
  Calls Tryz.prog 103 #[.pointer (some ⟨q, 0, none⟩)] w (yix' w0 r q bad d P R rows) := by
 have HX := Lib.hid h
 clear h
 obtain ⟨⟨t, d1⟩, h1⟩ : ∃ x, ybq' 40000 d = x := ⟨_, rfl⟩
 have htl := yn8' 40000 d (by omega)
 rw [h1] at htl
 dsimp only at htl
 have H1 := Lib.hid (show _ ∧ _ from ⟨h1, htl⟩)
 clear h1 htl
 go_enter Tryz.func103, Tryz.ntmps103
 go_wp2_with (first | refine u0 ?_ | (refine uS ?_; clear HX; intro w HX) | (refine tWA ?_; clear HX; (first | (have hq := b; clear hq; intro w b2 HX) | intro w b HX); simp only [Act.put, k_a, k_b, k_c]))
 refine (ygd' HX.out.up1 40000 (by omega)).mono ?_
 rw [H1.out.1]
 rintro e w ⟨rfl, hx⟩
 replace HX := Lib.hid hx
 clear hx
 unfold sv
 have hz : (⟨t.toArray⟩ : ByteArray).size ≤ maxLen := by
  have h2 := H1.out.2
  have : (⟨t.toArray⟩ : ByteArray).size = t.length := by show t.toArray.size = _; simp
  unfold maxLen
  omega
 go_wp2_with (first | refine u0 ?_ | (refine uS ?_; clear HX; intro w HX) | (refine tWA ?_; clear HX; (first | (have hq := b; clear hq; intro w b2 HX) | intro w b HX); simp only [Act.put, k_a, k_b, k_c]) | (refine yzz' (Lib.hid HX.out.up3) Tryz.underlying9 Tryz.underlying71 Tryz.underlying5 rfl hz rfl ?_; clear HX; intro w b9 c9 HX; simp only [Act.put, k_a, k_b, k_c]))
 refine (ytt' HX.out hd _ t k_s (by have := H1.out.2; omega)).mono ?_
 obtain ⟨o, ho⟩ : ∃ o, getR t = o := ⟨_, rfl⟩
 rw [ho]
 rintro e w ⟨vs, P', rfl, hP', hvs, hx⟩
 have HO := Lib.hid (show _ ∧ (∀ z ∈ P, z ∈ P') ∧ _ from ⟨ho, fun z hz => hP' z (k_n _ hz), hvs⟩)
 replace HX := Lib.hid hx
 clear hx
 clear ho hP' hvs hz
 obtain ⟨va, vn, vc, rfl⟩ : ∃ va vn vc, vs = .slice va vn vc := by
  obtain ⟨E, hE⟩ := HX.out.poolGet HO.out.2.2
  obtain ⟨a, n, c, e, -⟩ := hE
  exact ⟨a, n, c, e⟩
 have e3 : (ybq' 40000 d).2 = d1 := by rw [H1.out.1]
 have e1 : yc3' (ybq' 40000 d).1 = o.getD (0, 0, []) := by rw [H1.out.1]; unfold yc3'; dsimp only; rw [HO.out.1]
 have e2 : (getR (ybq' 40000 d).1).isNone = o.isNone := by rw [H1.out.1]; dsimp only; rw [HO.out.1]
 have HE := Lib.hid (show _ ∧ _ ∧ _ from ⟨e1, e2, e3⟩)
 clear e1 e2 e3
 cases o with
 | none =>
  cases bad with
  | true =>
   dsimp only [Option.getD, Option.isSome] at HX HO ⊢
   go_wp2_with (first | refine u0 ?_ | (refine uS ?_; clear HX; intro w HX) | (refine tWA ?_; clear HX; (first | (have hq := b; clear hq; intro w b2 HX) | intro w b HX); simp only [Act.put, k_a, k_b, k_c]))
   refine ybe' HX rfl rfl (by (repeat (first | (with_reducible exact k_s) | (with_reducible apply k_m)))) (by kernel_rfl) ?_
   unfold yix'
   rw [HE.out.1, HE.out.2.1, HE.out.2.2]
   exact ⟨.slice va vn vc, P', rfl, HO.out.2.1, HO.out.2.2, HX.out.pm 5 [2, 4, 1] rfl rfl⟩
  | false =>
   dsimp only [Option.getD, Option.isSome] at HX HO ⊢
   go_wp2_with (first | refine u0 ?_ | (refine uS ?_; clear HX; intro w HX) | (refine tWA ?_; clear HX; (first | (have hq := b; clear hq; intro w b2 HX) | intro w b HX); simp only [Act.put, k_a, k_b, k_c]))
   refine ybe' HX rfl rfl (by (repeat (first | (with_reducible exact k_s) | (with_reducible apply k_m)))) (by kernel_rfl) ?_
   unfold yix'
   rw [HE.out.1, HE.out.2.1, HE.out.2.2]
   exact ⟨.slice va vn vc, P', rfl, HO.out.2.1, HO.out.2.2, HX.out.pm 5 [2, 4, 1] rfl rfl⟩
 | some o =>
  obtain ⟨os, on, ol⟩ := o
  cases bad with
  | true =>
   dsimp only [Option.getD, Option.isSome] at HX HO ⊢
   go_wp2_with (first | refine u0 ?_ | (refine uS ?_; clear HX; intro w HX) | (refine tWA ?_; clear HX; (first | (have hq := b; clear hq; intro w b2 HX) | intro w b HX); simp only [Act.put, k_a, k_b, k_c]))
   refine ybe' HX rfl rfl (by (repeat (first | (with_reducible exact k_s) | (with_reducible apply k_m)))) (by kernel_rfl) ?_
   unfold yix'
   rw [HE.out.1, HE.out.2.1, HE.out.2.2]
   exact ⟨.slice va vn vc, P', rfl, HO.out.2.1, HO.out.2.2, HX.out.pm 5 [2, 4, 1] rfl rfl⟩
  | false =>
   dsimp only [Option.getD, Option.isSome] at HX HO ⊢
   go_wp2_with (first | refine u0 ?_ | (refine uS ?_; clear HX; intro w HX) | (refine tWA ?_; clear HX; (first | (have hq := b; clear hq; intro w b2 HX) | intro w b HX); simp only [Act.put, k_a, k_b, k_c]))
   refine ybe' HX rfl rfl (by (repeat (first | (with_reducible exact k_s) | (with_reducible apply k_m)))) (by kernel_rfl) ?_
   unfold yix'
   rw [HE.out.1, HE.out.2.1, HE.out.2.2]
   exact ⟨.slice va vn vc, P', rfl, HO.out.2.1, HO.out.2.2, HX.out.pm 5 [2, 4, 1] rfl rfl⟩
end
end Go.Proofs.YtcnkifbjlihaoaaGreatDoor

namespace Go.Av
def LexK (K : Nat → Int) (x y : Nat) : Prop := K x < K y ∨ K x = K y ∧ x < y
def SortF (K : Nat → Int) (σ : Nat → Nat) (a b : Nat) : Prop := ∀ i j, a ≤ i → i < j → j < b → LexK K (σ i) (σ j)
def yh5' (σ : Nat → Nat) (i j k : Nat) : Nat := if k = i then σ j else if k = j then σ i else σ k
structure PermF (a b : Nat) (σ σ' : Nat → Nat) : Prop where
 out : ∀ i, i < a ∨ b ≤ i → σ' i = σ i
 into : ∀ i, a ≤ i → i < b → ∃ j, a ≤ j ∧ j < b ∧ σ' i = σ j
 all : ∀ n, b ≤ n → ((List.range n).map σ').Perm ((List.range n).map σ)
theorem LexK.trans {K : Nat → Int} {x y z : Nat} (h1 : LexK K x y) (h2 : LexK K y z) : LexK K x z := by
 unfold LexK at *
 omega
theorem PermF.refl (a b : Nat) (σ : Nat → Nat) : PermF a b σ σ := ⟨fun _ _ => rfl, fun i h1 h2 => ⟨i, h1, h2, rfl⟩, fun _ _ => .refl _⟩
theorem PermF.trans {a b : Nat} {σ σ1 σ2 : Nat → Nat} (h : PermF a b σ σ1) (h' : PermF a b σ1 σ2) : PermF a b σ σ2 :=
 ⟨fun i hi => (h'.out i hi).trans (h.out i hi), fun i h1 h2 => by
  obtain ⟨j, h3, h4, h5⟩ := h'.into i h1 h2
  obtain ⟨k, h6, h7, h8⟩ := h.into j h3 h4
  exact ⟨k, h6, h7, h5.trans h8⟩, fun n hn => (h'.all n hn).trans (h.all n hn)⟩
theorem PermF.wide {a b c d : Nat} {σ σ' : Nat → Nat} (h : PermF a b σ σ') (h1 : c ≤ a) (h2 : b ≤ d) : PermF c d σ σ' :=
 ⟨fun i hi => h.out i (by omega), fun i h3 h4 => by
  by_cases hi : a ≤ i ∧ i < b
  ·obtain ⟨j, h5, h6, h7⟩ := h.into i hi.1 hi.2
   exact ⟨j, by omega, by omega, h7⟩
  ·exact ⟨i, h3, h4, h.out i (by omega)⟩, fun n hn => h.all n (by omega)⟩
theorem yrw' (σ : Nat → Nat) (n i j : Nat) :
  (List.range n).map (yh5' σ i j) = (((List.range n).map σ).set i (σ j)).set j (σ i) := by
 apply List.ext_getElem
 ·simp
 ·intro k h1 h2
  simp only [List.getElem_map, List.getElem_range, List.getElem_set, yh5']
  repeat' split
  all_goals first | rfl | (exfalso; omega) | (congr 1; omega)
theorem PermF.swap (σ : Nat → Nat) {a b i j : Nat} (hi : a ≤ i ∧ i < b) (hj : a ≤ j ∧ j < b) : PermF a b σ (yh5' σ i j) :=
 ⟨fun k hk => by unfold yh5'; rw [if_neg (by omega), if_neg (by omega)], fun k h1 h2 => by
  unfold yh5'
  by_cases h3 : k = i
  ·exact ⟨j, hj.1, hj.2, by rw [if_pos h3]⟩
  ·by_cases h4 : k = j
   ·exact ⟨i, hi.1, hi.2, by rw [if_neg h3, if_pos h4]⟩
   ·exact ⟨k, h1, h2, by rw [if_neg h3, if_neg h4]⟩, fun n hn => by
  rw [yrw' σ n i j]
  have h1 := @List.set_set_perm _ ((List.range n).map σ) i j (by simp; omega) (by simp; omega)
  simpa using h1⟩
def yf2' (σ : Nat → Nat) (a b n k : Nat) : Nat := if a ≤ k ∧ k < a + n then σ (k - a + b) else if b ≤ k ∧ k < b + n then σ (k - b + a) else σ k
theorem ykz' (σ : Nat → Nat) (a b : Nat) : yf2' σ a b 0 = σ := by
 funext k
 unfold yf2'
 repeat' split
 all_goals first | rfl | (exfalso; omega) | (congr 1; omega)
theorem yky' (σ : Nat → Nat) {a b n i : Nat} (h : a + n ≤ b) (hi : i < n) : yh5' (yf2' σ a b i) (a + i) (b + i) = yf2' σ a b (i + 1) := by
 funext k
 unfold yh5' yf2'
 repeat' split
 all_goals first | rfl | (exfalso; omega) | (congr 1; omega)
theorem yh6' (σ : Nat → Nat) {a b n lo hi : Nat} (h : a + n ≤ b) (h1 : lo ≤ a) (h2 : b + n ≤ hi) : PermF lo hi σ (yf2' σ a b n) := by
 have : ∀ i, i ≤ n → PermF lo hi σ (yf2' σ a b i) := by
  intro i
  induction i with
  | zero => intro _; rw [ykz']; exact .refl _ _ _
  | succ i ih =>
   intro hi'
   rw [← yky' σ h (by omega)]
   exact (ih (by omega)).trans (.swap _ (by omega) (by omega))
 exact this n (Nat.le_refl _)
def rotF (σ : Nat → Nat) (a m b k : Nat) : Nat := if a ≤ k ∧ k < a + (b - m) then σ (k - a + m) else if a + (b - m) ≤ k ∧ k < b then σ (k - (b - m)) else σ k
theorem ynv' (σ : Nat → Nat) {m i : Nat} (h : i ≤ m) : yf2' σ (m - i) m i = rotF σ (m - i) m (m + i) := by
 funext k
 unfold yf2' rotF
 repeat' split
 all_goals first | rfl | (exfalso; omega) | (congr 1; omega)
theorem ynu' (σ : Nat → Nat) {m i j : Nat} (h : i ≤ m) (h2 : j < i) : rotF (yf2' σ (m - i) m j) (m - (i - j)) m (m + j) = rotF σ (m - i) m (m + j) := by
 funext k
 unfold rotF yf2'
 repeat' split
 all_goals first | rfl | (exfalso; omega) | (congr 1; omega)
theorem ykp' (σ : Nat → Nat) {m i j : Nat} (h : i ≤ m) (h2 : i < j) : rotF (yf2' σ (m - i) (m + j - i) i) (m - i) m (m + (j - i)) = rotF σ (m - i) m (m + j) := by
 funext k
 unfold rotF yf2'
 repeat' split
 all_goals first | rfl | (exfalso; omega) | (congr 1; omega)
theorem yhx' (σ : Nat → Nat) {m b : Nat} (h : m ≤ b) : rotF σ m m b = σ := by
 funext k
 unfold rotF
 repeat' split
 all_goals first | rfl | (exfalso; omega) | (congr 1; omega)
theorem yhy' (σ : Nat → Nat) (a m : Nat) : rotF σ a m m = σ := by
 funext k
 unfold rotF
 repeat' split
 all_goals first | rfl | (exfalso; omega) | (congr 1; omega)
def movU (σ : Nat → Nat) (a k j : Nat) : Nat := if a ≤ j ∧ j < k then σ (j + 1) else if j = k then σ a else σ j
def movD (σ : Nat → Nat) (m k j : Nat) : Nat := if k < j ∧ j ≤ m then σ (j - 1) else if j = k then σ m else σ j
theorem ync' (σ : Nat → Nat) (a : Nat) : movU σ a a = σ := by
 funext k
 unfold movU
 repeat' split
 all_goals first | rfl | (exfalso; omega) | (congr 1; omega)
theorem ygz' (σ : Nat → Nat) (m : Nat) : movD σ m m = σ := by
 funext k
 unfold movD
 repeat' split
 all_goals first | rfl | (exfalso; omega) | (congr 1; omega)
theorem ynb' (σ : Nat → Nat) {a k : Nat} (h : a ≤ k) : yh5' (movU σ a k) k (k + 1) = movU σ a (k + 1) := by
 funext k
 unfold yh5' movU
 repeat' split
 all_goals first | rfl | (exfalso; omega) | (congr 1; omega)
theorem yjg' (σ : Nat → Nat) {m k : Nat} (h : k + 1 ≤ m) : yh5' (movD σ m (k + 1)) (k + 1) k = movD σ m k := by
 funext k
 unfold yh5' movD
 repeat' split
 all_goals first | rfl | (exfalso; omega) | (congr 1; omega)
theorem ytm' (σ : Nat → Nat) {a k lo hi : Nat} (h : a ≤ k) (h1 : lo ≤ a) (h2 : k < hi) : PermF lo hi σ (movU σ a k) := by
 obtain ⟨d, rfl⟩ : ∃ d, k = a + d := ⟨k - a, by omega⟩
 induction d with
 | zero => rw [Nat.add_zero, ync']; exact .refl _ _ _
 | succ d ih =>
  rw [← Nat.add_assoc, ← ynb' σ (by omega : a ≤ a + d)]
  exact (ih (by omega) (by omega)).trans (.swap _ (by omega) (by omega))
theorem yjf' (σ : Nat → Nat) {m k lo hi : Nat} (h : k ≤ m) (h1 : lo ≤ k) (h2 : m < hi) : PermF lo hi σ (movD σ m k) := by
 obtain ⟨d, rfl⟩ : ∃ d, m = k + d := ⟨m - k, by omega⟩
 suffices ∀ e, e ≤ d → PermF lo hi σ (movD σ (k + d) (k + d - e)) by
  have := this d (Nat.le_refl _)
  rwa [show k + d - d = k by omega] at this
 intro e
 induction e with
 | zero => intro _; rw [Nat.sub_zero, ygz']; exact .refl _ _ _
 | succ e ih =>
  intro he
  have hs := yjg' σ (m := k + d) (k := k + d - (e + 1)) (by omega)
  rw [show k + d - (e + 1) + 1 = k + d - e by omega] at hs
  rw [← hs]
  exact (ih (by omega)).trans (.swap _ (by omega) (by omega))
theorem yjl' : ∀ (f : Nat) (σ : Nat → Nat) (m i j lo hi : Nat), i + j ≤ f → 0 < i → 0 < j → i ≤ m → lo ≤ m - i → m + j ≤ hi → PermF lo hi σ (rotF σ (m - i) m (m + j))
 | 0, _, _, i, j, _, _, h, h1, h2, _, _, _ => by omega
 | f + 1, σ, m, i, j, lo, hi, h, h1, h2, h3, h4, h5 => by
  rcases Nat.lt_trichotomy i j with h6 | h6 | h6
  ·rw [← ykp' σ h3 h6]
   exact (yh6' σ (a := m - i) (b := m + j - i) (n := i) (by omega) h4 (by omega)).trans (yjl' f _ m i (j - i) lo hi (by omega) h1 (by omega) h3 h4 (by omega))
  ·subst h6
   rw [← ynv' σ h3]
   exact yh6' σ (by omega) h4 h5
  ·rw [← ynu' σ h3 h6]
   exact (yh6' σ (a := m - i) (b := m) (n := j) (by omega) h4 h5).trans (yjl' f _ m (i - j) j lo hi (by omega) (by omega) h2 (by omega) (by omega) h5)
structure MergIn (K : Nat → Int) (σ : Nat → Nat) (a m b : Nat) : Prop where
 am : a < m
 mb : m < b
 left : SortF K σ a m
 right : SortF K σ m b
 tags : ∀ i j, a ≤ i → i < m → m ≤ j → j < b → σ i < σ j
def ybk' (K : Nat → Int) (σ σ' : Nat → Nat) (a b : Nat) : Prop := PermF a b σ σ' ∧ SortF K σ' a b
theorem ytl' {K : Nat → Int} {σ : Nat → Nat} {a b i : Nat} (h : MergIn K σ a (a + 1) b) (h1 : a + 1 ≤ i) (h2 : i ≤ b) (h3 : ∀ x, a + 1 ≤ x → x < i → K (σ x) < K (σ a)) (h4 : ∀ x, i ≤ x → x < b → K (σ a) ≤ K (σ x)) :
  ybk' K σ (movU σ a (i - 1)) a b := by
 refine ⟨ytm' σ (by omega) (Nat.le_refl _) (by omega), fun x y h5 h6 h7 => ?_⟩
 have ht := h.tags
 have hr := h.right
 unfold movU
 by_cases hx : x < i - 1
 ·rw [if_pos (by omega)]
  by_cases hy : y < i - 1
  ·rw [if_pos (by omega)]; exact hr _ _ (by omega) (by omega) (by omega)
  ·rw [if_neg (by omega)]
   by_cases hy2 : y = i - 1
   ·rw [if_pos hy2]; exact .inl (h3 _ (by omega) (by omega))
   ·rw [if_neg hy2]; exact hr _ _ (by omega) (by omega) (by omega)
 ·rw [if_neg (by omega), if_neg (c := a ≤ y ∧ y < i - 1) (by omega), if_neg (c := y = i - 1) (by omega)]
  by_cases hx2 : x = i - 1
  ·rw [if_pos hx2]
   have h8 := h4 y (by omega) h7
   have h9 := ht a y (by omega) (by omega) (by omega) h7
   unfold LexK; omega
  ·rw [if_neg hx2]; exact hr _ _ (by omega) h6 h7
theorem ym9' {K : Nat → Int} {σ : Nat → Nat} {a m i : Nat} (h : MergIn K σ a m (m + 1)) (h1 : a ≤ i) (h2 : i ≤ m) (h3 : ∀ x, a ≤ x → x < i → K (σ x) ≤ K (σ m)) (h4 : ∀ x, i ≤ x → x < m → K (σ m) < K (σ x)) :
  ybk' K σ (movD σ m i) a (m + 1) := by
 refine ⟨yjf' σ h2 h1 (by omega), fun x y h5 h6 h7 => ?_⟩
 have ht := h.tags
 have hr := h.left
 unfold movD
 by_cases hx : x < i
 ·rw [if_neg (by omega), if_neg (c := x = i) (by omega)]
  by_cases hy : i < y
  ·rw [if_pos (by omega)]; exact hr _ _ (by omega) (by omega) (by omega)
  ·rw [if_neg (by omega)]
   by_cases hy2 : y = i
   ·rw [if_pos hy2]
    have h8 := h3 x h5 hx
    have h9 := ht x m h5 (by omega) (by omega) (by omega)
    unfold LexK; omega
   ·rw [if_neg hy2]; exact hr _ _ (by omega) (by omega) (by omega)
 ·rw [if_pos (c := i < y ∧ y ≤ m) (by omega)]
  by_cases hx2 : x = i
  ·rw [if_neg (by omega), if_pos hx2]; exact .inl (h4 _ (by omega) (by omega))
  ·rw [if_pos (by omega)]; exact hr _ _ (by omega) (by omega) (by omega)
structure CutOk (K : Nat → Int) (σ : Nat → Nat) (a m b mid s e : Nat) : Prop where
 as_ : a ≤ s
 sm : s ≤ m
 smid : s ≤ mid
 me : m ≤ e
 eb : e ≤ b
 mide : mid ≤ e
 amid : a < mid
 midb : mid < b
 sum : s + e = mid + m
 cross1 : ∀ i j, a ≤ i → i < s → e ≤ j → j < b → K (σ i) ≤ K (σ j)
 cross2 : ∀ i j, s ≤ i → i < m → m ≤ j → j < e → K (σ j) < K (σ i)
theorem SortF.le {K : Nat → Int} {σ : Nat → Nat} {a b i j : Nat} (h : SortF K σ a b) (h1 : a ≤ i) (h2 : i ≤ j) (h3 : j < b) : K (σ i) ≤ K (σ j) := by
 rcases Nat.lt_or_ge i j with h4 | h4
 ·have := h i j h1 h4 h3
  unfold LexK at this
  omega
 ·obtain rfl : i = j := by omega
  exact Int.le_refl _
theorem yxr' {K : Nat → Int} {σ : Nat → Nat} {a m b mid s s0 r0 : Nat} (h : MergIn K σ a m b) (hmid : mid = (a + b) / 2) (h0 : m > mid → s0 + b = mid + m ∧ r0 = mid) (h0' : ¬ m > mid → s0 = a ∧ r0 = m) (h1 : s0 ≤ s) (h2 : s ≤ r0)
  (h3 : ∀ c, s0 ≤ c → c < s → K (σ c) ≤ K (σ (mid + m - 1 - c))) (h4 : ∀ c, s ≤ c → c < r0 → K (σ (mid + m - 1 - c)) < K (σ c)) (h5 : a + 2 ≤ b) : CutOk K σ a m b mid s (mid + m - s) := by
 have ham := h.am
 have hmb := h.mb
 have hl := h.left
 have hr := h.right
 by_cases hm : m > mid
 ·obtain ⟨e1, e2⟩ := h0 hm
  refine ⟨by omega, by omega, by omega, by omega, by omega, by omega, by omega, by omega, by omega, fun i j g1 g2 g3 g4 => ?_, fun i j g1 g2 g3 g4 => ?_⟩
  ·have k1 := h3 (s - 1) (by omega) (by omega)
   have k2 := hl.le (i := i) (j := s - 1) g1 (by omega) (by omega)
   have k3 := hr.le (i := mid + m - 1 - (s - 1)) (j := j) (by omega) (by omega) g4
   omega
  ·have k1 := h4 s (by omega) (by omega)
   have k2 := hl.le (i := s) (j := i) (by omega) (by omega) g2
   have k3 := hr.le (i := j) (j := mid + m - 1 - s) g3 (by omega) (by omega)
   omega
 ·obtain ⟨e1, e2⟩ := h0' hm
  refine ⟨by omega, by omega, by omega, by omega, by omega, by omega, by omega, by omega, by omega, fun i j g1 g2 g3 g4 => ?_, fun i j g1 g2 g3 g4 => ?_⟩
  ·have k1 := h3 (s - 1) (by omega) (by omega)
   have k2 := hl.le (i := i) (j := s - 1) g1 (by omega) (by omega)
   have k3 := hr.le (i := mid + m - 1 - (s - 1)) (j := j) (by omega) (by omega) g4
   omega
  ·have k1 := h4 s (by omega) (by omega)
   have k2 := hl.le (i := s) (j := i) (by omega) (by omega) g2
   have k3 := hr.le (i := j) (j := mid + m - 1 - s) g3 (by omega) (by omega)
   omega
section
variable {K : Nat → Int} {σ σ2 σ3 : Nat → Nat} {a m b mid s e : Nat}
theorem CutOk.rot (h : MergIn K σ a m b) (c : CutOk K σ a m b mid s e) : PermF a b σ (rotF σ s m e) := by
 have := c.as_; have := c.sm; have := c.me; have := c.eb
 by_cases h1 : s = m
 ·subst h1; rw [yhx' σ c.me]; exact .refl _ _ _
 ·by_cases h2 : m = e
  ·subst h2; rw [yhy' σ s m]; exact .refl _ _ _
  ·have := yjl' (m - s + (e - m)) σ m (m - s) (e - m) a b (Nat.le_refl _) (by omega) (by omega) (by omega) (by omega) (by omega)
   rwa [show m - (m - s) = s by omega, show m + (e - m) = e by omega] at this
theorem CutOk.rot_at (c : CutOk K σ a m b mid s e) (k : Nat) : rotF σ s m e k = if s ≤ k ∧ k < mid then σ (k - s + m) else if mid ≤ k ∧ k < e then σ (k - mid + s) else σ k := by
 have := c.sum; have := c.smid; have := c.me; have := c.sm
 unfold rotF
 rw [show s + (e - m) = mid by omega]
 split
 ·rfl
 ·split
  ·congr 1; omega
  ·rfl
theorem CutOk.in1 (h : MergIn K σ a m b) (c : CutOk K σ a m b mid s e) (h1 : a < s) (h2 : s < mid) : MergIn K (rotF σ s m e) a s mid := by
 have := c.sum; have := c.eb; have := c.me; have := c.sm; have := c.mide
 refine ⟨h1, h2, fun i j g1 g2 g3 => ?_, fun i j g1 g2 g3 => ?_, fun i j g1 g2 g3 g4 => ?_⟩
 ·rw [c.rot_at, c.rot_at, if_neg (by omega), if_neg (by omega), if_neg (by omega), if_neg (by omega)]
  exact h.left _ _ g1 g2 (by omega)
 ·rw [c.rot_at, c.rot_at, if_pos (by omega), if_pos (by omega)]
  exact h.right _ _ (by omega) (by omega) (by omega)
 ·rw [c.rot_at, c.rot_at, if_neg (by omega), if_neg (by omega), if_pos (by omega)]
  exact h.tags _ _ g1 (by omega) (by omega) (by omega)
theorem CutOk.in2 (h : MergIn K σ a m b) (c : CutOk K σ a m b mid s e) (hp : PermF a mid (rotF σ s m e) σ2) (h1 : mid < e) (h2 : e < b) : MergIn K σ2 mid e b := by
 have := c.sum; have := c.eb; have := c.me; have := c.sm; have := c.smid; have := c.as_
 refine ⟨h1, h2, fun i j g1 g2 g3 => ?_, fun i j g1 g2 g3 => ?_, fun i j g1 g2 g3 g4 => ?_⟩
 ·rw [hp.out _ (.inr g1), hp.out _ (.inr (by omega)), c.rot_at, c.rot_at, if_neg (by omega), if_neg (c := s ≤ j ∧ j < mid) (by omega), if_pos (by omega), if_pos (by omega)]
  exact h.left _ _ (by omega) (by omega) (by omega)
 ·rw [hp.out _ (.inr (by omega)), hp.out _ (.inr (by omega)), c.rot_at, c.rot_at, if_neg (by omega), if_neg (by omega), if_neg (c := s ≤ j ∧ j < mid) (by omega), if_neg (c := mid ≤ j ∧ j < e) (by omega)]
  exact h.right _ _ (by omega) g2 g3
 ·rw [hp.out _ (.inr g1), hp.out _ (.inr (by omega)), c.rot_at, c.rot_at, if_neg (by omega), if_pos (by omega), if_neg (c := s ≤ j ∧ j < mid) (by omega), if_neg (c := mid ≤ j ∧ j < e) (by omega)]
  exact h.tags _ _ (by omega) (by omega) (by omega) g4
theorem CutOk.done (h : MergIn K σ a m b) (c : CutOk K σ a m b mid s e) (h1 : a < s ∧ s < mid → ybk' K (rotF σ s m e) σ2 a mid) (h1' : ¬ (a < s ∧ s < mid) → σ2 = rotF σ s m e)
  (h2 : mid < e ∧ e < b → ybk' K σ2 σ3 mid b) (h2' : ¬ (mid < e ∧ e < b) → σ3 = σ2) : ybk' K σ σ3 a b := by
 have q1 := c.sum; have q2 := c.eb; have q3 := c.me; have q4 := c.sm; have q5 := c.smid; have q6 := c.as_; have q7 := c.mide; have q8 := c.amid; have q9 := c.midb
 have p1 : PermF a mid (rotF σ s m e) σ2 := by
  by_cases hh : a < s ∧ s < mid
  ·exact (h1 hh).1
  ·rw [h1' hh]; exact .refl _ _ _
 have p2 : PermF mid b σ2 σ3 := by
  by_cases hh : mid < e ∧ e < b
  ·exact (h2 hh).1
  ·rw [h2' hh]; exact .refl _ _ _
 have s1 : SortF K σ2 a mid := by
  by_cases hh : a < s ∧ s < mid
  ·exact (h1 hh).2
  ·rw [h1' hh]
   intro i j g1 g2 g3
   rw [c.rot_at, c.rot_at]
   by_cases k1 : s = mid
   ·rw [if_neg (by omega), if_neg (by omega), if_neg (by omega), if_neg (by omega)]
    exact h.left _ _ g1 g2 (by omega)
   ·rw [if_pos (by omega), if_pos (by omega)]
    exact h.right _ _ (by omega) (by omega) (by omega)
 have s2 : SortF K σ3 mid b := by
  by_cases hh : mid < e ∧ e < b
  ·exact (h2 hh).2
  ·rw [h2' hh]
   intro i j g1 g2 g3
   rw [p1.out _ (.inr g1), p1.out _ (.inr (by omega)), c.rot_at, c.rot_at, if_neg (by omega), if_neg (c := s ≤ j ∧ j < mid) (by omega)]
   by_cases k1 : mid = e
   ·rw [if_neg (by omega), if_neg (by omega)]
    exact h.right _ _ (by omega) g2 g3
   ·rw [if_pos (by omega), if_pos (by omega)]
    exact h.left _ _ (by omega) (by omega) (by omega)
 have cr : ∀ i j, a ≤ i → i < mid → mid ≤ j → j < b → LexK K (rotF σ s m e i) (rotF σ s m e j) := by
  intro i j g1 g2 g3 g4
  rw [c.rot_at, c.rot_at, if_neg (c := s ≤ j ∧ j < mid) (by omega)]
  by_cases k1 : i < s
  ·rw [if_neg (by omega), if_neg (by omega)]
   by_cases k2 : j < e
   ·rw [if_pos (by omega)]; exact h.left _ _ g1 (by omega) (by omega)
   ·rw [if_neg (by omega)]
    have z1 := c.cross1 i j g1 k1 (by omega) g4
    have z2 := h.tags i j g1 (by omega) (by omega) g4
    unfold LexK; omega
  ·rw [if_pos (by omega)]
   by_cases k2 : j < e
   ·rw [if_pos (by omega)]; exact .inl (c.cross2 _ _ (by omega) (by omega) (by omega) (by omega))
   ·rw [if_neg (by omega)]; exact h.right _ _ (by omega) (by omega) g4
 refine ⟨((CutOk.rot h c).trans (p1.wide (Nat.le_refl _) (by omega))).trans (p2.wide (by omega) (Nat.le_refl _)), fun i j g1 g2 g3 => ?_⟩
 by_cases k1 : j < mid
 ·rw [p2.out _ (.inl (by omega)), p2.out _ (.inl k1)]; exact s1 _ _ g1 g2 k1
 ·by_cases k2 : mid ≤ i
  ·exact s2 _ _ k2 g2 g3
  ·obtain ⟨i', e1, e2, e3⟩ := p1.into i g1 (by omega)
   obtain ⟨j', e4, e5, e6⟩ := p2.into j (by omega) g3
   rw [p2.out _ (.inl (by omega)), e3, e6, p1.out _ (.inr e4)]
   exact cr _ _ e1 e2 e4 e5
end
structure InBlk (K : Nat → Int) (σ : Nat → Nat) (a b : Nat) : Prop where
 sort : SortF K σ a b
 own : ∀ i, a ≤ i → i < b → a ≤ σ i ∧ σ i < b
theorem InBlk.join {K : Nat → Int} {σ σ' : Nat → Nat} {a m b : Nat} (ham : a ≤ m) (hmb : m ≤ b) (h2 : InBlk K σ a m) (h3 : InBlk K σ m b) (h4 : ybk' K σ σ' a b) : InBlk K σ' a b :=
 ⟨h4.2, fun i g1 g2 => by
  obtain ⟨j, e1, e2, e3⟩ := h4.1.into i g1 g2
  rw [e3]
  by_cases hj : j < m
  ·have := h2.own j e1 hj
   omega
  ·have := h3.own j (by omega) e2
   omega⟩
theorem InBlk.merg {K : Nat → Int} {σ : Nat → Nat} {a m b : Nat} (h : InBlk K σ a m) (h' : InBlk K σ m b) (h1 : a < m) (h2 : m < b) : MergIn K σ a m b :=
 ⟨h1, h2, h.sort, h'.sort, fun i j g1 g2 g3 g4 => by have := h.own i g1 g2; have := h'.own j g3 g4; omega⟩
theorem InBlk.keep {K : Nat → Int} {σ σ' : Nat → Nat} {a b c d : Nat} (h : InBlk K σ a b) (hp : PermF c d σ σ') (hd : b ≤ c ∨ d ≤ a) : InBlk K σ' a b :=
 ⟨fun i j g1 g2 g3 => by rw [hp.out i (by omega), hp.out j (by omega)]; exact h.sort i j g1 g2 g3, fun i g1 g2 => by rw [hp.out i (by omega)]; exact h.own i g1 g2⟩
theorem InBlk.snoc {K : Nat → Int} {σ : Nat → Nat} {a i j : Nat} (h : InBlk K σ a i) (hi : σ i = i) (h1 : a ≤ j) (h2 : j ≤ i) (h3 : ∀ x, j ≤ x → x < i → K (σ i) < K (σ x)) (h4 : j = a ∨ K (σ (j - 1)) ≤ K (σ i)) : InBlk K (movD σ i j) a (i + 1) := by
 by_cases hai : a = i
 ·obtain rfl : j = i := by omega
  subst hai
  rw [ygz']
  refine ⟨fun x y g1 g2 g3 => by omega, fun x g1 g2 => ?_⟩
  have : x = a := by omega
  rw [this, hi]
  omega
 have hm : MergIn K σ a i (i + 1) := ⟨by omega, by omega, h.sort, fun x y g1 g2 g3 => by omega, fun x y g1 g2 g3 g4 => by
  obtain rfl : y = i := by omega
  have := h.own x g1 g2
  omega⟩
 have ho := ym9' hm h1 h2 (fun x g1 g2 => by
  rcases h4 with h4 | h4
  ·omega
  ·have := h.sort.le (i := x) (j := j - 1) g1 (by omega) (by omega)
   omega) h3
 refine ⟨ho.2, fun x g1 g2 => ?_⟩
 obtain ⟨y, e1, e2, e3⟩ := ho.1.into x g1 g2
 rw [e3]
 by_cases hy : y < i
 ·have := h.own y e1 hy; omega
 ·obtain rfl : y = i := by omega
  omega
theorem ylo' {K : Nat → Int} {l1 l2 : List Nat} (hp : l1.Perm l2) (h1 : l1.Pairwise (LexK K)) (h2 : l2.Pairwise (LexK K)) : l1 = l2 :=
 hp.eq_of_pairwise (fun x y _ _ g1 g2 => by unfold LexK at g1 g2; omega) h1 h2
end Go.Av

namespace Go.Av
open Go.RowKit
section
variable {P : Program} {w0 w : World} {R Ts Ts' : List Thing} {rows : List (Value × Bs)}
def yar' (n : Nat) (f : Nat → Value) : List Value := (List.range n).map f
theorem ysk' {n i : Nat} {f : Nat → Value} (h : i < n) : (yar' n f)[i]? = some (f i) := by simp [yar', h]
theorem yj4' (n : Nat) (f : Nat → Value) (i : Nat) (v : Value) : (yar' n f).set i v = yar' n (fun k => if k = i then v else f k) := by
 apply List.ext_getElem
 ·simp [yar']
 ·intro k h1 h2
  simp only [yar', List.getElem_set, List.getElem_map, List.getElem_range]
  by_cases h : i = k
  ·rw [if_pos h, if_pos h.symm]
  ·rw [if_neg h, if_neg (fun e => h e.symm)]
theorem ynx' {ty : TypeId} {b i : Nat} {v u : Value} (hs : yn1' P ty 1 = true) (hc : v.cells = #[v]) (hcell : w.cell? ⟨b, i, none⟩ = some u) (hf : w.frozen? ⟨b, i, none⟩ = false) (h1 : v.oneCell' = true) :
  (Instr.storeAt ty (.pointer (some ⟨b, i, none⟩)) v).run P w = .ok () (w.setCell ⟨b, i, none⟩ v) := by
 unfold yn1' at hs
 cases hi : P.info? ty with
 | none => simp [hi] at hs
 | some ii =>
  simp only [hi, beq_iff_eq] at hs
  have := run_storeCells_cells (P := P) b i [v] 0 w (fun j hj => by
    obtain rfl : j = 0 := by simpa using hj
    simp [hcell]) (fun j hj => by
    obtain rfl : j = 0 := by simpa using hj
    simpa using hf)
   (fun v' hv => by rw [List.mem_singleton] at hv; rw [hv]; exact h1)
  simp only [Nat.add_zero] at this
  have hsc : w.setCells b i [v] = w.setCell ⟨b, i, none⟩ v := rfl
  rw [hsc] at this
  simp [Instr.storeAt, Instr.sureAddr, Sem.run_bind, storeVar, sizeOf, typeInfo, hi, hs, hc, this]
theorem yrr' {y : Nat} {off n c i : Nat} {xs : List Value} {ty : TypeId} {v : Value} (H : Sep w0 w (yai' 1 (.slice (some ⟨y, off, none⟩) n c) xs :: R) rows) (hs : yn1' P ty 1 = true) (hc : v.cells = #[v]) (h1 : v.oneCell' = true) (hi : i < n) :
  ∃ w', (Instr.storeAt ty (.pointer (some ⟨y, off + i, none⟩)) v).run P w = .ok () w' ∧ Sep w0 w' (yai' 1 (.slice (some ⟨y, off, none⟩) n c) (xs.set i v) :: R) rows := by
 obtain ⟨h2, h3, ⟨u, h4⟩, h5⟩ := H.rowSet hi v
 rw [Addr.add_lit] at h2 h4 h5
 exact ⟨_, ynx' hs hc h4 h2 h1, h5⟩
variable {ops : Array Oper} {Q : Exit → Act → World → Prop} {rest : List Oper} {a : Act} {dst : Option Tmp} {tyy : TypeId} {pos : String} {aft : Array Edge} {g : Option (Nat × Bool)}
theorem ydg' {y off n c i : Nat} {xs : List Value} {ty : TypeId} {v : Value} {x z : Operand} (H : Hid (Sep w0 w (yai' 1 (.slice (some ⟨y, off, none⟩) n c) xs :: R) rows)) (hx : a.eval x = .pointer (some ⟨y, off + i, none⟩)) (hy : a.eval z = v) (hc : v.cells = #[v])
  (hw : Region.wanted ⟨dst, .store ty x z, tyy, pos, aft, g⟩ (yielded ops a.tmps) = true) (hs : yn1' P ty 1 = true) (h1 : v.oneCell' = true) (hi : i < n)
  (k : ∀ w', Hid (Sep w0 w' (yai' 1 (.slice (some ⟨y, off, none⟩) n c) (xs.set i v) :: R) rows) → wpList P ops Q rest (a.put dst undef) w') : wpList P ops Q (⟨dst, .store ty x z, tyy, pos, aft, g⟩ :: rest) a w := by
 obtain ⟨w', h2, h3⟩ := yrr' (P := P) (ty := ty) H hs hc h1 hi
 refine yia' hw ?_ (k w' h3)
 unfold execOp
 dsimp only
 rw [hx, hy, Sem.run_bind, h2]
 rfl
end
end Go.Av

namespace Go.Av
open Go.RowKit
def strF (f : Nat → Bs) (σ : Nat → Nat) (k : Nat) : Value := sv (f (σ k))
theorem yhb' (n : Nat) (f : Nat → Bs) (σ : Nat → Nat) (i j : Nat) : ((yar' n (strF f σ)).set i (sv (f (σ j)))).set j (sv (f (σ i))) = yar' n (strF f (yh5' σ i j)) := by
 rw [yj4', yj4']
 unfold yar'
 apply List.map_congr_left
 intro k _
 unfold strF yh5'
 by_cases h1 : k = j
 ·rw [if_pos h1]
  by_cases h2 : k = i
  ·rw [if_pos h2, ← h1, h2]
  ·rw [if_neg h2, if_pos h1]
 ·rw [if_neg h1]
  by_cases h2 : k = i
  ·rw [if_pos h2, if_pos h2]
  ·rw [if_neg h2, if_neg h2, if_neg h1]
theorem ydo' {x : Int} {k n : Nat} (h : x = (k : Int)) (hk : k < n) (hn : n ≤ 100000) : IntKind.i64.wrap x = x ∧ ((0 ≤ x ∧ x < (n : Int)) = True) ∧ x.toNat = k :=
 ⟨Go.IntWalk.i64_in _ (by omega), eq_true ⟨by omega, by omega⟩, by omega⟩
end Go.Av
namespace Go.Proofs.YtcnkifbjlihaoaaGreatDoor
open Go.RowKit Go.Av
section
variable {w0 w : World} {R : List Thing} {rows : List (Value × Bs)} {g off n c : Nat} {f : Nat → Bs} {σ : Nat → Nat}
theorem ybx' {W : World} (h : Sep w0 W (yai' 1 (.slice (some ⟨g, off, none⟩) n c) (yar' n (strF f σ)) :: R) rows) {i : Nat} (hi : i < n) :
  (Instr.loadAt 9 (.pointer (some ⟨g, off + i, none⟩))).run Tryz.prog W = .ok (strF f σ i) W := by
 obtain ⟨D, hD⟩ := h.fst
 obtain ⟨E, hE, -⟩ := OwnRow.read hD
 exact yb5' hE (by kernel_rfl) (ysk' hi)
set_option maxRecDepth 100000 in
set_option maxHeartbeats 2000000 in
theorem ye6' (h : Sep w0 w (yai' 1 (.slice (some ⟨g, off, none⟩) n c) (yar' n (strF f σ)) :: R) rows) (a b m : Nat) (fv : Value) (h1 : a + m ≤ b) (h2 : b + m ≤ n) (hn : n ≤ 100000) :
  Calls Tryz.prog 295 #[.slice (some ⟨g, off, none⟩) n c, .int .i64 (a : Int), .int .i64 (b : Int), .int .i64 (m : Int), fv] w fun e w' => e = .returned (.tuple #[]) ∧
   Sep w0 w' (yai' 1 (.slice (some ⟨g, off, none⟩) n c) (yar' n (strF f (yf2' σ a b m))) :: R) rows := by
 have HX := Lib.hid h
 clear h
 go_enter Tryz.func295, Tryz.ntmps295
 go_wp2_with fail
 go_loopg [10] m (fun k v wr => ∃ i : Nat, i + k = m ∧ v = .int .i64 (i : Int) ∧ Sep w0 wr (yai' 1 (.slice (some ⟨g, off, none⟩) n c) (yar' n (strF f (yf2' σ a b i))) :: R) rows)
 case atStart => exact ⟨0, by omega, rfl, by rw [ykz']; exact HX.out⟩
 case round =>
  rename World => w
  obtain ⟨i, hik, rfl, hS⟩ := hrel
  replace HX := Lib.hid hS
  clear hS
  by_cases hlt : i < m
  case neg =>
   obtain rfl : i = m := by omega
   clear hlt hik
   go_wp2_with fail
   go_end0
   exact ⟨rfl, HX.out⟩
  case pos =>
   have q0 : decide (i < m) = true := decide_eq_true hlt
   obtain ⟨τ, hτ⟩ : ∃ τ, yf2' σ a b i = τ := ⟨_, rfl⟩
   rw [hτ] at HX
   have HT := Lib.hid hτ
   clear hτ
   obtain ⟨hn1, hn2, hn3⟩ := ydo' (x := (a : Int) + (i : Int)) (k := a + i) (n := n) (by omega) (by omega) hn
   obtain ⟨hn4, hn5, hn6⟩ := ydo' (x := (b : Int) + (i : Int)) (k := b + i) (n := n) (by omega) (by omega) hn
   go_wp2_with fail
   refine yaq' (fun W => W = w.drew) 20 (by kernel_rfl) ?_
   replace HX := Lib.hid HX.out.drew
   generalize w.drew = w at HX ⊢
   have hl := ybx' HX.out (i := a + i) (by omega)
   have hl2 := ybx' HX.out (i := b + i) (by omega)
   refine rT [(0, false), (1, false), (2, false), (3, false), (4, false), (5, false), (6, false), (7, false), (8, false), (9, false), (10, false), (11, false), (12, false), (13, true), (14, false), (15, false), (16, false), (17, false), (18, false), (19, true)] 4 ?_
   apply Exists.intro; refine ⟨?_, rfl, ?_⟩
   ·iterate 20 (first | refine yDp ?_ | ((first | apply ya5' | apply yay'); (· (simp only [k_i, k_j, k_k]; try rfl)); (· rfl); (· (intros; go_simp; (try simp only [hn1, hn2, hn3, hn4, hn5, hn6, ↓reduceIte, and_self, Int.toNat_natCast]); try with_reducible rfl)); (· (simp only [Act.put, k_a, k_b, k_c, k_d, k_e, k_f, k_g, k_h]; try rfl))))
    exact rfl
   refine rL [20, 21, 22, 23] 0 ?_
   simp only [List.filterMap_cons, List.filterMap_nil, k_i, k_j, k_k]
   clear hl hl2
   go_step
   go_step
   refine ydg' (i := (a + i)) (v := (strF f τ (b + i))) HX rfl rfl rfl rfl (by kernel_rfl) rfl (by omega) ?_
   clear HX
   intro w HX
   simp only [Act.put, k_a, k_b, k_c] at HX ⊢
   go_step
   go_step
   refine ydg' (i := (b + i)) (v := (strF f τ (a + i))) HX rfl rfl rfl rfl (by kernel_rfl) rfl (by omega) ?_
   clear HX
   intro w HX
   simp only [Act.put, k_a, k_b, k_c] at HX ⊢
   have h3 := HX.out
   rw [show (((yar' n (strF f τ)).set (a + i) (strF f τ (b + i))).set (b + i) (strF f τ (a + i))) = _ from yhb' n f τ (a + i) (b + i), ← HT.out, yky' σ h1 hlt] at h3
   have HX := Lib.hid h3
   clear h3
   go_wp2_with fail
   go_roundg (m - (i + 1))
   case rel => exact ⟨i + 1, by omega, by go_num, HX.out⟩
   case measure => omega
set_option maxRecDepth 100000 in
set_option maxHeartbeats 2000000 in
theorem ykq' (h : Sep w0 w (yai' 1 (.slice (some ⟨g, off, none⟩) n c) (yar' n (strF f σ)) :: R) rows) (a m b : Nat) (fv : Value) (h1 : a < m) (h2 : m < b) (h3 : b ≤ n) (hn : n ≤ 100000) :
  Calls Tryz.prog 267 #[.slice (some ⟨g, off, none⟩) n c, .int .i64 (a : Int), .int .i64 (m : Int), .int .i64 (b : Int), fv] w fun e w' => e = .returned (.tuple #[]) ∧
   Sep w0 w' (yai' 1 (.slice (some ⟨g, off, none⟩) n c) (yar' n (strF f (rotF σ a m b))) :: R) rows := by
 have HX := Lib.hid h
 clear h
 have e1 : (m : Int) - (a : Int) = ((m - a : Nat) : Int) := by omega
 have e2 : (b : Int) - (m : Int) = ((b - m : Nat) : Int) := by omega
 go_enter Tryz.func267, Tryz.ntmps267
 go_wp2_with fail
 go_loopg [10, 11] (m - a + (b - m)) (fun k v v' wr => ∃ (i j : Nat) (τ : Nat → Nat), i + j = k ∧ v = .int .i64 (i : Int) ∧ v' = .int .i64 (j : Int) ∧ 0 < i ∧ 0 < j ∧ i ≤ m ∧ a ≤ m - i ∧ m + j ≤ b ∧ rotF τ (m - i) m (m + j) = rotF σ a m b ∧
  Sep w0 wr (yai' 1 (.slice (some ⟨g, off, none⟩) n c) (yar' n (strF f τ)) :: R) rows)
 case atStart => exact ⟨m - a, b - m, σ, by omega, by go_num, by go_num, by omega, by omega, by omega, by omega, by omega, by rw [show m - (m - a) = a by omega, show m + (b - m) = b by omega], HX.out⟩
 case round =>
  rename World => w
  obtain ⟨i, j, τ, hij, rfl, rfl, hi, hj, him, hai, hjb, hrot, hS⟩ := hrel
  clear HX e1 e2
  have HX := Lib.hid hS
  have HR := Lib.hid hrot
  clear hS hrot
  have e1 : ((m - i : Nat) : Int) = (m : Int) - (i : Int) := by omega
  rcases Nat.lt_trichotomy i j with h4 | h4 | h4
  ·have q1 : ((i : Int) != (j : Int)) = true := by rw [bne_iff_ne]; omega
   have q2 : decide (j < i) = false := decide_eq_false (by omega)
   have e2 : ((m + j - i : Nat) : Int) = (m : Int) + (j : Int) - (i : Int) := by omega
   have hc := ye6' HX.out (m - i) (m + j - i) i fv (by omega) (by omega) hn
   rw [e1, e2] at hc
   go_wp2_with fail
   refine hc.mono ?_
   rintro e w ⟨rfl, hx⟩
   replace HX := Lib.hid hx
   clear hc hx
   go_wp2_with fail
   go_roundg (i + (j - i))
   case rel => exact ⟨i, j - i, _, by omega, by go_num, by go_num, by omega, by omega, by omega, by omega, by omega, by rw [ykp' τ him h4]; exact HR.out, HX.out⟩
   case measure => omega
  ·subst h4
   have q1 : ((i : Int) != (i : Int)) = false := by simp
   have hc := ye6' HX.out (m - i) m i fv (by omega) (by omega) hn
   rw [e1] at hc
   go_wp2_with fail
   refine hc.mono ?_
   rintro e w ⟨rfl, hx⟩
   replace HX := Lib.hid hx
   clear hc hx
   go_wp2_with fail
   go_end0
   refine ⟨rfl, ?_⟩
   rw [← HR.out, ← ynv' τ him]
   exact HX.out
  ·have q1 : ((i : Int) != (j : Int)) = true := by rw [bne_iff_ne]; omega
   have q2 : decide (j < i) = true := decide_eq_true (by omega)
   have hc := ye6' HX.out (m - i) m j fv (by omega) (by omega) hn
   rw [e1] at hc
   go_wp2_with fail
   refine hc.mono ?_
   rintro e w ⟨rfl, hx⟩
   replace HX := Lib.hid hx
   clear hc hx
   go_wp2_with fail
   go_roundg (i - j + j)
   case rel => exact ⟨i - j, j, _, by omega, by go_num, by go_num, by omega, by omega, by omega, by omega, by omega, by rw [ynu' τ him h4]; exact HR.out, HX.out⟩
   case measure => omega
end
end Go.Proofs.YtcnkifbjlihaoaaGreatDoor

namespace Go.Av
section
variable {P : Program} {ops : Array Oper} {Q : Exit → Act → World → Prop} {md : Region.Mode} {S : World → Prop}
theorem yd7' {N : Nat} {fuel : Nat} {listed : Array Bool} {a : Act} {w : World} (rs : List Nat) (hr : Region.ready md ops listed = rs) (hne : rs ≠ [])
  (h : ∀ i ∈ rs, ∃ o, ops[i]? = some o ∧ ∀ K : Act → World → Prop, (∀ a' w', S w' → ybz' P md ops Q S N fuel (listed.setIfInBounds i true) a' w' → K a' w') → wpList P ops (Exit.then K Q) [o] a w) :
  ybz' P md ops Q S N (fuel + 1) listed a w := by
 refine ⟨fun h0 => absurd (hr.symm.trans h0) hne, fun j hj => ?_⟩
 rw [hr] at hj
 obtain ⟨o, ho, h⟩ := h j hj
 have h := h (fun a' w' => (j < N → S w → S w') ∧ ybz' P md ops Q S N fuel (listed.setIfInBounds j true) a' w') (fun a' w' h1 h2 => ⟨fun _ _ => h1, h2⟩)
 unfold wpList at h
 unfold wpOp
 simp only [ho]
 by_cases hw : Region.wanted o (yielded ops a.tmps) = true
 ·rw [if_pos hw] at h ⊢
  rcases h with h | ⟨h1, h2⟩
  ·refine .inl ?_
   unfold Oper.wp at h ⊢
   generalize (execOp a.eval o).run P w = r at h ⊢
   cases r with
   | ok n w' =>
    cases n <;> simp only [Oper.upon, wpList, Exit.then] at h ⊢
    case value => exact h
    case skip => exact h
    case defer => exact h
    case enter =>
     refine Calls.mono h fun e w'' he => ?_
     cases e with
     | returned v => exact he
     | panicked c => exact he
     | outgrown => exact he
    case row => exact h
   | halt x w' => cases x <;> simp only [Oper.upon, Exit.then] at h ⊢ <;> exact h
  ·exact .inr ⟨h1, h2⟩
 ·rw [if_neg hw] at h ⊢
  exact h
end
end Go.Av

namespace Go.Av
section
variable {P : Program} {ops : Array Oper} {Q : Exit → Act → World → Prop} {md : Region.Mode} {S : World → Prop}
theorem ygi' {N i : Nat} {o : Oper} {fuel : Nat} {listed : Array Bool} {a a' : Act} {w : World} (hr : Region.ready md ops listed = [i]) (ho : ops[i]? = some o) (hw : Region.wanted o (yielded ops a.tmps) = false) (ha : a' = a.put o.dst undef) (hS : S w)
  (h : ybz' P md ops Q S N fuel (listed.setIfInBounds i true) a' w) : ybz' P md ops Q S N (fuel + 1) listed a w := by
 refine ybd' hr ho (fun K hK => ?_)
 unfold wpList
 rw [if_neg (by rw [hw]; simp)]
 unfold wpList
 rw [← ha]
 exact hK _ _ hS h
end
end Go.Av

namespace Go.Proofs.YtcnkifbjlihaoaaGreatDoor
open Go.RowKit Go.Av
def yva' (w0 : World) (Ky : Bs → Int) (x y : Bs) (R : List Thing) (rows : List (Value × Bs)) (e : Ending) (w' : World) : Prop :=
 ∃ r : Int, e = .returned (.int .i64 r) ∧ (r < 0 ↔ Ky x < Ky y) ∧ Sep w0 w' R rows
def ymb' (w0 : World) (Ky : Bs → Int) (ok : Bs → Prop) : Prop := ∀ (x y : Bs) (w : World) (R : List Thing) (rows : List (Value × Bs)), ok x → ok y → Sep w0 w R rows → Calls Tryz.prog 154 #[sv x, sv y] w (yva' w0 Ky x y R rows)
abbrev yja' : Value := .func (.func 154) #[] #[]
section
variable {w0 w : World} {R : List Thing} {rows : List (Value × Bs)} {g off n c : Nat} {f : Nat → Bs} {σ : Nat → Nat} {Ky : Bs → Int} {ok : Bs → Prop}
def yex' (w0 : World) (g off n c : Nat) (f : Nat → Bs) (R : List Thing) (rows : List (Value × Bs)) (X : (Nat → Nat) → Prop) (e : Ending) (w' : World) : Prop :=
 ∃ τ, e = .returned (.tuple #[]) ∧ X τ ∧ Sep w0 w' (yai' 1 (.slice (some ⟨g, off, none⟩) n c) (yar' n (strF f τ)) :: R) rows
set_option maxRecDepth 100000 in
set_option maxHeartbeats 4000000 in
theorem ygr' (hc : ymb' w0 Ky ok) (hf : ∀ i, ok (f i)) (h : Sep w0 w (yai' 1 (.slice (some ⟨g, off, none⟩) n c) (yar' n (strF f σ)) :: R) rows) (a b : Nat) (h1 : a ≤ b) (h2 : b ≤ n) (hn : n ≤ 100000) (hs : ∀ x, a ≤ x → x < b → σ x = x) :
  Calls Tryz.prog 224 #[.slice (some ⟨g, off, none⟩) n c, .int .i64 (a : Int), .int .i64 (b : Int), yja'] w (yex' w0 g off n c f R rows fun τ => PermF a b σ τ ∧ InBlk (fun i => Ky (f i)) τ a b) := by
 have HC := Lib.hid hc
 have HF := Lib.hid hf
 have HX := Lib.hid h
 have HS := Lib.hid hs
 clear h hc hf hs
 by_cases hab : a = b
 ·subst hab
  have q1 : decide ((a : Int) + 1 < (a : Int)) = false := decide_eq_false (by omega)
  have q1' : decide (a + 1 < a) = false := decide_eq_false (by omega)
  go_enter Tryz.func224, Tryz.ntmps224
  go_wp2_with fail
  refine wp_loop_rounds 1 ?_
  rw [rounds_succ]
  go_wp2_with fail
  go_end0
  exact ⟨σ, rfl, ⟨.refl _ _ _, ⟨fun x y g1 g2 g3 => by omega, fun x g1 g2 => by omega⟩⟩, HX.out⟩
 go_enter Tryz.func224, Tryz.ntmps224
 go_wp2_with fail
 go_loopg [8] (b - (a + 1)) (fun k v wr => ∃ (i : Nat) (τ : Nat → Nat), i + k = b ∧ v = .int .i64 (i : Int) ∧ a < i ∧ PermF a b σ τ ∧ InBlk (fun i => Ky (f i)) τ a i ∧ (∀ x, i ≤ x → x < b → τ x = x) ∧
  Sep w0 wr (yai' 1 (.slice (some ⟨g, off, none⟩) n c) (yar' n (strF f τ)) :: R) rows)
 case atStart =>
  refine ⟨a + 1, σ, by omega, by go_num, by omega, .refl _ _ _, ⟨fun x y g1 g2 g3 => by omega, fun x g1 g2 => ?_⟩, fun x g1 g2 => HS.out x (by omega) g2, HX.out⟩
  have := HS.out x g1 (by omega)
  omega
 case round =>
  rename World => w
  obtain ⟨i, τ, hik, rfl, hai, hp, hb, hid, hS⟩ := hrel
  clear HX HS
  have HX := Lib.hid hS
  have HT := Lib.hid (show _ ∧ _ ∧ _ from ⟨hp, hb, hid⟩)
  clear hS hp hb hid
  by_cases hlt : i < b
  case neg =>
   obtain rfl : i = b := by omega
   clear hlt hik
   go_wp2_with fail
   go_end0
   exact ⟨τ, rfl, ⟨HT.out.1, HT.out.2.1⟩, HX.out⟩
  case pos =>
   have q0 : decide (i < b) = true := decide_eq_true hlt
   go_wp2_with fail
   go_loopg [9] (i - a) (fun k v wr => ∃ j : Nat, a + k = j ∧ v = .int .i64 (j : Int) ∧ j ≤ i ∧ (∀ x, j ≤ x → x < i → Ky (f (τ i)) < Ky (f (τ x))) ∧
    Sep w0 wr (yai' 1 (.slice (some ⟨g, off, none⟩) n c) (yar' n (strF f (movD τ i j))) :: R) rows)
   case atStart => exact ⟨i, by omega, rfl, Nat.le_refl _, fun x g1 g2 => by omega, by rw [ygz']; exact HX.out⟩
   case round =>
    rename World => w
    obtain ⟨j, hjk, rfl, hji, hgt, hS⟩ := hrel
    replace HX := Lib.hid hS
    have HG := Lib.hid hgt
    clear hS hgt
    obtain ⟨ρ, hρ⟩ : ∃ ρ, movD τ i j = ρ := ⟨_, rfl⟩
    have hρj : ρ j = τ i := by rw [← hρ]; unfold movD; rw [if_neg (by omega), if_pos rfl]
    rw [hρ] at HX
    have HR := Lib.hid (show _ ∧ _ from ⟨hρ, hρj⟩)
    clear hρ hρj
    by_cases hja : j = a
    ·have q1 : decide (a < j) = false := decide_eq_false (by omega)
     go_wp2_with fail
     refine yaq' (fun W => W = w.drew) 17 (by kernel_rfl) ?_
     replace HX := Lib.hid HX.out.drew
     generalize w.drew = w at HX ⊢
     refine rT [(0, false), (1, false), (2, false), (3, false), (4, false), (5, false), (6, false), (7, false), (8, true), (9, false), (10, false), (11, false), (12, false), (13, true)] 3 ?_
     apply Exists.intro; refine ⟨?_, rfl, ?_⟩
     ·iterate 14 (refine yDp ?_)
      exact rfl
     apply ygi' (fuel := 2) (i := 14)
     ·kernel_rfl
     ·simp only [k_i, k_j, k_k]; try rfl
     ·rfl
     ·simp only [Act.put, k_a, k_b, k_c]; try rfl
     ·exact rfl
     refine rT [(15, false), (16, false)] 0 ?_
     apply Exists.intro; refine ⟨?_, rfl, ?_⟩
     ·iterate 2 (refine yDp ?_)
      exact rfl
     refine yaf' (by kernel_rfl) ?_ _
     go_wp2_with fail
     go_roundg (b - (i + 1))
     case rel =>
      (refine ⟨i + 1, movD τ i j, by omega, by go_num, by omega, HT.out.1.trans (yjf' τ hji (by omega) (by omega)), HT.out.2.1.snoc (HT.out.2.2 i (Nat.le_refl _) hlt) (by omega) hji HG.out (.inl hja), fun x g1 g2 => ?_, by rw [HR.out.1]; exact HX.out⟩; unfold movD; rw [if_neg (by omega), if_neg (by omega)]; exact HT.out.2.2 x (by omega) g2)
     case measure => omega
    ·have q1 : decide (a < j) = true := decide_eq_true (by omega)
     have hj1 : ρ (j - 1) = τ (j - 1) := by rw [← HR.out.1]; unfold movD; rw [if_neg (by omega), if_neg (by omega)]
     have HJ := Lib.hid hj1
     clear hj1
     obtain ⟨hn1, hn2, hn3⟩ := ydo' (x := (j : Int) - 1) (k := j - 1) (n := n) (by omega) (by omega) hn
     have hn4 : (j < n) = True := eq_true (by omega)
     have hn5 : (1 ≤ (j : Int) ∧ (j : Int) - 1 < (n : Int)) = True := eq_true (by omega)
     go_wp2_with fail
     refine rM (fun W => Sep w0 W (yai' 1 (.slice (some ⟨g, off, none⟩) n c) (yar' n (strF f ρ)) :: R) rows) 17 ?_
     intro KEEPX
     have hl : ∀ W, Sep w0 W (yai' 1 (.slice (some ⟨g, off, none⟩) n c) (yar' n (strF f ρ)) :: R) rows → _ := fun W hW => ybx' (i := j) hW (by omega)
     have hl2 : ∀ W, Sep w0 W (yai' 1 (.slice (some ⟨g, off, none⟩) n c) (yar' n (strF f ρ)) :: R) rows → _ := fun W hW => ybx' (i := j - 1) hW (by omega)
     replace HX := Lib.hid HX.out.drew
     refine rT [(0, false), (1, false), (2, false), (3, false), (4, false), (5, false), (6, false), (7, false), (8, true), (9, false), (10, false), (11, false), (12, false), (13, true)] 3 ?_
     apply Exists.intro; refine ⟨?_, HX.out, ?_⟩
     ·iterate 14 (first | refine yEp ?_ | ((first | apply ya5' | apply yay'); (· (simp only [k_i, k_j, k_k]; try rfl)); (· rfl); (· (intros; go_simp; (try simp only [hn1, hn2, hn3, hn4, hn5, ↓reduceIte, and_self, Int.toNat_natCast]); try with_reducible rfl)); (· (simp only [Act.put, k_a, k_b, k_c, k_d, k_e, k_f, k_g, k_h]; try rfl))))
      exact rfl
     clear hl hl2
     refine r1 2 14 fun K hK => ?_
     go_wp2_with fail
     refine (HC.out (f (ρ j)) (f (ρ (j - 1))) _ _ _ (HF.out _) (HF.out _) HX.out).mono ?_
     rintro e w ⟨r, rfl, hr, hx⟩
     replace HX := Lib.hid hx
     clear hx
     rw [HR.out.2, HJ.out] at hr
     go_wp2_with fail
     refine hK _ _ HX.out ?_
     clear hK hn1 hn2 hn3 hn4 hn5
     by_cases hr0 : r < 0
     ·have q2 : decide (r < 0) = true := decide_eq_true hr0
      have hr := hr.1 hr0
      refine rT [(15, false), (16, false)] 0 ?_
      apply Exists.intro; refine ⟨?_, HX.out, ?_⟩
      ·iterate 2 (first | refine yEp ?_ | ((first | apply ya5' | apply yay'); (· (simp only [k_i, k_j, k_k]; try rfl)); (· rfl); (· (intros; go_simp; (try simp only [hn1, hn2, hn3, hn4, hn5, ↓reduceIte, and_self, Int.toNat_natCast]); try with_reducible rfl)); (· (simp only [Act.put, k_a, k_b, k_c, k_d, k_e, k_f, k_g, k_h]; try rfl))))
       exact rfl
      refine yaf' (by kernel_rfl) ?_ _
      obtain ⟨hn1, hn2, hn3⟩ := ydo' (x := (j : Int) - 1) (k := j - 1) (n := n) (by omega) (by omega) hn
      have hn4 : (j < n) = True := eq_true (by omega)
      have hn5 : (1 ≤ (j : Int) ∧ (j : Int) - 1 < (n : Int)) = True := eq_true (by omega)
      go_wp2_with fail
      refine yaq' (fun W => W = w.drew) 14 (by kernel_rfl) ?_
      replace HX := Lib.hid HX.out.drew
      generalize w.drew = w at HX ⊢
      have hl := ybx' HX.out (i := j) (by omega)
      have hl2 := ybx' HX.out (i := j - 1) (by omega)
      refine rT [(0, false), (1, false), (2, false), (3, false), (4, false), (5, false), (6, false), (7, false), (8, false), (9, true), (10, false), (11, false), (12, false), (13, true)] 4 ?_
      apply Exists.intro; refine ⟨?_, rfl, ?_⟩
      ·iterate 14 (first | refine yDp ?_ | ((first | apply ya5' | apply yay'); (· (simp only [k_i, k_j, k_k]; try rfl)); (· rfl); (· (intros; go_simp; (try simp only [hn1, hn2, hn3, hn4, hn5, ↓reduceIte, and_self, Int.toNat_natCast]); try with_reducible rfl)); (· (simp only [Act.put, k_a, k_b, k_c, k_d, k_e, k_f, k_g, k_h]; try rfl))))
       exact rfl
      refine rL [14, 15, 16, 17] 0 ?_
      simp only [List.filterMap_cons, List.filterMap_nil, k_i, k_j, k_k]
      clear hl hl2
      go_step
      go_step
      refine ydg' (i := j) (v := (strF f ρ (j - 1))) HX rfl rfl rfl rfl (by kernel_rfl) rfl (by omega) ?_
      clear HX
      intro w HX
      simp only [Act.put, k_a, k_b, k_c] at HX ⊢
      go_step
      go_step
      refine ydg' (i := (j - 1)) (v := (strF f ρ j)) HX rfl rfl rfl rfl (by kernel_rfl) rfl (by omega) ?_
      clear HX
      intro w HX
      simp only [Act.put, k_a, k_b, k_c] at HX ⊢
      have h3 := HX.out
      have hms := yjg' τ (m := i) (k := j - 1) (by omega)
      rw [show j - 1 + 1 = j by omega, HR.out.1] at hms
      rw [show (((yar' n (strF f ρ)).set j (strF f ρ (j - 1))).set (j - 1) (strF f ρ j)) = _ from yhb' n f ρ j (j - 1), hms] at h3
      have HX := Lib.hid h3
      clear h3
      go_wp2_with fail
      go_roundg (j - 1 - a)
      case rel =>
       refine ⟨j - 1, by omega, by go_num, by omega, fun x g1 g2 => ?_, HX.out⟩
       by_cases hx : x = j - 1
       ·rw [hx]; exact hr
       ·exact HG.out x (by omega) g2
      case measure => omega
     ·have q2 : decide (r < 0) = false := decide_eq_false hr0
      have hr : ¬ Ky (f (τ i)) < Ky (f (τ (j - 1))) := fun hh => hr0 (hr.2 hh)
      refine rT [(15, false), (16, false)] 0 ?_
      apply Exists.intro; refine ⟨?_, HX.out, ?_⟩
      ·iterate 2 (first | refine yEp ?_ | ((first | apply ya5' | apply yay'); (· (simp only [k_i, k_j, k_k]; try rfl)); (· rfl); (· (intros; go_simp; (try simp only [hn1, hn2, hn3, hn4, hn5, ↓reduceIte, and_self, Int.toNat_natCast]); try with_reducible rfl)); (· (simp only [Act.put, k_a, k_b, k_c, k_d, k_e, k_f, k_g, k_h]; try rfl))))
       exact rfl
      refine yaf' (by kernel_rfl) ?_ _
      go_wp2_with fail
      go_roundg (b - (i + 1))
      case rel =>
       (refine ⟨i + 1, movD τ i j, by omega, by go_num, by omega, HT.out.1.trans (yjf' τ hji (by omega) (by omega)), HT.out.2.1.snoc (HT.out.2.2 i (Nat.le_refl _) hlt) (by omega) hji HG.out (.inr (by show Ky (f (τ (j - 1))) ≤ Ky (f (τ i)); omega)), fun x g1 g2 => ?_, by rw [HR.out.1]; exact HX.out⟩; unfold movD; rw [if_neg (by omega), if_neg (by omega)]; exact HT.out.2.2 x (by omega) g2)
      case measure => omega
end
end Go.Proofs.YtcnkifbjlihaoaaGreatDoor

namespace Go.Proofs.YtcnkifbjlihaoaaGreatDoor
open Go.RowKit Go.Av
section
variable {w0 : World} {R : List Thing} {rows : List (Value × Bs)} {g off n c : Nat} {f : Nat → Bs} {Ky : Bs → Int} {ok : Bs → Prop}
def SymC (w0 : World) (g off n c : Nat) (f : Nat → Bs) (Ky : Bs → Int) (R : List Thing) (rows : List (Value × Bs)) (L : Nat) : Prop :=
 ∀ (w : World) (σ : Nat → Nat) (a m b : Nat), b - a ≤ L → b ≤ n → MergIn (fun i => Ky (f i)) σ a m b → Sep w0 w (yai' 1 (.slice (some ⟨g, off, none⟩) n c) (yar' n (strF f σ)) :: R) rows →
  Calls Tryz.prog 225 #[.slice (some ⟨g, off, none⟩) n c, .int .i64 (a : Int), .int .i64 (m : Int), .int .i64 (b : Int), yja'] w (yex' w0 g off n c f R rows fun τ => ybk' (fun i => Ky (f i)) σ τ a b)
set_option maxRecDepth 100000 in
set_option maxHeartbeats 8000000 in
theorem ywz' (hc : ymb' w0 Ky ok) (hf : ∀ i, ok (f i)) (hn : n ≤ 100000) (w : World) (σ : Nat → Nat) (a b : Nat) (hbn : b ≤ n) (hm : MergIn (fun i => Ky (f i)) σ a (a + 1) b) (h : Sep w0 w (yai' 1 (.slice (some ⟨g, off, none⟩) n c) (yar' n (strF f σ)) :: R) rows) :
  Calls Tryz.prog 225 #[.slice (some ⟨g, off, none⟩) n c, .int .i64 (a : Int), .int .i64 ((a : Int) + 1), .int .i64 (b : Int), yja'] w (yex' w0 g off n c f R rows fun τ => ybk' (fun i => Ky (f i)) σ τ a b) := by
 have HC := Lib.hid hc
 have HF := Lib.hid hf
 have HX := Lib.hid h
 have HM := Lib.hid hm
 have hmb := hm.mb
 clear h hc hf hm
 have q1 : (((a : Int) + 1 - (a : Int)) == 1) = true := by rw [beq_iff_eq]; omega
 go_enter Tryz.func225, Tryz.ntmps225
 go_wp2_with fail
 go_loopg [10, 11] (b - (a + 1)) (fun k v v' wr => ∃ (i j : Nat), i + k = j ∧ v = .int .i64 (i : Int) ∧ v' = .int .i64 (j : Int) ∧ a + 1 ≤ i ∧ j ≤ b ∧ (∀ x, a + 1 ≤ x → x < i → Ky (f (σ x)) < Ky (f (σ a))) ∧ (∀ x, j ≤ x → x < b → Ky (f (σ a)) ≤ Ky (f (σ x))) ∧
  Sep w0 wr (yai' 1 (.slice (some ⟨g, off, none⟩) n c) (yar' n (strF f σ)) :: R) rows)
 case atStart => exact ⟨a + 1, b, by omega, by go_num, by go_num, by omega, by omega, fun x g1 g2 => by omega, fun x g1 g2 => by omega, HX.out⟩
 case round =>
  rename World => w
  obtain ⟨i, j, hij, rfl, rfl, hi, hj, h3, h4, hS⟩ := hrel
  replace HX := Lib.hid hS
  have HG := Lib.hid (show _ ∧ _ from ⟨h3, h4⟩)
  clear hS h3 h4
  by_cases hlt : i < j
  case neg =>
   obtain rfl : i = j := by omega
   have q0 : decide (i < i) = false := decide_eq_false (by omega)
   clear hlt hij
   go_wp2_with fail
   go_loopg [13] (i - 1 - a) (fun k v wr => ∃ (x : Nat), x + k = i - 1 ∧ v = .int .i64 (x : Int) ∧ a ≤ x ∧ Sep w0 wr (yai' 1 (.slice (some ⟨g, off, none⟩) n c) (yar' n (strF f (movU σ a x))) :: R) rows)
   case atStart => exact ⟨a, by omega, by go_num, by omega, by rw [ync']; exact HX.out⟩
   case round =>
    rename World => w
    obtain ⟨x, hxk, rfl, hax, hS⟩ := hrel
    replace HX := Lib.hid hS
    clear hS
    by_cases hxi : x < i - 1
    case neg =>
     obtain rfl : x = i - 1 := by omega
     have q2 : decide (((i - 1 : Nat) : Int) < (i : Int) - 1) = false := decide_eq_false (by omega)
     have q3 : decide (((i - 1 : Nat) : Int) + 1 < (i : Int)) = false := decide_eq_false (by omega)
     have q4 : decide ((i - 1 : Nat) < i - 1) = false := decide_eq_false (by omega)
     go_wp2_with fail
     go_end0
     exact ⟨_, rfl, ytl' HM.out hi hj HG.out.1 HG.out.2, HX.out⟩
    case pos =>
     have q2 : decide ((x : Int) < (i : Int) - 1) = true := decide_eq_true (by omega)
     obtain ⟨hn1, hn2, hn3⟩ := ydo' (x := (x : Int) + 1) (k := x + 1) (n := n) (by omega) (by omega) hn
     have hn4 : (x < n) = True := eq_true (by omega)
     obtain ⟨ρ, hρ⟩ : ∃ ρ, movU σ a x = ρ := ⟨_, rfl⟩
     rw [hρ] at HX
     have HR := Lib.hid hρ
     clear hρ
     go_wp2_with fail
     refine yaq' (fun W => W = w.drew) 14 (by kernel_rfl) ?_
     replace HX := Lib.hid HX.out.drew
     generalize w.drew = w at HX ⊢
     have hl := ybx' HX.out (i := x) (by omega)
     have hl2 := ybx' HX.out (i := x + 1) (by omega)
     refine rT [(0, false), (1, false), (2, false), (3, false), (4, false), (5, false), (6, false), (7, false), (8, false), (9, true), (10, false), (11, false), (12, false), (13, true)] 4 ?_
     apply Exists.intro; refine ⟨?_, rfl, ?_⟩
     ·iterate 14 (first | refine yDp ?_ | ((first | apply ya5' | apply yay'); (· (simp only [k_i, k_j, k_k]; try rfl)); (· rfl); (· (intros; go_simp; (try simp only [hn1, hn2, hn3, hn4, ↓reduceIte, and_self, Int.toNat_natCast]); try with_reducible rfl)); (· (simp only [Act.put, k_a, k_b, k_c, k_d, k_e, k_f, k_g, k_h]; try rfl))))
      exact rfl
     refine rL [14, 15, 16, 17] 0 ?_
     simp only [List.filterMap_cons, List.filterMap_nil, k_i, k_j, k_k]
     clear hl hl2
     go_step
     go_step
     refine ydg' (i := x) (v := (strF f ρ (x + 1))) HX rfl rfl rfl rfl (by kernel_rfl) rfl (by omega) ?_
     clear HX
     intro w HX
     simp only [Act.put, k_a, k_b, k_c] at HX ⊢
     go_step
     go_step
     refine ydg' (i := (x + 1)) (v := (strF f ρ x)) HX rfl rfl rfl rfl (by kernel_rfl) rfl (by omega) ?_
     clear HX
     intro w HX
     simp only [Act.put, k_a, k_b, k_c] at HX ⊢
     have h3 := HX.out
     have hms := ynb' σ hax
     rw [HR.out] at hms
     rw [show (((yar' n (strF f ρ)).set x (strF f ρ (x + 1))).set (x + 1) (strF f ρ x)) = _ from yhb' n f ρ x (x + 1), hms] at h3
     have HX := Lib.hid h3
     clear h3
     go_wp2_with fail
     go_roundg (i - 1 - (x + 1))
     case rel => exact ⟨x + 1, by omega, by go_num, by omega, HX.out⟩
     case measure => omega
  case pos =>
   have q0 : decide (i < j) = true := decide_eq_true hlt
   obtain ⟨hn1, hn2, hn3⟩ := ydo' (x := ((i : Int) + (j : Int)) / 2) (k := (i + j) / 2) (n := n) (by omega) (by omega) hn
   have hn4 : (a < n) = True := eq_true (by omega)
   go_wp2_with fail
   refine rM (fun W => Sep w0 W (yai' 1 (.slice (some ⟨g, off, none⟩) n c) (yar' n (strF f σ)) :: R) rows) 11 ?_
   intro KEEPX
   have hl : ∀ W, Sep w0 W (yai' 1 (.slice (some ⟨g, off, none⟩) n c) (yar' n (strF f σ)) :: R) rows → _ := fun W hW => ybx' (i := (i + j) / 2) hW (by omega)
   have hl2 : ∀ W, Sep w0 W (yai' 1 (.slice (some ⟨g, off, none⟩) n c) (yar' n (strF f σ)) :: R) rows → _ := fun W hW => ybx' (i := a) hW (by omega)
   replace HX := Lib.hid HX.out.drew
   refine rT [(0, false), (1, false), (2, false), (3, false), (4, true), (5, false), (6, false), (7, false), (8, true)] 2 ?_
   apply Exists.intro; refine ⟨?_, HX.out, ?_⟩
   ·iterate 9 (first | refine yEp ?_ | ((first | apply ya5' | apply yay'); (· (simp only [k_i, k_j, k_k]; try rfl)); (· rfl); (· (intros; go_simp; (try simp only [hn1, hn2, hn3, hn4, ↓reduceIte, and_self, Int.toNat_natCast]); try with_reducible rfl)); (· (simp only [Act.put, k_a, k_b, k_c, k_d, k_e, k_f, k_g, k_h]; try rfl))))
    exact rfl
   clear hl hl2
   refine r1 1 9 fun K hK => ?_
   go_wp2_with fail
   refine (HC.out (f (σ ((i + j) / 2))) (f (σ a)) _ _ _ (HF.out _) (HF.out _) HX.out).mono ?_
   rintro e w ⟨r, rfl, hr, hx⟩
   replace HX := Lib.hid hx
   clear hx
   go_wp2_with fail
   refine hK _ _ HX.out ?_
   clear hK hn1 hn2 hn3 hn4
   by_cases hr0 : r < 0
   ·have q2 : decide (r < 0) = true := decide_eq_true hr0
    have hr := hr.1 hr0
    refine rT [(10, false)] 0 ?_
    apply Exists.intro; refine ⟨?_, HX.out, ?_⟩
    ·iterate 1 (first | refine yEp ?_ | ((first | apply ya5' | apply yay'); (· (simp only [k_i, k_j, k_k]; try rfl)); (· rfl); (· (intros; go_simp; (try simp only [hn1, hn2, hn3, hn4, ↓reduceIte, and_self, Int.toNat_natCast]); try with_reducible rfl)); (· (simp only [Act.put, k_a, k_b, k_c, k_d, k_e, k_f, k_g, k_h]; try rfl))))
     exact rfl
    refine yaf' (by kernel_rfl) ?_ _
    go_wp2_with fail
    go_roundg (j - ((i + j) / 2 + 1))
    case rel => exact ⟨(i + j) / 2 + 1, j, by omega, by go_num, rfl, by omega, by omega, fun x g1 g2 => by
     have := HM.out.right.le (i := x) (j := (i + j) / 2) g1 (by omega) (by omega)
     have this : Ky (f (σ x)) ≤ Ky (f (σ ((i + j) / 2))) := this
     omega, HG.out.2, HX.out⟩
    case measure => omega
   ·have q2 : decide (r < 0) = false := decide_eq_false hr0
    have hr : ¬ Ky (f (σ ((i + j) / 2))) < Ky (f (σ a)) := fun hh => hr0 (hr.2 hh)
    refine rT [(10, false)] 0 ?_
    apply Exists.intro; refine ⟨?_, HX.out, ?_⟩
    ·iterate 1 (first | refine yEp ?_ | ((first | apply ya5' | apply yay'); (· (simp only [k_i, k_j, k_k]; try rfl)); (· rfl); (· (intros; go_simp; (try simp only [hn1, hn2, hn3, hn4, ↓reduceIte, and_self, Int.toNat_natCast]); try with_reducible rfl)); (· (simp only [Act.put, k_a, k_b, k_c, k_d, k_e, k_f, k_g, k_h]; try rfl))))
     exact rfl
    refine yaf' (by kernel_rfl) ?_ _
    go_wp2_with fail
    go_roundg ((i + j) / 2 - i)
    case rel => exact ⟨i, (i + j) / 2, by omega, rfl, by go_num, by omega, by omega, HG.out.1, fun x g1 g2 => by
     have := HM.out.right.le (i := (i + j) / 2) (j := x) (by omega) g1 g2
     have this : Ky (f (σ ((i + j) / 2))) ≤ Ky (f (σ x)) := this
     omega, HX.out⟩
    case measure => omega
set_option maxRecDepth 100000 in
set_option maxHeartbeats 8000000 in
theorem yw0' (hc : ymb' w0 Ky ok) (hf : ∀ i, ok (f i)) (hn : n ≤ 100000) (w : World) (σ : Nat → Nat) (a m : Nat) (hbn : m + 1 ≤ n) (ha1 : a + 1 < m) (hm : MergIn (fun i => Ky (f i)) σ a m (m + 1)) (h : Sep w0 w (yai' 1 (.slice (some ⟨g, off, none⟩) n c) (yar' n (strF f σ)) :: R) rows) :
  Calls Tryz.prog 225 #[.slice (some ⟨g, off, none⟩) n c, .int .i64 (a : Int), .int .i64 (m : Int), .int .i64 ((m : Int) + 1), yja'] w (yex' w0 g off n c f R rows fun τ => ybk' (fun i => Ky (f i)) σ τ a (m + 1)) := by
 have HC := Lib.hid hc
 have HF := Lib.hid hf
 have HX := Lib.hid h
 have HM := Lib.hid hm
 clear h hc hf hm
 have q1 : (((m : Int) - (a : Int)) == 1) = false := by rw [beq_eq_false_iff_ne]; omega
 have q1' : (((m : Int) + 1 - (m : Int)) == 1) = true := by rw [beq_iff_eq]; omega
 go_enter Tryz.func225, Tryz.ntmps225
 go_wp2_with fail
 go_loopg [14, 15] (m - a) (fun k v v' wr => ∃ (i j : Nat), i + k = j ∧ v = .int .i64 (i : Int) ∧ v' = .int .i64 (j : Int) ∧ a ≤ i ∧ j ≤ m ∧ (∀ x, a ≤ x → x < i → Ky (f (σ x)) ≤ Ky (f (σ m))) ∧ (∀ x, j ≤ x → x < m → Ky (f (σ m)) < Ky (f (σ x))) ∧
  Sep w0 wr (yai' 1 (.slice (some ⟨g, off, none⟩) n c) (yar' n (strF f σ)) :: R) rows)
 case atStart => exact ⟨a, m, by omega, by go_num, by go_num, by omega, by omega, fun x g1 g2 => by omega, fun x g1 g2 => by omega, HX.out⟩
 case round =>
  rename World => w
  obtain ⟨i, j, hij, rfl, rfl, hi, hj, h3, h4, hS⟩ := hrel
  replace HX := Lib.hid hS
  have HG := Lib.hid (show _ ∧ _ from ⟨h3, h4⟩)
  clear hS h3 h4
  by_cases hlt : i < j
  case neg =>
   obtain rfl : i = j := by omega
   have q0 : decide (i < i) = false := decide_eq_false (by omega)
   clear hlt hij
   go_wp2_with fail
   go_loopg [17] (m - i) (fun k v wr => ∃ (x : Nat), i + k = x ∧ v = .int .i64 (x : Int) ∧ x ≤ m ∧ Sep w0 wr (yai' 1 (.slice (some ⟨g, off, none⟩) n c) (yar' n (strF f (movD σ m x))) :: R) rows)
   case atStart => exact ⟨m, by omega, by go_num, by omega, by rw [ygz']; exact HX.out⟩
   case round =>
    rename World => w
    obtain ⟨x, hxk, rfl, hax, hS⟩ := hrel
    replace HX := Lib.hid hS
    clear hS
    by_cases hxi : i < x
    case neg =>
     obtain rfl : x = i := by omega
     have q2 : decide (x < x) = false := decide_eq_false (by omega)
     go_wp2_with fail
     go_end0
     exact ⟨_, rfl, ym9' HM.out hi hj HG.out.1 HG.out.2, HX.out⟩
    case pos =>
     have q2 : decide (i < x) = true := decide_eq_true (by omega)
     obtain ⟨hn1, hn2, hn3⟩ := ydo' (x := (x : Int) - 1) (k := x - 1) (n := n) (by omega) (by omega) hn
     have hn4 : (x < n) = True := eq_true (by omega)
     have hn5 : (1 ≤ (x : Int) ∧ (x : Int) - 1 < (n : Int)) = True := eq_true (by omega)
     obtain ⟨ρ, hρ⟩ : ∃ ρ, movD σ m x = ρ := ⟨_, rfl⟩
     rw [hρ] at HX
     have HR := Lib.hid hρ
     clear hρ
     go_wp2_with fail
     refine yaq' (fun W => W = w.drew) 14 (by kernel_rfl) ?_
     replace HX := Lib.hid HX.out.drew
     generalize w.drew = w at HX ⊢
     have hl := ybx' HX.out (i := x) (by omega)
     have hl2 := ybx' HX.out (i := x - 1) (by omega)
     refine rT [(0, false), (1, false), (2, false), (3, false), (4, false), (5, false), (6, false), (7, false), (8, false), (9, true), (10, false), (11, false), (12, false), (13, true)] 4 ?_
     apply Exists.intro; refine ⟨?_, rfl, ?_⟩
     ·iterate 14 (first | refine yDp ?_ | ((first | apply ya5' | apply yay'); (· (simp only [k_i, k_j, k_k]; try rfl)); (· rfl); (· (intros; go_simp; (try simp only [hn1, hn2, hn3, hn4, hn5, ↓reduceIte, and_self, Int.toNat_natCast]); try with_reducible rfl)); (· (simp only [Act.put, k_a, k_b, k_c, k_d, k_e, k_f, k_g, k_h]; try rfl))))
      exact rfl
     refine rL [14, 15, 16, 17] 0 ?_
     simp only [List.filterMap_cons, List.filterMap_nil, k_i, k_j, k_k]
     clear hl hl2
     go_step
     go_step
     refine ydg' (i := x) (v := (strF f ρ (x - 1))) HX rfl rfl rfl rfl (by kernel_rfl) rfl (by omega) ?_
     clear HX
     intro w HX
     simp only [Act.put, k_a, k_b, k_c] at HX ⊢
     go_step
     go_step
     refine ydg' (i := (x - 1)) (v := (strF f ρ x)) HX rfl rfl rfl rfl (by kernel_rfl) rfl (by omega) ?_
     clear HX
     intro w HX
     simp only [Act.put, k_a, k_b, k_c] at HX ⊢
     have h3 := HX.out
     have hms := yjg' σ (m := m) (k := x - 1) (by omega)
     rw [show x - 1 + 1 = x by omega, HR.out] at hms
     rw [show (((yar' n (strF f ρ)).set x (strF f ρ (x - 1))).set (x - 1) (strF f ρ x)) = _ from yhb' n f ρ x (x - 1), hms] at h3
     have HX := Lib.hid h3
     clear h3
     go_wp2_with fail
     go_roundg (x - 1 - i)
     case rel => exact ⟨x - 1, by omega, by go_num, by omega, HX.out⟩
     case measure => omega
  case pos =>
   have q0 : decide (i < j) = true := decide_eq_true hlt
   obtain ⟨hn1, hn2, hn3⟩ := ydo' (x := ((i : Int) + (j : Int)) / 2) (k := (i + j) / 2) (n := n) (by omega) (by omega) hn
   have hn4 : (m < n) = True := eq_true (by omega)
   go_wp2_with fail
   refine rM (fun W => Sep w0 W (yai' 1 (.slice (some ⟨g, off, none⟩) n c) (yar' n (strF f σ)) :: R) rows) 12 ?_
   intro KEEPX
   have hl : ∀ W, Sep w0 W (yai' 1 (.slice (some ⟨g, off, none⟩) n c) (yar' n (strF f σ)) :: R) rows → _ := fun W hW => ybx' (i := (i + j) / 2) hW (by omega)
   have hl2 : ∀ W, Sep w0 W (yai' 1 (.slice (some ⟨g, off, none⟩) n c) (yar' n (strF f σ)) :: R) rows → _ := fun W hW => ybx' (i := m) hW (by omega)
   replace HX := Lib.hid HX.out.drew
   refine rT [(0, false), (1, false), (2, false), (3, false), (4, true), (5, false), (6, false), (7, false), (8, true)] 3 ?_
   apply Exists.intro; refine ⟨?_, HX.out, ?_⟩
   ·iterate 9 (first | refine yEp ?_ | ((first | apply ya5' | apply yay'); (· (simp only [k_i, k_j, k_k]; try rfl)); (· rfl); (· (intros; go_simp; (try simp only [hn1, hn2, hn3, hn4, ↓reduceIte, and_self, Int.toNat_natCast]); try with_reducible rfl)); (· (simp only [Act.put, k_a, k_b, k_c, k_d, k_e, k_f, k_g, k_h]; try rfl))))
    exact rfl
   clear hl hl2
   refine r1 2 9 fun K hK => ?_
   go_wp2_with fail
   refine (HC.out (f (σ m)) (f (σ ((i + j) / 2))) _ _ _ (HF.out _) (HF.out _) HX.out).mono ?_
   rintro e w ⟨r, rfl, hr, hx⟩
   replace HX := Lib.hid hx
   clear hx
   go_wp2_with fail
   refine hK _ _ HX.out ?_
   clear hK hn1 hn2 hn3 hn4
   by_cases hr0 : r < 0
   ·have q2 : decide (r < 0) = true := decide_eq_true hr0
    have hr := hr.1 hr0
    refine rT [(10, false), (11, false)] 0 ?_
    apply Exists.intro; refine ⟨?_, HX.out, ?_⟩
    ·iterate 2 (first | refine yEp ?_ | ((first | apply ya5' | apply yay'); (· (simp only [k_i, k_j, k_k]; try rfl)); (· rfl); (· (intros; go_simp; (try simp only [hn1, hn2, hn3, hn4, ↓reduceIte, and_self, Int.toNat_natCast]); try with_reducible rfl)); (· (simp only [Act.put, k_a, k_b, k_c, k_d, k_e, k_f, k_g, k_h]; try rfl))))
     exact rfl
    refine yaf' (by kernel_rfl) ?_ _
    go_wp2_with fail
    go_roundg ((i + j) / 2 - i)
    case rel => exact ⟨i, (i + j) / 2, by omega, rfl, by go_num, by omega, by omega, HG.out.1, fun x g1 g2 => by
     have := HM.out.left.le (i := (i + j) / 2) (j := x) (by omega) g1 g2
     have this : Ky (f (σ ((i + j) / 2))) ≤ Ky (f (σ x)) := this
     omega, HX.out⟩
    case measure => omega
   ·have q2 : decide (r < 0) = false := decide_eq_false hr0
    have hr : ¬ Ky (f (σ m)) < Ky (f (σ ((i + j) / 2))) := fun hh => hr0 (hr.2 hh)
    refine rT [(10, false), (11, false)] 0 ?_
    apply Exists.intro; refine ⟨?_, HX.out, ?_⟩
    ·iterate 2 (first | refine yEp ?_ | ((first | apply ya5' | apply yay'); (· (simp only [k_i, k_j, k_k]; try rfl)); (· rfl); (· (intros; go_simp; (try simp only [hn1, hn2, hn3, hn4, ↓reduceIte, and_self, Int.toNat_natCast]); try with_reducible rfl)); (· (simp only [Act.put, k_a, k_b, k_c, k_d, k_e, k_f, k_g, k_h]; try rfl))))
     exact rfl
    refine yaf' (by kernel_rfl) ?_ _
    go_wp2_with fail
    go_roundg (j - ((i + j) / 2 + 1))
    case rel => exact ⟨(i + j) / 2 + 1, j, by omega, by go_num, rfl, by omega, by omega, fun x g1 g2 => by
     have := HM.out.left.le (i := x) (j := (i + j) / 2) g1 (by omega) (by omega)
     have this : Ky (f (σ x)) ≤ Ky (f (σ ((i + j) / 2))) := this
     omega, HG.out.2, HX.out⟩
    case measure => omega
end
end Go.Proofs.YtcnkifbjlihaoaaGreatDoor

namespace Go.Proofs.YtcnkifbjlihaoaaGreatDoor
open Go.RowKit Go.Av
section
variable {w0 : World} {R : List Thing} {rows : List (Value × Bs)} {g off n c : Nat} {f : Nat → Bs} {Ky : Bs → Int} {ok : Bs → Prop}
set_option maxRecDepth 100000 in
set_option maxHeartbeats 16000000 in
theorem ywy' (hc : ymb' w0 Ky ok) (hf : ∀ i, ok (f i)) (hn : n ≤ 100000) (L : Nat) (hi : SymC w0 g off n c f Ky R rows L) (w : World) (σ : Nat → Nat) (a m b : Nat) (hL : b - a ≤ L + 1) (hbn : b ≤ n) (ha1 : a + 1 < m) (hb1 : m + 1 < b) (hm : MergIn (fun i => Ky (f i)) σ a m b)
  (h : Sep w0 w (yai' 1 (.slice (some ⟨g, off, none⟩) n c) (yar' n (strF f σ)) :: R) rows) :
  Calls Tryz.prog 225 #[.slice (some ⟨g, off, none⟩) n c, .int .i64 (a : Int), .int .i64 (m : Int), .int .i64 (b : Int), yja'] w (yex' w0 g off n c f R rows fun τ => ybk' (fun i => Ky (f i)) σ τ a b) := by
 have HC := Lib.hid hc
 have HF := Lib.hid hf
 have HI := Lib.hid hi
 have HX := Lib.hid h
 have HM := Lib.hid hm
 clear h hc hf hm hi
 have q1 : (((m : Int) - (a : Int)) == 1) = false := by rw [beq_eq_false_iff_ne]; omega
 have q1' : (((b : Int) - (m : Int)) == 1) = false := by rw [beq_eq_false_iff_ne]; omega
 obtain ⟨mid, hmid⟩ : ∃ mid, mid = (a + b) / 2 := ⟨_, rfl⟩
 have HMID := Lib.hid hmid
 have em : ((a : Int) + (b : Int)) / 2 = (mid : Int) := by omega
 have hmidn : a < mid ∧ mid < b := by omega
 go_enter Tryz.func225, Tryz.ntmps225
 clear hmid
 by_cases hmm : mid < m
 ·have q2 : decide (((a : Int) + (b : Int)) / 2 < (m : Int)) = true := decide_eq_true (by omega)
  have q2' : decide (mid < m) = true := decide_eq_true hmm
  go_wp2_with fail
  go_loopg [20, 21] (mid - (mid + m - b)) (fun k v v' wr => ∃ (s r : Nat), s + k = r ∧ v = .int .i64 (s : Int) ∧ v' = .int .i64 (r : Int) ∧ mid + m ≤ s + b ∧ r ≤ mid ∧ (∀ x, mid + m ≤ x + b → x < s → Ky (f (σ x)) ≤ Ky (f (σ (mid + m - 1 - x)))) ∧
   (∀ x, r ≤ x → x < mid → Ky (f (σ (mid + m - 1 - x))) < Ky (f (σ x))) ∧ Sep w0 wr (yai' 1 (.slice (some ⟨g, off, none⟩) n c) (yar' n (strF f σ)) :: R) rows)
  case atStart => exact ⟨mid + m - b, mid, by omega, by go_num, by go_num, by omega, by omega, fun x g1 g2 => by omega, fun x g1 g2 => by omega, HX.out⟩
  case round =>
   rename World => w
   obtain ⟨s, r, hsr, rfl, rfl, hs1, hr1, h3, h4, hS⟩ := hrel
   replace HX := Lib.hid hS
   have HG := Lib.hid (show _ ∧ _ from ⟨h3, h4⟩)
   clear hS h3 h4
   by_cases hlt : s < r
   case neg =>
    obtain rfl : s = r := by omega
    have q0 : decide (s < s) = false := decide_eq_false (by omega)
    have HCU := Lib.hid (yxr' (s0 := mid + m - b) (r0 := mid) HM.out HMID.out (fun _ => ⟨by omega, rfl⟩) (fun hh => absurd hmm hh) (by omega) (by omega) (fun x g1 g2 => HG.out.1 x (by omega) g2) HG.out.2 (by omega) : CutOk _ σ a m b mid s _)
    obtain ⟨e, he⟩ : ∃ e, mid + m - s = e := ⟨_, rfl⟩
    rw [he] at HCU
    have ee : (mid : Int) + (m : Int) - (s : Int) = (e : Int) := by omega
    have hse : s + e = mid + m := by omega
    clear hsr
    go_upto_region 39 with fail
    by_cases g5 : s < m
    ·by_cases g6 : m < e
     ·have q15 : decide (s < m) = true := decide_eq_true g5
      have q16 : decide (m < e) = true := decide_eq_true g6
      have hc0 := ykq' HX.out s m e yja' g5 g6 (by have := HCU.out.eb; omega) hn
      go_wp2_with fail
      refine hc0.mono ?_
      rintro e1 w ⟨rfl, hx⟩
      clear HX hc0
      have HX := Lib.hid hx
      clear hx
      by_cases g1 : a < s
      ·by_cases g2 : s < mid
       ·have q11 : decide (a < s) = true := decide_eq_true g1
        have q12 : decide (s < mid) = true := decide_eq_true g2
        have hc1 := HI.out w _ a s mid (by omega) (by omega) (HCU.out.in1 HM.out g1 g2) HX.out
        go_wp2_with fail
        refine hc1.mono ?_
        rintro e1 w ⟨τ2, rfl, ho2, hx⟩
        clear HX hc1
        have HX := Lib.hid hx
        clear hx
        have HT2 := Lib.hid (show PermF a mid (rotF σ s m e) τ2 ∧ (a < s ∧ s < mid → ybk' _ (rotF σ s m e) τ2 a mid) ∧ (¬ (a < s ∧ s < mid) → τ2 = rotF σ s m e) from ⟨ho2.1, fun _ => ho2, fun hh => absurd ⟨g1, g2⟩ hh⟩)
        clear ho2
        by_cases g3 : mid < e
        ·by_cases g4 : e < b
         ·have q13 : decide (mid < e) = true := decide_eq_true g3
          have q14 : decide (e < b) = true := decide_eq_true g4
          have hc2 := HI.out w τ2 mid e b (by omega) (by omega) (HCU.out.in2 HM.out HT2.out.1 g3 g4) HX.out
          go_wp2_with fail
          refine hc2.mono ?_
          rintro e1 w ⟨τ3, rfl, ho3, hx⟩
          clear HX hc2
          have HX := Lib.hid hx
          clear hx
          go_wp2_with fail
          go_end0
          exact ⟨τ3, rfl, CutOk.done (σ2 := τ2) HM.out HCU.out HT2.out.2.1 HT2.out.2.2 (fun _ => ho3) (fun hh => absurd ⟨g3, g4⟩ hh), HX.out⟩
         ·have q13 : decide (mid < e) = true := decide_eq_true g3
          have q14 : decide (e < b) = false := decide_eq_false g4
          go_wp2_with fail
          go_end0
          exact ⟨τ2, rfl, CutOk.done (σ2 := τ2) HM.out HCU.out HT2.out.2.1 HT2.out.2.2 (fun hh => absurd hh.2 g4) (fun _ => rfl), HX.out⟩
        ·have q13 : decide (mid < e) = false := decide_eq_false g3
         go_wp2_with fail
         go_end0
         exact ⟨τ2, rfl, CutOk.done (σ2 := τ2) HM.out HCU.out HT2.out.2.1 HT2.out.2.2 (fun hh => absurd hh.1 g3) (fun _ => rfl), HX.out⟩
       ·have q11 : decide (a < s) = true := decide_eq_true g1
        have q12 : decide (s < mid) = false := decide_eq_false g2
        obtain ⟨τ2, hτ2⟩ : ∃ τ2, rotF σ s m e = τ2 := ⟨_, rfl⟩
        have HT2 : Hid (PermF a mid (rotF σ s m e) τ2 ∧ (a < s ∧ s < mid → ybk' (fun i => Ky (f i)) (rotF σ s m e) τ2 a mid) ∧ (¬ (a < s ∧ s < mid) → τ2 = rotF σ s m e)) := by rw [← hτ2]; exact ⟨.refl _ _ _, fun hh => absurd hh.2 g2, fun _ => rfl⟩
        have HX : Hid (Sep w0 w (yai' 1 (.slice (some ⟨g, off, none⟩) n c) (yar' n (strF f τ2)) :: R) rows) := by rw [← hτ2]; exact HX
        clear hτ2
        by_cases g3 : mid < e
        ·by_cases g4 : e < b
         ·have q13 : decide (mid < e) = true := decide_eq_true g3
          have q14 : decide (e < b) = true := decide_eq_true g4
          have hc2 := HI.out w τ2 mid e b (by omega) (by omega) (HCU.out.in2 HM.out HT2.out.1 g3 g4) HX.out
          go_wp2_with fail
          refine hc2.mono ?_
          rintro e1 w ⟨τ3, rfl, ho3, hx⟩
          clear HX hc2
          have HX := Lib.hid hx
          clear hx
          go_wp2_with fail
          go_end0
          exact ⟨τ3, rfl, CutOk.done (σ2 := τ2) HM.out HCU.out HT2.out.2.1 HT2.out.2.2 (fun _ => ho3) (fun hh => absurd ⟨g3, g4⟩ hh), HX.out⟩
         ·have q13 : decide (mid < e) = true := decide_eq_true g3
          have q14 : decide (e < b) = false := decide_eq_false g4
          go_wp2_with fail
          go_end0
          exact ⟨τ2, rfl, CutOk.done (σ2 := τ2) HM.out HCU.out HT2.out.2.1 HT2.out.2.2 (fun hh => absurd hh.2 g4) (fun _ => rfl), HX.out⟩
        ·have q13 : decide (mid < e) = false := decide_eq_false g3
         go_wp2_with fail
         go_end0
         exact ⟨τ2, rfl, CutOk.done (σ2 := τ2) HM.out HCU.out HT2.out.2.1 HT2.out.2.2 (fun hh => absurd hh.1 g3) (fun _ => rfl), HX.out⟩
      ·have q11 : decide (a < s) = false := decide_eq_false g1
       obtain ⟨τ2, hτ2⟩ : ∃ τ2, rotF σ s m e = τ2 := ⟨_, rfl⟩
       have HT2 : Hid (PermF a mid (rotF σ s m e) τ2 ∧ (a < s ∧ s < mid → ybk' (fun i => Ky (f i)) (rotF σ s m e) τ2 a mid) ∧ (¬ (a < s ∧ s < mid) → τ2 = rotF σ s m e)) := by rw [← hτ2]; exact ⟨.refl _ _ _, fun hh => absurd hh.1 g1, fun _ => rfl⟩
       have HX : Hid (Sep w0 w (yai' 1 (.slice (some ⟨g, off, none⟩) n c) (yar' n (strF f τ2)) :: R) rows) := by rw [← hτ2]; exact HX
       clear hτ2
       by_cases g3 : mid < e
       ·by_cases g4 : e < b
        ·have q13 : decide (mid < e) = true := decide_eq_true g3
         have q14 : decide (e < b) = true := decide_eq_true g4
         have hc2 := HI.out w τ2 mid e b (by omega) (by omega) (HCU.out.in2 HM.out HT2.out.1 g3 g4) HX.out
         go_wp2_with fail
         refine hc2.mono ?_
         rintro e1 w ⟨τ3, rfl, ho3, hx⟩
         clear HX hc2
         have HX := Lib.hid hx
         clear hx
         go_wp2_with fail
         go_end0
         exact ⟨τ3, rfl, CutOk.done (σ2 := τ2) HM.out HCU.out HT2.out.2.1 HT2.out.2.2 (fun _ => ho3) (fun hh => absurd ⟨g3, g4⟩ hh), HX.out⟩
        ·have q13 : decide (mid < e) = true := decide_eq_true g3
         have q14 : decide (e < b) = false := decide_eq_false g4
         go_wp2_with fail
         go_end0
         exact ⟨τ2, rfl, CutOk.done (σ2 := τ2) HM.out HCU.out HT2.out.2.1 HT2.out.2.2 (fun hh => absurd hh.2 g4) (fun _ => rfl), HX.out⟩
       ·have q13 : decide (mid < e) = false := decide_eq_false g3
        go_wp2_with fail
        go_end0
        exact ⟨τ2, rfl, CutOk.done (σ2 := τ2) HM.out HCU.out HT2.out.2.1 HT2.out.2.2 (fun hh => absurd hh.1 g3) (fun _ => rfl), HX.out⟩
     ·have q15 : decide (s < m) = true := decide_eq_true g5
      have q16 : decide (m < e) = false := decide_eq_false g6
      have HX : Hid (Sep w0 w (yai' 1 (.slice (some ⟨g, off, none⟩) n c) (yar' n (strF f (rotF σ s m e))) :: R) rows) := by
       rw [show m = e by have := HCU.out.me; omega, yhy']; exact HX
      by_cases g1 : a < s
      ·by_cases g2 : s < mid
       ·have q11 : decide (a < s) = true := decide_eq_true g1
        have q12 : decide (s < mid) = true := decide_eq_true g2
        have hc1 := HI.out w _ a s mid (by omega) (by omega) (HCU.out.in1 HM.out g1 g2) HX.out
        go_wp2_with fail
        refine hc1.mono ?_
        rintro e1 w ⟨τ2, rfl, ho2, hx⟩
        clear HX hc1
        have HX := Lib.hid hx
        clear hx
        have HT2 := Lib.hid (show PermF a mid (rotF σ s m e) τ2 ∧ (a < s ∧ s < mid → ybk' _ (rotF σ s m e) τ2 a mid) ∧ (¬ (a < s ∧ s < mid) → τ2 = rotF σ s m e) from ⟨ho2.1, fun _ => ho2, fun hh => absurd ⟨g1, g2⟩ hh⟩)
        clear ho2
        by_cases g3 : mid < e
        ·by_cases g4 : e < b
         ·have q13 : decide (mid < e) = true := decide_eq_true g3
          have q14 : decide (e < b) = true := decide_eq_true g4
          have hc2 := HI.out w τ2 mid e b (by omega) (by omega) (HCU.out.in2 HM.out HT2.out.1 g3 g4) HX.out
          go_wp2_with fail
          refine hc2.mono ?_
          rintro e1 w ⟨τ3, rfl, ho3, hx⟩
          clear HX hc2
          have HX := Lib.hid hx
          clear hx
          go_wp2_with fail
          go_end0
          exact ⟨τ3, rfl, CutOk.done (σ2 := τ2) HM.out HCU.out HT2.out.2.1 HT2.out.2.2 (fun _ => ho3) (fun hh => absurd ⟨g3, g4⟩ hh), HX.out⟩
         ·have q13 : decide (mid < e) = true := decide_eq_true g3
          have q14 : decide (e < b) = false := decide_eq_false g4
          go_wp2_with fail
          go_end0
          exact ⟨τ2, rfl, CutOk.done (σ2 := τ2) HM.out HCU.out HT2.out.2.1 HT2.out.2.2 (fun hh => absurd hh.2 g4) (fun _ => rfl), HX.out⟩
        ·have q13 : decide (mid < e) = false := decide_eq_false g3
         go_wp2_with fail
         go_end0
         exact ⟨τ2, rfl, CutOk.done (σ2 := τ2) HM.out HCU.out HT2.out.2.1 HT2.out.2.2 (fun hh => absurd hh.1 g3) (fun _ => rfl), HX.out⟩
       ·have q11 : decide (a < s) = true := decide_eq_true g1
        have q12 : decide (s < mid) = false := decide_eq_false g2
        obtain ⟨τ2, hτ2⟩ : ∃ τ2, rotF σ s m e = τ2 := ⟨_, rfl⟩
        have HT2 : Hid (PermF a mid (rotF σ s m e) τ2 ∧ (a < s ∧ s < mid → ybk' (fun i => Ky (f i)) (rotF σ s m e) τ2 a mid) ∧ (¬ (a < s ∧ s < mid) → τ2 = rotF σ s m e)) := by rw [← hτ2]; exact ⟨.refl _ _ _, fun hh => absurd hh.2 g2, fun _ => rfl⟩
        have HX : Hid (Sep w0 w (yai' 1 (.slice (some ⟨g, off, none⟩) n c) (yar' n (strF f τ2)) :: R) rows) := by rw [← hτ2]; exact HX
        clear hτ2
        by_cases g3 : mid < e
        ·by_cases g4 : e < b
         ·have q13 : decide (mid < e) = true := decide_eq_true g3
          have q14 : decide (e < b) = true := decide_eq_true g4
          have hc2 := HI.out w τ2 mid e b (by omega) (by omega) (HCU.out.in2 HM.out HT2.out.1 g3 g4) HX.out
          go_wp2_with fail
          refine hc2.mono ?_
          rintro e1 w ⟨τ3, rfl, ho3, hx⟩
          clear HX hc2
          have HX := Lib.hid hx
          clear hx
          go_wp2_with fail
          go_end0
          exact ⟨τ3, rfl, CutOk.done (σ2 := τ2) HM.out HCU.out HT2.out.2.1 HT2.out.2.2 (fun _ => ho3) (fun hh => absurd ⟨g3, g4⟩ hh), HX.out⟩
         ·have q13 : decide (mid < e) = true := decide_eq_true g3
          have q14 : decide (e < b) = false := decide_eq_false g4
          go_wp2_with fail
          go_end0
          exact ⟨τ2, rfl, CutOk.done (σ2 := τ2) HM.out HCU.out HT2.out.2.1 HT2.out.2.2 (fun hh => absurd hh.2 g4) (fun _ => rfl), HX.out⟩
        ·have q13 : decide (mid < e) = false := decide_eq_false g3
         go_wp2_with fail
         go_end0
         exact ⟨τ2, rfl, CutOk.done (σ2 := τ2) HM.out HCU.out HT2.out.2.1 HT2.out.2.2 (fun hh => absurd hh.1 g3) (fun _ => rfl), HX.out⟩
      ·have q11 : decide (a < s) = false := decide_eq_false g1
       obtain ⟨τ2, hτ2⟩ : ∃ τ2, rotF σ s m e = τ2 := ⟨_, rfl⟩
       have HT2 : Hid (PermF a mid (rotF σ s m e) τ2 ∧ (a < s ∧ s < mid → ybk' (fun i => Ky (f i)) (rotF σ s m e) τ2 a mid) ∧ (¬ (a < s ∧ s < mid) → τ2 = rotF σ s m e)) := by rw [← hτ2]; exact ⟨.refl _ _ _, fun hh => absurd hh.1 g1, fun _ => rfl⟩
       have HX : Hid (Sep w0 w (yai' 1 (.slice (some ⟨g, off, none⟩) n c) (yar' n (strF f τ2)) :: R) rows) := by rw [← hτ2]; exact HX
       clear hτ2
       by_cases g3 : mid < e
       ·by_cases g4 : e < b
        ·have q13 : decide (mid < e) = true := decide_eq_true g3
         have q14 : decide (e < b) = true := decide_eq_true g4
         have hc2 := HI.out w τ2 mid e b (by omega) (by omega) (HCU.out.in2 HM.out HT2.out.1 g3 g4) HX.out
         go_wp2_with fail
         refine hc2.mono ?_
         rintro e1 w ⟨τ3, rfl, ho3, hx⟩
         clear HX hc2
         have HX := Lib.hid hx
         clear hx
         go_wp2_with fail
         go_end0
         exact ⟨τ3, rfl, CutOk.done (σ2 := τ2) HM.out HCU.out HT2.out.2.1 HT2.out.2.2 (fun _ => ho3) (fun hh => absurd ⟨g3, g4⟩ hh), HX.out⟩
        ·have q13 : decide (mid < e) = true := decide_eq_true g3
         have q14 : decide (e < b) = false := decide_eq_false g4
         go_wp2_with fail
         go_end0
         exact ⟨τ2, rfl, CutOk.done (σ2 := τ2) HM.out HCU.out HT2.out.2.1 HT2.out.2.2 (fun hh => absurd hh.2 g4) (fun _ => rfl), HX.out⟩
       ·have q13 : decide (mid < e) = false := decide_eq_false g3
        go_wp2_with fail
        go_end0
        exact ⟨τ2, rfl, CutOk.done (σ2 := τ2) HM.out HCU.out HT2.out.2.1 HT2.out.2.2 (fun hh => absurd hh.1 g3) (fun _ => rfl), HX.out⟩
    ·have q15 : decide (s < m) = false := decide_eq_false g5
     have HX : Hid (Sep w0 w (yai' 1 (.slice (some ⟨g, off, none⟩) n c) (yar' n (strF f (rotF σ s m e))) :: R) rows) := by
      rw [show s = m by have := HCU.out.sm; omega, yhx' σ HCU.out.me]; exact HX
     by_cases g1 : a < s
     ·by_cases g2 : s < mid
      ·have q11 : decide (a < s) = true := decide_eq_true g1
       have q12 : decide (s < mid) = true := decide_eq_true g2
       have hc1 := HI.out w _ a s mid (by omega) (by omega) (HCU.out.in1 HM.out g1 g2) HX.out
       go_wp2_with fail
       refine hc1.mono ?_
       rintro e1 w ⟨τ2, rfl, ho2, hx⟩
       clear HX hc1
       have HX := Lib.hid hx
       clear hx
       have HT2 := Lib.hid (show PermF a mid (rotF σ s m e) τ2 ∧ (a < s ∧ s < mid → ybk' _ (rotF σ s m e) τ2 a mid) ∧ (¬ (a < s ∧ s < mid) → τ2 = rotF σ s m e) from ⟨ho2.1, fun _ => ho2, fun hh => absurd ⟨g1, g2⟩ hh⟩)
       clear ho2
       by_cases g3 : mid < e
       ·by_cases g4 : e < b
        ·have q13 : decide (mid < e) = true := decide_eq_true g3
         have q14 : decide (e < b) = true := decide_eq_true g4
         have hc2 := HI.out w τ2 mid e b (by omega) (by omega) (HCU.out.in2 HM.out HT2.out.1 g3 g4) HX.out
         go_wp2_with fail
         refine hc2.mono ?_
         rintro e1 w ⟨τ3, rfl, ho3, hx⟩
         clear HX hc2
         have HX := Lib.hid hx
         clear hx
         go_wp2_with fail
         go_end0
         exact ⟨τ3, rfl, CutOk.done (σ2 := τ2) HM.out HCU.out HT2.out.2.1 HT2.out.2.2 (fun _ => ho3) (fun hh => absurd ⟨g3, g4⟩ hh), HX.out⟩
        ·have q13 : decide (mid < e) = true := decide_eq_true g3
         have q14 : decide (e < b) = false := decide_eq_false g4
         go_wp2_with fail
         go_end0
         exact ⟨τ2, rfl, CutOk.done (σ2 := τ2) HM.out HCU.out HT2.out.2.1 HT2.out.2.2 (fun hh => absurd hh.2 g4) (fun _ => rfl), HX.out⟩
       ·have q13 : decide (mid < e) = false := decide_eq_false g3
        go_wp2_with fail
        go_end0
        exact ⟨τ2, rfl, CutOk.done (σ2 := τ2) HM.out HCU.out HT2.out.2.1 HT2.out.2.2 (fun hh => absurd hh.1 g3) (fun _ => rfl), HX.out⟩
      ·have q11 : decide (a < s) = true := decide_eq_true g1
       have q12 : decide (s < mid) = false := decide_eq_false g2
       obtain ⟨τ2, hτ2⟩ : ∃ τ2, rotF σ s m e = τ2 := ⟨_, rfl⟩
       have HT2 : Hid (PermF a mid (rotF σ s m e) τ2 ∧ (a < s ∧ s < mid → ybk' (fun i => Ky (f i)) (rotF σ s m e) τ2 a mid) ∧ (¬ (a < s ∧ s < mid) → τ2 = rotF σ s m e)) := by rw [← hτ2]; exact ⟨.refl _ _ _, fun hh => absurd hh.2 g2, fun _ => rfl⟩
       have HX : Hid (Sep w0 w (yai' 1 (.slice (some ⟨g, off, none⟩) n c) (yar' n (strF f τ2)) :: R) rows) := by rw [← hτ2]; exact HX
       clear hτ2
       by_cases g3 : mid < e
       ·by_cases g4 : e < b
        ·have q13 : decide (mid < e) = true := decide_eq_true g3
         have q14 : decide (e < b) = true := decide_eq_true g4
         have hc2 := HI.out w τ2 mid e b (by omega) (by omega) (HCU.out.in2 HM.out HT2.out.1 g3 g4) HX.out
         go_wp2_with fail
         refine hc2.mono ?_
         rintro e1 w ⟨τ3, rfl, ho3, hx⟩
         clear HX hc2
         have HX := Lib.hid hx
         clear hx
         go_wp2_with fail
         go_end0
         exact ⟨τ3, rfl, CutOk.done (σ2 := τ2) HM.out HCU.out HT2.out.2.1 HT2.out.2.2 (fun _ => ho3) (fun hh => absurd ⟨g3, g4⟩ hh), HX.out⟩
        ·have q13 : decide (mid < e) = true := decide_eq_true g3
         have q14 : decide (e < b) = false := decide_eq_false g4
         go_wp2_with fail
         go_end0
         exact ⟨τ2, rfl, CutOk.done (σ2 := τ2) HM.out HCU.out HT2.out.2.1 HT2.out.2.2 (fun hh => absurd hh.2 g4) (fun _ => rfl), HX.out⟩
       ·have q13 : decide (mid < e) = false := decide_eq_false g3
        go_wp2_with fail
        go_end0
        exact ⟨τ2, rfl, CutOk.done (σ2 := τ2) HM.out HCU.out HT2.out.2.1 HT2.out.2.2 (fun hh => absurd hh.1 g3) (fun _ => rfl), HX.out⟩
     ·have q11 : decide (a < s) = false := decide_eq_false g1
      obtain ⟨τ2, hτ2⟩ : ∃ τ2, rotF σ s m e = τ2 := ⟨_, rfl⟩
      have HT2 : Hid (PermF a mid (rotF σ s m e) τ2 ∧ (a < s ∧ s < mid → ybk' (fun i => Ky (f i)) (rotF σ s m e) τ2 a mid) ∧ (¬ (a < s ∧ s < mid) → τ2 = rotF σ s m e)) := by rw [← hτ2]; exact ⟨.refl _ _ _, fun hh => absurd hh.1 g1, fun _ => rfl⟩
      have HX : Hid (Sep w0 w (yai' 1 (.slice (some ⟨g, off, none⟩) n c) (yar' n (strF f τ2)) :: R) rows) := by rw [← hτ2]; exact HX
      clear hτ2
      by_cases g3 : mid < e
      ·by_cases g4 : e < b
       ·have q13 : decide (mid < e) = true := decide_eq_true g3
        have q14 : decide (e < b) = true := decide_eq_true g4
        have hc2 := HI.out w τ2 mid e b (by omega) (by omega) (HCU.out.in2 HM.out HT2.out.1 g3 g4) HX.out
        go_wp2_with fail
        refine hc2.mono ?_
        rintro e1 w ⟨τ3, rfl, ho3, hx⟩
        clear HX hc2
        have HX := Lib.hid hx
        clear hx
        go_wp2_with fail
        go_end0
        exact ⟨τ3, rfl, CutOk.done (σ2 := τ2) HM.out HCU.out HT2.out.2.1 HT2.out.2.2 (fun _ => ho3) (fun hh => absurd ⟨g3, g4⟩ hh), HX.out⟩
       ·have q13 : decide (mid < e) = true := decide_eq_true g3
        have q14 : decide (e < b) = false := decide_eq_false g4
        go_wp2_with fail
        go_end0
        exact ⟨τ2, rfl, CutOk.done (σ2 := τ2) HM.out HCU.out HT2.out.2.1 HT2.out.2.2 (fun hh => absurd hh.2 g4) (fun _ => rfl), HX.out⟩
      ·have q13 : decide (mid < e) = false := decide_eq_false g3
       go_wp2_with fail
       go_end0
       exact ⟨τ2, rfl, CutOk.done (σ2 := τ2) HM.out HCU.out HT2.out.2.1 HT2.out.2.2 (fun hh => absurd hh.1 g3) (fun _ => rfl), HX.out⟩
   case pos =>
    have q0 : decide (s < r) = true := decide_eq_true hlt
    obtain ⟨hn1, hn2, hn3⟩ := ydo' (x := (mid : Int) + (m : Int) - 1 - ((s : Int) + (r : Int)) / 2) (k := mid + m - 1 - (s + r) / 2) (n := n) (by omega) (by omega) hn
    obtain ⟨hn4, hn5, hn6⟩ := ydo' (x := ((s : Int) + (r : Int)) / 2) (k := (s + r) / 2) (n := n) (by omega) (by omega) hn
    have hn7 : (((s : Int) + (r : Int)) / 2 ≤ (mid : Int) + (m : Int) - 1 ∧ (mid : Int) + (m : Int) - 1 - ((s : Int) + (r : Int)) / 2 < (n : Int)) = True := eq_true (by omega)
    go_wp2_with fail
    refine rM (fun W => Sep w0 W (yai' 1 (.slice (some ⟨g, off, none⟩) n c) (yar' n (strF f σ)) :: R) rows) 14 ?_
    intro KEEPX
    have hl : ∀ W, Sep w0 W (yai' 1 (.slice (some ⟨g, off, none⟩) n c) (yar' n (strF f σ)) :: R) rows → _ := fun W hW => ybx' (i := mid + m - 1 - (s + r) / 2) hW (by omega)
    have hl2 : ∀ W, Sep w0 W (yai' 1 (.slice (some ⟨g, off, none⟩) n c) (yar' n (strF f σ)) :: R) rows → _ := fun W hW => ybx' (i := (s + r) / 2) hW (by omega)
    replace HX := Lib.hid HX.out.drew
    refine rT [(0, false), (1, false), (2, false), (3, false), (4, false), (5, false), (6, true), (7, false), (8, false), (9, false), (10, true)] 3 ?_
    apply Exists.intro; refine ⟨?_, HX.out, ?_⟩
    ·iterate 11 (first | refine yEp ?_ | ((first | apply ya5' | apply yay'); (· (simp only [k_i, k_j, k_k]; try rfl)); (· rfl); (· (intros; go_simp; (try simp only [hn1, hn2, hn3, hn4, hn5, hn6, hn7, ↓reduceIte, and_self, Int.toNat_natCast]); try with_reducible rfl)); (· (simp only [Act.put, k_a, k_b, k_c, k_d, k_e, k_f, k_g, k_h]; try rfl))))
     exact rfl
    clear hl hl2
    refine r1 2 11 fun K hK => ?_
    go_wp2_with fail
    refine (HC.out (f (σ (mid + m - 1 - (s + r) / 2))) (f (σ ((s + r) / 2))) _ _ _ (HF.out _) (HF.out _) HX.out).mono ?_
    rintro e w ⟨z, rfl, hr, hx⟩
    replace HX := Lib.hid hx
    clear hx
    go_wp2_with fail
    refine hK _ _ HX.out ?_
    clear hK hn1 hn2 hn3 hn4 hn5 hn6 hn7
    by_cases hr0 : z < 0
    ·have q2 : decide (z < 0) = true := decide_eq_true hr0
     have hr := hr.1 hr0
     refine rT [(12, false), (13, false)] 0 ?_
     apply Exists.intro; refine ⟨?_, HX.out, ?_⟩
     ·iterate 2 (first | refine yEp ?_ | ((first | apply ya5' | apply yay'); (· (simp only [k_i, k_j, k_k]; try rfl)); (· rfl); (· (intros; go_simp; (try simp only [hn1, hn2, hn3, hn4, hn5, hn6, hn7, ↓reduceIte, and_self, Int.toNat_natCast]); try with_reducible rfl)); (· (simp only [Act.put, k_a, k_b, k_c, k_d, k_e, k_f, k_g, k_h]; try rfl))))
      exact rfl
     refine yaf' (by kernel_rfl) ?_ _
     go_wp2_with fail
     go_roundg ((s + r) / 2 - s)
     case rel => exact ⟨s, (s + r) / 2, by omega, rfl, by go_num, by omega, by omega, HG.out.1, fun x g1 g2 => by
      have k1 := HM.out.left.le (i := (s + r) / 2) (j := x) (by omega) g1 (by omega)
      have k2 := HM.out.right.le (i := mid + m - 1 - x) (j := mid + m - 1 - (s + r) / 2) (by omega) (by omega) (by omega)
      have k1 : Ky (f (σ ((s + r) / 2))) ≤ Ky (f (σ x)) := k1
      have k2 : Ky (f (σ (mid + m - 1 - x))) ≤ Ky (f (σ (mid + m - 1 - (s + r) / 2))) := k2
      omega, HX.out⟩
     case measure => omega
    ·have q2 : decide (z < 0) = false := decide_eq_false hr0
     have hr : ¬ Ky (f (σ (mid + m - 1 - (s + r) / 2))) < Ky (f (σ ((s + r) / 2))) := fun hh => hr0 (hr.2 hh)
     refine rT [(12, false), (13, false)] 0 ?_
     apply Exists.intro; refine ⟨?_, HX.out, ?_⟩
     ·iterate 2 (first | refine yEp ?_ | ((first | apply ya5' | apply yay'); (· (simp only [k_i, k_j, k_k]; try rfl)); (· rfl); (· (intros; go_simp; (try simp only [hn1, hn2, hn3, hn4, hn5, hn6, hn7, ↓reduceIte, and_self, Int.toNat_natCast]); try with_reducible rfl)); (· (simp only [Act.put, k_a, k_b, k_c, k_d, k_e, k_f, k_g, k_h]; try rfl))))
      exact rfl
     refine yaf' (by kernel_rfl) ?_ _
     go_wp2_with fail
     go_roundg (r - ((s + r) / 2 + 1))
     case rel => exact ⟨(s + r) / 2 + 1, r, by omega, by go_num, rfl, by omega, by omega, fun x g1 g2 => by
      have k1 := HM.out.left.le (i := x) (j := (s + r) / 2) (by omega) (by omega) (by omega)
      have k2 := HM.out.right.le (i := mid + m - 1 - (s + r) / 2) (j := mid + m - 1 - x) (by omega) (by omega) (by omega)
      have k1 : Ky (f (σ x)) ≤ Ky (f (σ ((s + r) / 2))) := k1
      have k2 : Ky (f (σ (mid + m - 1 - (s + r) / 2))) ≤ Ky (f (σ (mid + m - 1 - x))) := k2
      omega, HG.out.2, HX.out⟩
     case measure => omega
 ·have q2 : decide (((a : Int) + (b : Int)) / 2 < (m : Int)) = false := decide_eq_false (by omega)
  have q2' : decide (mid < m) = false := decide_eq_false hmm
  go_wp2_with fail
  go_loopg [20, 21] (m - a) (fun k v v' wr => ∃ (s r : Nat), s + k = r ∧ v = .int .i64 (s : Int) ∧ v' = .int .i64 (r : Int) ∧ a ≤ s ∧ r ≤ m ∧ (∀ x, a ≤ x → x < s → Ky (f (σ x)) ≤ Ky (f (σ (mid + m - 1 - x)))) ∧
   (∀ x, r ≤ x → x < m → Ky (f (σ (mid + m - 1 - x))) < Ky (f (σ x))) ∧ Sep w0 wr (yai' 1 (.slice (some ⟨g, off, none⟩) n c) (yar' n (strF f σ)) :: R) rows)
  case atStart => exact ⟨a, m, by omega, by go_num, by go_num, by omega, by omega, fun x g1 g2 => by omega, fun x g1 g2 => by omega, HX.out⟩
  case round =>
   rename World => w
   obtain ⟨s, r, hsr, rfl, rfl, hs1, hr1, h3, h4, hS⟩ := hrel
   replace HX := Lib.hid hS
   have HG := Lib.hid (show _ ∧ _ from ⟨h3, h4⟩)
   clear hS h3 h4
   by_cases hlt : s < r
   case neg =>
    obtain rfl : s = r := by omega
    have q0 : decide (s < s) = false := decide_eq_false (by omega)
    have HCU := Lib.hid (yxr' (s0 := a) (r0 := m) HM.out HMID.out (fun hh => absurd hh hmm) (fun _ => ⟨rfl, rfl⟩) (by omega) (by omega) (fun x g1 g2 => HG.out.1 x g1 g2) HG.out.2 (by omega) : CutOk _ σ a m b mid s _)
    obtain ⟨e, he⟩ : ∃ e, mid + m - s = e := ⟨_, rfl⟩
    rw [he] at HCU
    have ee : (mid : Int) + (m : Int) - (s : Int) = (e : Int) := by omega
    have hse : s + e = mid + m := by omega
    clear hsr
    go_upto_region 39 with fail
    by_cases g5 : s < m
    ·by_cases g6 : m < e
     ·have q15 : decide (s < m) = true := decide_eq_true g5
      have q16 : decide (m < e) = true := decide_eq_true g6
      have hc0 := ykq' HX.out s m e yja' g5 g6 (by have := HCU.out.eb; omega) hn
      go_wp2_with fail
      refine hc0.mono ?_
      rintro e1 w ⟨rfl, hx⟩
      clear HX hc0
      have HX := Lib.hid hx
      clear hx
      by_cases g1 : a < s
      ·by_cases g2 : s < mid
       ·have q11 : decide (a < s) = true := decide_eq_true g1
        have q12 : decide (s < mid) = true := decide_eq_true g2
        have hc1 := HI.out w _ a s mid (by omega) (by omega) (HCU.out.in1 HM.out g1 g2) HX.out
        go_wp2_with fail
        refine hc1.mono ?_
        rintro e1 w ⟨τ2, rfl, ho2, hx⟩
        clear HX hc1
        have HX := Lib.hid hx
        clear hx
        have HT2 := Lib.hid (show PermF a mid (rotF σ s m e) τ2 ∧ (a < s ∧ s < mid → ybk' _ (rotF σ s m e) τ2 a mid) ∧ (¬ (a < s ∧ s < mid) → τ2 = rotF σ s m e) from ⟨ho2.1, fun _ => ho2, fun hh => absurd ⟨g1, g2⟩ hh⟩)
        clear ho2
        by_cases g3 : mid < e
        ·by_cases g4 : e < b
         ·have q13 : decide (mid < e) = true := decide_eq_true g3
          have q14 : decide (e < b) = true := decide_eq_true g4
          have hc2 := HI.out w τ2 mid e b (by omega) (by omega) (HCU.out.in2 HM.out HT2.out.1 g3 g4) HX.out
          go_wp2_with fail
          refine hc2.mono ?_
          rintro e1 w ⟨τ3, rfl, ho3, hx⟩
          clear HX hc2
          have HX := Lib.hid hx
          clear hx
          go_wp2_with fail
          go_end0
          exact ⟨τ3, rfl, CutOk.done (σ2 := τ2) HM.out HCU.out HT2.out.2.1 HT2.out.2.2 (fun _ => ho3) (fun hh => absurd ⟨g3, g4⟩ hh), HX.out⟩
         ·have q13 : decide (mid < e) = true := decide_eq_true g3
          have q14 : decide (e < b) = false := decide_eq_false g4
          go_wp2_with fail
          go_end0
          exact ⟨τ2, rfl, CutOk.done (σ2 := τ2) HM.out HCU.out HT2.out.2.1 HT2.out.2.2 (fun hh => absurd hh.2 g4) (fun _ => rfl), HX.out⟩
        ·have q13 : decide (mid < e) = false := decide_eq_false g3
         go_wp2_with fail
         go_end0
         exact ⟨τ2, rfl, CutOk.done (σ2 := τ2) HM.out HCU.out HT2.out.2.1 HT2.out.2.2 (fun hh => absurd hh.1 g3) (fun _ => rfl), HX.out⟩
       ·have q11 : decide (a < s) = true := decide_eq_true g1
        have q12 : decide (s < mid) = false := decide_eq_false g2
        obtain ⟨τ2, hτ2⟩ : ∃ τ2, rotF σ s m e = τ2 := ⟨_, rfl⟩
        have HT2 : Hid (PermF a mid (rotF σ s m e) τ2 ∧ (a < s ∧ s < mid → ybk' (fun i => Ky (f i)) (rotF σ s m e) τ2 a mid) ∧ (¬ (a < s ∧ s < mid) → τ2 = rotF σ s m e)) := by rw [← hτ2]; exact ⟨.refl _ _ _, fun hh => absurd hh.2 g2, fun _ => rfl⟩
        have HX : Hid (Sep w0 w (yai' 1 (.slice (some ⟨g, off, none⟩) n c) (yar' n (strF f τ2)) :: R) rows) := by rw [← hτ2]; exact HX
        clear hτ2
        by_cases g3 : mid < e
        ·by_cases g4 : e < b
         ·have q13 : decide (mid < e) = true := decide_eq_true g3
          have q14 : decide (e < b) = true := decide_eq_true g4
          have hc2 := HI.out w τ2 mid e b (by omega) (by omega) (HCU.out.in2 HM.out HT2.out.1 g3 g4) HX.out
          go_wp2_with fail
          refine hc2.mono ?_
          rintro e1 w ⟨τ3, rfl, ho3, hx⟩
          clear HX hc2
          have HX := Lib.hid hx
          clear hx
          go_wp2_with fail
          go_end0
          exact ⟨τ3, rfl, CutOk.done (σ2 := τ2) HM.out HCU.out HT2.out.2.1 HT2.out.2.2 (fun _ => ho3) (fun hh => absurd ⟨g3, g4⟩ hh), HX.out⟩
         ·have q13 : decide (mid < e) = true := decide_eq_true g3
          have q14 : decide (e < b) = false := decide_eq_false g4
          go_wp2_with fail
          go_end0
          exact ⟨τ2, rfl, CutOk.done (σ2 := τ2) HM.out HCU.out HT2.out.2.1 HT2.out.2.2 (fun hh => absurd hh.2 g4) (fun _ => rfl), HX.out⟩
        ·have q13 : decide (mid < e) = false := decide_eq_false g3
         go_wp2_with fail
         go_end0
         exact ⟨τ2, rfl, CutOk.done (σ2 := τ2) HM.out HCU.out HT2.out.2.1 HT2.out.2.2 (fun hh => absurd hh.1 g3) (fun _ => rfl), HX.out⟩
      ·have q11 : decide (a < s) = false := decide_eq_false g1
       obtain ⟨τ2, hτ2⟩ : ∃ τ2, rotF σ s m e = τ2 := ⟨_, rfl⟩
       have HT2 : Hid (PermF a mid (rotF σ s m e) τ2 ∧ (a < s ∧ s < mid → ybk' (fun i => Ky (f i)) (rotF σ s m e) τ2 a mid) ∧ (¬ (a < s ∧ s < mid) → τ2 = rotF σ s m e)) := by rw [← hτ2]; exact ⟨.refl _ _ _, fun hh => absurd hh.1 g1, fun _ => rfl⟩
       have HX : Hid (Sep w0 w (yai' 1 (.slice (some ⟨g, off, none⟩) n c) (yar' n (strF f τ2)) :: R) rows) := by rw [← hτ2]; exact HX
       clear hτ2
       by_cases g3 : mid < e
       ·by_cases g4 : e < b
        ·have q13 : decide (mid < e) = true := decide_eq_true g3
         have q14 : decide (e < b) = true := decide_eq_true g4
         have hc2 := HI.out w τ2 mid e b (by omega) (by omega) (HCU.out.in2 HM.out HT2.out.1 g3 g4) HX.out
         go_wp2_with fail
         refine hc2.mono ?_
         rintro e1 w ⟨τ3, rfl, ho3, hx⟩
         clear HX hc2
         have HX := Lib.hid hx
         clear hx
         go_wp2_with fail
         go_end0
         exact ⟨τ3, rfl, CutOk.done (σ2 := τ2) HM.out HCU.out HT2.out.2.1 HT2.out.2.2 (fun _ => ho3) (fun hh => absurd ⟨g3, g4⟩ hh), HX.out⟩
        ·have q13 : decide (mid < e) = true := decide_eq_true g3
         have q14 : decide (e < b) = false := decide_eq_false g4
         go_wp2_with fail
         go_end0
         exact ⟨τ2, rfl, CutOk.done (σ2 := τ2) HM.out HCU.out HT2.out.2.1 HT2.out.2.2 (fun hh => absurd hh.2 g4) (fun _ => rfl), HX.out⟩
       ·have q13 : decide (mid < e) = false := decide_eq_false g3
        go_wp2_with fail
        go_end0
        exact ⟨τ2, rfl, CutOk.done (σ2 := τ2) HM.out HCU.out HT2.out.2.1 HT2.out.2.2 (fun hh => absurd hh.1 g3) (fun _ => rfl), HX.out⟩
     ·have q15 : decide (s < m) = true := decide_eq_true g5
      have q16 : decide (m < e) = false := decide_eq_false g6
      have HX : Hid (Sep w0 w (yai' 1 (.slice (some ⟨g, off, none⟩) n c) (yar' n (strF f (rotF σ s m e))) :: R) rows) := by
       rw [show m = e by have := HCU.out.me; omega, yhy']; exact HX
      by_cases g1 : a < s
      ·by_cases g2 : s < mid
       ·have q11 : decide (a < s) = true := decide_eq_true g1
        have q12 : decide (s < mid) = true := decide_eq_true g2
        have hc1 := HI.out w _ a s mid (by omega) (by omega) (HCU.out.in1 HM.out g1 g2) HX.out
        go_wp2_with fail
        refine hc1.mono ?_
        rintro e1 w ⟨τ2, rfl, ho2, hx⟩
        clear HX hc1
        have HX := Lib.hid hx
        clear hx
        have HT2 := Lib.hid (show PermF a mid (rotF σ s m e) τ2 ∧ (a < s ∧ s < mid → ybk' _ (rotF σ s m e) τ2 a mid) ∧ (¬ (a < s ∧ s < mid) → τ2 = rotF σ s m e) from ⟨ho2.1, fun _ => ho2, fun hh => absurd ⟨g1, g2⟩ hh⟩)
        clear ho2
        by_cases g3 : mid < e
        ·by_cases g4 : e < b
         ·have q13 : decide (mid < e) = true := decide_eq_true g3
          have q14 : decide (e < b) = true := decide_eq_true g4
          have hc2 := HI.out w τ2 mid e b (by omega) (by omega) (HCU.out.in2 HM.out HT2.out.1 g3 g4) HX.out
          go_wp2_with fail
          refine hc2.mono ?_
          rintro e1 w ⟨τ3, rfl, ho3, hx⟩
          clear HX hc2
          have HX := Lib.hid hx
          clear hx
          go_wp2_with fail
          go_end0
          exact ⟨τ3, rfl, CutOk.done (σ2 := τ2) HM.out HCU.out HT2.out.2.1 HT2.out.2.2 (fun _ => ho3) (fun hh => absurd ⟨g3, g4⟩ hh), HX.out⟩
         ·have q13 : decide (mid < e) = true := decide_eq_true g3
          have q14 : decide (e < b) = false := decide_eq_false g4
          go_wp2_with fail
          go_end0
          exact ⟨τ2, rfl, CutOk.done (σ2 := τ2) HM.out HCU.out HT2.out.2.1 HT2.out.2.2 (fun hh => absurd hh.2 g4) (fun _ => rfl), HX.out⟩
        ·have q13 : decide (mid < e) = false := decide_eq_false g3
         go_wp2_with fail
         go_end0
         exact ⟨τ2, rfl, CutOk.done (σ2 := τ2) HM.out HCU.out HT2.out.2.1 HT2.out.2.2 (fun hh => absurd hh.1 g3) (fun _ => rfl), HX.out⟩
       ·have q11 : decide (a < s) = true := decide_eq_true g1
        have q12 : decide (s < mid) = false := decide_eq_false g2
        obtain ⟨τ2, hτ2⟩ : ∃ τ2, rotF σ s m e = τ2 := ⟨_, rfl⟩
        have HT2 : Hid (PermF a mid (rotF σ s m e) τ2 ∧ (a < s ∧ s < mid → ybk' (fun i => Ky (f i)) (rotF σ s m e) τ2 a mid) ∧ (¬ (a < s ∧ s < mid) → τ2 = rotF σ s m e)) := by rw [← hτ2]; exact ⟨.refl _ _ _, fun hh => absurd hh.2 g2, fun _ => rfl⟩
        have HX : Hid (Sep w0 w (yai' 1 (.slice (some ⟨g, off, none⟩) n c) (yar' n (strF f τ2)) :: R) rows) := by rw [← hτ2]; exact HX
        clear hτ2
        by_cases g3 : mid < e
        ·by_cases g4 : e < b
         ·have q13 : decide (mid < e) = true := decide_eq_true g3
          have q14 : decide (e < b) = true := decide_eq_true g4
          have hc2 := HI.out w τ2 mid e b (by omega) (by omega) (HCU.out.in2 HM.out HT2.out.1 g3 g4) HX.out
          go_wp2_with fail
          refine hc2.mono ?_
          rintro e1 w ⟨τ3, rfl, ho3, hx⟩
          clear HX hc2
          have HX := Lib.hid hx
          clear hx
          go_wp2_with fail
          go_end0
          exact ⟨τ3, rfl, CutOk.done (σ2 := τ2) HM.out HCU.out HT2.out.2.1 HT2.out.2.2 (fun _ => ho3) (fun hh => absurd ⟨g3, g4⟩ hh), HX.out⟩
         ·have q13 : decide (mid < e) = true := decide_eq_true g3
          have q14 : decide (e < b) = false := decide_eq_false g4
          go_wp2_with fail
          go_end0
          exact ⟨τ2, rfl, CutOk.done (σ2 := τ2) HM.out HCU.out HT2.out.2.1 HT2.out.2.2 (fun hh => absurd hh.2 g4) (fun _ => rfl), HX.out⟩
        ·have q13 : decide (mid < e) = false := decide_eq_false g3
         go_wp2_with fail
         go_end0
         exact ⟨τ2, rfl, CutOk.done (σ2 := τ2) HM.out HCU.out HT2.out.2.1 HT2.out.2.2 (fun hh => absurd hh.1 g3) (fun _ => rfl), HX.out⟩
      ·have q11 : decide (a < s) = false := decide_eq_false g1
       obtain ⟨τ2, hτ2⟩ : ∃ τ2, rotF σ s m e = τ2 := ⟨_, rfl⟩
       have HT2 : Hid (PermF a mid (rotF σ s m e) τ2 ∧ (a < s ∧ s < mid → ybk' (fun i => Ky (f i)) (rotF σ s m e) τ2 a mid) ∧ (¬ (a < s ∧ s < mid) → τ2 = rotF σ s m e)) := by rw [← hτ2]; exact ⟨.refl _ _ _, fun hh => absurd hh.1 g1, fun _ => rfl⟩
       have HX : Hid (Sep w0 w (yai' 1 (.slice (some ⟨g, off, none⟩) n c) (yar' n (strF f τ2)) :: R) rows) := by rw [← hτ2]; exact HX
       clear hτ2
       by_cases g3 : mid < e
       ·by_cases g4 : e < b
        ·have q13 : decide (mid < e) = true := decide_eq_true g3
         have q14 : decide (e < b) = true := decide_eq_true g4
         have hc2 := HI.out w τ2 mid e b (by omega) (by omega) (HCU.out.in2 HM.out HT2.out.1 g3 g4) HX.out
         go_wp2_with fail
         refine hc2.mono ?_
         rintro e1 w ⟨τ3, rfl, ho3, hx⟩
         clear HX hc2
         have HX := Lib.hid hx
         clear hx
         go_wp2_with fail
         go_end0
         exact ⟨τ3, rfl, CutOk.done (σ2 := τ2) HM.out HCU.out HT2.out.2.1 HT2.out.2.2 (fun _ => ho3) (fun hh => absurd ⟨g3, g4⟩ hh), HX.out⟩
        ·have q13 : decide (mid < e) = true := decide_eq_true g3
         have q14 : decide (e < b) = false := decide_eq_false g4
         go_wp2_with fail
         go_end0
         exact ⟨τ2, rfl, CutOk.done (σ2 := τ2) HM.out HCU.out HT2.out.2.1 HT2.out.2.2 (fun hh => absurd hh.2 g4) (fun _ => rfl), HX.out⟩
       ·have q13 : decide (mid < e) = false := decide_eq_false g3
        go_wp2_with fail
        go_end0
        exact ⟨τ2, rfl, CutOk.done (σ2 := τ2) HM.out HCU.out HT2.out.2.1 HT2.out.2.2 (fun hh => absurd hh.1 g3) (fun _ => rfl), HX.out⟩
    ·have q15 : decide (s < m) = false := decide_eq_false g5
     have HX : Hid (Sep w0 w (yai' 1 (.slice (some ⟨g, off, none⟩) n c) (yar' n (strF f (rotF σ s m e))) :: R) rows) := by
      rw [show s = m by have := HCU.out.sm; omega, yhx' σ HCU.out.me]; exact HX
     by_cases g1 : a < s
     ·by_cases g2 : s < mid
      ·have q11 : decide (a < s) = true := decide_eq_true g1
       have q12 : decide (s < mid) = true := decide_eq_true g2
       have hc1 := HI.out w _ a s mid (by omega) (by omega) (HCU.out.in1 HM.out g1 g2) HX.out
       go_wp2_with fail
       refine hc1.mono ?_
       rintro e1 w ⟨τ2, rfl, ho2, hx⟩
       clear HX hc1
       have HX := Lib.hid hx
       clear hx
       have HT2 := Lib.hid (show PermF a mid (rotF σ s m e) τ2 ∧ (a < s ∧ s < mid → ybk' _ (rotF σ s m e) τ2 a mid) ∧ (¬ (a < s ∧ s < mid) → τ2 = rotF σ s m e) from ⟨ho2.1, fun _ => ho2, fun hh => absurd ⟨g1, g2⟩ hh⟩)
       clear ho2
       by_cases g3 : mid < e
       ·by_cases g4 : e < b
        ·have q13 : decide (mid < e) = true := decide_eq_true g3
         have q14 : decide (e < b) = true := decide_eq_true g4
         have hc2 := HI.out w τ2 mid e b (by omega) (by omega) (HCU.out.in2 HM.out HT2.out.1 g3 g4) HX.out
         go_wp2_with fail
         refine hc2.mono ?_
         rintro e1 w ⟨τ3, rfl, ho3, hx⟩
         clear HX hc2
         have HX := Lib.hid hx
         clear hx
         go_wp2_with fail
         go_end0
         exact ⟨τ3, rfl, CutOk.done (σ2 := τ2) HM.out HCU.out HT2.out.2.1 HT2.out.2.2 (fun _ => ho3) (fun hh => absurd ⟨g3, g4⟩ hh), HX.out⟩
        ·have q13 : decide (mid < e) = true := decide_eq_true g3
         have q14 : decide (e < b) = false := decide_eq_false g4
         go_wp2_with fail
         go_end0
         exact ⟨τ2, rfl, CutOk.done (σ2 := τ2) HM.out HCU.out HT2.out.2.1 HT2.out.2.2 (fun hh => absurd hh.2 g4) (fun _ => rfl), HX.out⟩
       ·have q13 : decide (mid < e) = false := decide_eq_false g3
        go_wp2_with fail
        go_end0
        exact ⟨τ2, rfl, CutOk.done (σ2 := τ2) HM.out HCU.out HT2.out.2.1 HT2.out.2.2 (fun hh => absurd hh.1 g3) (fun _ => rfl), HX.out⟩
      ·have q11 : decide (a < s) = true := decide_eq_true g1
       have q12 : decide (s < mid) = false := decide_eq_false g2
       obtain ⟨τ2, hτ2⟩ : ∃ τ2, rotF σ s m e = τ2 := ⟨_, rfl⟩
       have HT2 : Hid (PermF a mid (rotF σ s m e) τ2 ∧ (a < s ∧ s < mid → ybk' (fun i => Ky (f i)) (rotF σ s m e) τ2 a mid) ∧ (¬ (a < s ∧ s < mid) → τ2 = rotF σ s m e)) := by rw [← hτ2]; exact ⟨.refl _ _ _, fun hh => absurd hh.2 g2, fun _ => rfl⟩
       have HX : Hid (Sep w0 w (yai' 1 (.slice (some ⟨g, off, none⟩) n c) (yar' n (strF f τ2)) :: R) rows) := by rw [← hτ2]; exact HX
       clear hτ2
       by_cases g3 : mid < e
       ·by_cases g4 : e < b
        ·have q13 : decide (mid < e) = true := decide_eq_true g3
         have q14 : decide (e < b) = true := decide_eq_true g4
         have hc2 := HI.out w τ2 mid e b (by omega) (by omega) (HCU.out.in2 HM.out HT2.out.1 g3 g4) HX.out
         go_wp2_with fail
         refine hc2.mono ?_
         rintro e1 w ⟨τ3, rfl, ho3, hx⟩
         clear HX hc2
         have HX := Lib.hid hx
         clear hx
         go_wp2_with fail
         go_end0
         exact ⟨τ3, rfl, CutOk.done (σ2 := τ2) HM.out HCU.out HT2.out.2.1 HT2.out.2.2 (fun _ => ho3) (fun hh => absurd ⟨g3, g4⟩ hh), HX.out⟩
        ·have q13 : decide (mid < e) = true := decide_eq_true g3
         have q14 : decide (e < b) = false := decide_eq_false g4
         go_wp2_with fail
         go_end0
         exact ⟨τ2, rfl, CutOk.done (σ2 := τ2) HM.out HCU.out HT2.out.2.1 HT2.out.2.2 (fun hh => absurd hh.2 g4) (fun _ => rfl), HX.out⟩
       ·have q13 : decide (mid < e) = false := decide_eq_false g3
        go_wp2_with fail
        go_end0
        exact ⟨τ2, rfl, CutOk.done (σ2 := τ2) HM.out HCU.out HT2.out.2.1 HT2.out.2.2 (fun hh => absurd hh.1 g3) (fun _ => rfl), HX.out⟩
     ·have q11 : decide (a < s) = false := decide_eq_false g1
      obtain ⟨τ2, hτ2⟩ : ∃ τ2, rotF σ s m e = τ2 := ⟨_, rfl⟩
      have HT2 : Hid (PermF a mid (rotF σ s m e) τ2 ∧ (a < s ∧ s < mid → ybk' (fun i => Ky (f i)) (rotF σ s m e) τ2 a mid) ∧ (¬ (a < s ∧ s < mid) → τ2 = rotF σ s m e)) := by rw [← hτ2]; exact ⟨.refl _ _ _, fun hh => absurd hh.1 g1, fun _ => rfl⟩
      have HX : Hid (Sep w0 w (yai' 1 (.slice (some ⟨g, off, none⟩) n c) (yar' n (strF f τ2)) :: R) rows) := by rw [← hτ2]; exact HX
      clear hτ2
      by_cases g3 : mid < e
      ·by_cases g4 : e < b
       ·have q13 : decide (mid < e) = true := decide_eq_true g3
        have q14 : decide (e < b) = true := decide_eq_true g4
        have hc2 := HI.out w τ2 mid e b (by omega) (by omega) (HCU.out.in2 HM.out HT2.out.1 g3 g4) HX.out
        go_wp2_with fail
        refine hc2.mono ?_
        rintro e1 w ⟨τ3, rfl, ho3, hx⟩
        clear HX hc2
        have HX := Lib.hid hx
        clear hx
        go_wp2_with fail
        go_end0
        exact ⟨τ3, rfl, CutOk.done (σ2 := τ2) HM.out HCU.out HT2.out.2.1 HT2.out.2.2 (fun _ => ho3) (fun hh => absurd ⟨g3, g4⟩ hh), HX.out⟩
       ·have q13 : decide (mid < e) = true := decide_eq_true g3
        have q14 : decide (e < b) = false := decide_eq_false g4
        go_wp2_with fail
        go_end0
        exact ⟨τ2, rfl, CutOk.done (σ2 := τ2) HM.out HCU.out HT2.out.2.1 HT2.out.2.2 (fun hh => absurd hh.2 g4) (fun _ => rfl), HX.out⟩
      ·have q13 : decide (mid < e) = false := decide_eq_false g3
       go_wp2_with fail
       go_end0
       exact ⟨τ2, rfl, CutOk.done (σ2 := τ2) HM.out HCU.out HT2.out.2.1 HT2.out.2.2 (fun hh => absurd hh.1 g3) (fun _ => rfl), HX.out⟩
   case pos =>
    have q0 : decide (s < r) = true := decide_eq_true hlt
    obtain ⟨hn1, hn2, hn3⟩ := ydo' (x := (mid : Int) + (m : Int) - 1 - ((s : Int) + (r : Int)) / 2) (k := mid + m - 1 - (s + r) / 2) (n := n) (by omega) (by omega) hn
    obtain ⟨hn4, hn5, hn6⟩ := ydo' (x := ((s : Int) + (r : Int)) / 2) (k := (s + r) / 2) (n := n) (by omega) (by omega) hn
    have hn7 : (((s : Int) + (r : Int)) / 2 ≤ (mid : Int) + (m : Int) - 1 ∧ (mid : Int) + (m : Int) - 1 - ((s : Int) + (r : Int)) / 2 < (n : Int)) = True := eq_true (by omega)
    go_wp2_with fail
    refine rM (fun W => Sep w0 W (yai' 1 (.slice (some ⟨g, off, none⟩) n c) (yar' n (strF f σ)) :: R) rows) 14 ?_
    intro KEEPX
    have hl : ∀ W, Sep w0 W (yai' 1 (.slice (some ⟨g, off, none⟩) n c) (yar' n (strF f σ)) :: R) rows → _ := fun W hW => ybx' (i := mid + m - 1 - (s + r) / 2) hW (by omega)
    have hl2 : ∀ W, Sep w0 W (yai' 1 (.slice (some ⟨g, off, none⟩) n c) (yar' n (strF f σ)) :: R) rows → _ := fun W hW => ybx' (i := (s + r) / 2) hW (by omega)
    replace HX := Lib.hid HX.out.drew
    refine rT [(0, false), (1, false), (2, false), (3, false), (4, false), (5, false), (6, true), (7, false), (8, false), (9, false), (10, true)] 3 ?_
    apply Exists.intro; refine ⟨?_, HX.out, ?_⟩
    ·iterate 11 (first | refine yEp ?_ | ((first | apply ya5' | apply yay'); (· (simp only [k_i, k_j, k_k]; try rfl)); (· rfl); (· (intros; go_simp; (try simp only [hn1, hn2, hn3, hn4, hn5, hn6, hn7, ↓reduceIte, and_self, Int.toNat_natCast]); try with_reducible rfl)); (· (simp only [Act.put, k_a, k_b, k_c, k_d, k_e, k_f, k_g, k_h]; try rfl))))
     exact rfl
    clear hl hl2
    refine r1 2 11 fun K hK => ?_
    go_wp2_with fail
    refine (HC.out (f (σ (mid + m - 1 - (s + r) / 2))) (f (σ ((s + r) / 2))) _ _ _ (HF.out _) (HF.out _) HX.out).mono ?_
    rintro e w ⟨z, rfl, hr, hx⟩
    replace HX := Lib.hid hx
    clear hx
    go_wp2_with fail
    refine hK _ _ HX.out ?_
    clear hK hn1 hn2 hn3 hn4 hn5 hn6 hn7
    by_cases hr0 : z < 0
    ·have q2 : decide (z < 0) = true := decide_eq_true hr0
     have hr := hr.1 hr0
     refine rT [(12, false), (13, false)] 0 ?_
     apply Exists.intro; refine ⟨?_, HX.out, ?_⟩
     ·iterate 2 (first | refine yEp ?_ | ((first | apply ya5' | apply yay'); (· (simp only [k_i, k_j, k_k]; try rfl)); (· rfl); (· (intros; go_simp; (try simp only [hn1, hn2, hn3, hn4, hn5, hn6, hn7, ↓reduceIte, and_self, Int.toNat_natCast]); try with_reducible rfl)); (· (simp only [Act.put, k_a, k_b, k_c, k_d, k_e, k_f, k_g, k_h]; try rfl))))
      exact rfl
     refine yaf' (by kernel_rfl) ?_ _
     go_wp2_with fail
     go_roundg ((s + r) / 2 - s)
     case rel => exact ⟨s, (s + r) / 2, by omega, rfl, by go_num, by omega, by omega, HG.out.1, fun x g1 g2 => by
      have k1 := HM.out.left.le (i := (s + r) / 2) (j := x) (by omega) g1 (by omega)
      have k2 := HM.out.right.le (i := mid + m - 1 - x) (j := mid + m - 1 - (s + r) / 2) (by omega) (by omega) (by omega)
      have k1 : Ky (f (σ ((s + r) / 2))) ≤ Ky (f (σ x)) := k1
      have k2 : Ky (f (σ (mid + m - 1 - x))) ≤ Ky (f (σ (mid + m - 1 - (s + r) / 2))) := k2
      omega, HX.out⟩
     case measure => omega
    ·have q2 : decide (z < 0) = false := decide_eq_false hr0
     have hr : ¬ Ky (f (σ (mid + m - 1 - (s + r) / 2))) < Ky (f (σ ((s + r) / 2))) := fun hh => hr0 (hr.2 hh)
     refine rT [(12, false), (13, false)] 0 ?_
     apply Exists.intro; refine ⟨?_, HX.out, ?_⟩
     ·iterate 2 (first | refine yEp ?_ | ((first | apply ya5' | apply yay'); (· (simp only [k_i, k_j, k_k]; try rfl)); (· rfl); (· (intros; go_simp; (try simp only [hn1, hn2, hn3, hn4, hn5, hn6, hn7, ↓reduceIte, and_self, Int.toNat_natCast]); try with_reducible rfl)); (· (simp only [Act.put, k_a, k_b, k_c, k_d, k_e, k_f, k_g, k_h]; try rfl))))
      exact rfl
     refine yaf' (by kernel_rfl) ?_ _
     go_wp2_with fail
     go_roundg (r - ((s + r) / 2 + 1))
     case rel => exact ⟨(s + r) / 2 + 1, r, by omega, by go_num, rfl, by omega, by omega, fun x g1 g2 => by
      have k1 := HM.out.left.le (i := x) (j := (s + r) / 2) (by omega) (by omega) (by omega)
      have k2 := HM.out.right.le (i := mid + m - 1 - (s + r) / 2) (j := mid + m - 1 - x) (by omega) (by omega) (by omega)
      have k1 : Ky (f (σ x)) ≤ Ky (f (σ ((s + r) / 2))) := k1
      have k2 : Ky (f (σ (mid + m - 1 - (s + r) / 2))) ≤ Ky (f (σ (mid + m - 1 - x))) := k2
      omega, HG.out.2, HX.out⟩
     case measure => omega
theorem ypd' (hc : ymb' w0 Ky ok) (hf : ∀ i, ok (f i)) (hn : n ≤ 100000) : ∀ L, SymC w0 g off n c f Ky R rows L
 | 0 => fun w σ a m b hL hb hm h => by
  have := hm.am
  have := hm.mb
  omega
 | L + 1 => fun w σ a m b hL hb hm h => by
  by_cases h1 : m = a + 1
  ·subst h1
   exact ywz' hc hf hn w σ a b hb hm h
  ·by_cases h2 : b = m + 1
   ·subst h2
    exact yw0' hc hf hn w σ a m hb (by have := hm.am; omega) hm h
   ·exact ywy' hc hf hn L (ypd' hc hf hn L) w σ a m b hL hb (by have := hm.am; omega) (by have := hm.mb; omega) hm h
end
end Go.Proofs.YtcnkifbjlihaoaaGreatDoor

namespace Go.Av
def BlkA (K : Nat → Int) (σ : Nat → Nat) (n bs a : Nat) : Prop := ∀ q, q * bs < a → q * bs < n → InBlk K σ (q * bs) (min (q * bs + bs) n)
def BlkB (K : Nat → Int) (σ : Nat → Nat) (n bs a : Nat) : Prop := ∀ q, a ≤ q * bs → q * bs < n → InBlk K σ (q * bs) (min (q * bs + bs) n)
theorem ymd' {K : Nat → Int} {σ τ : Nat → Nat} {n bs a b : Nat} (hbs : 0 < bs) {q : Nat} (ha : a = q * (2 * bs)) (hb : b = min (a + 2 * bs) n) (hm : a + bs < n) (hA : BlkA K σ n (2 * bs) a) (hB : BlkB K σ n bs a) (ho : ybk' K σ τ a b) :
  BlkA K τ n (2 * bs) (a + 2 * bs) ∧ BlkB K τ n bs (a + 2 * bs) := by
 have e1 : (2 * q) * bs = a := by rw [ha, Nat.mul_comm 2 q, Nat.mul_assoc]
 have e2 : (2 * q + 1) * bs = a + bs := by rw [Nat.add_mul, e1, Nat.one_mul]
 have b1 := hB (2 * q) (by omega) (by omega)
 have b2 := hB (2 * q + 1) (by omega) (by omega)
 rw [e1] at b1
 rw [e2] at b2
 rw [show min (a + bs) n = a + bs by omega] at b1
 rw [show min (a + bs + bs) n = b by omega] at b2
 refine ⟨fun r h1 h2 => ?_, fun r h1 h2 => ?_⟩
 ·rcases Nat.lt_trichotomy r q with h3 | h3 | h3
  ·have h4 : (r + 1) * (2 * bs) ≤ q * (2 * bs) := Nat.mul_le_mul_right _ h3
   rw [Nat.add_mul, Nat.one_mul, ← ha] at h4
   exact (hA r (by omega) h2).keep ho.1 (by omega)
  ·subst h3
   rw [← ha, ← hb]
   exact b1.join (by omega) (by omega) b2 ho
  ·have h4 : (q + 1) * (2 * bs) ≤ r * (2 * bs) := Nat.mul_le_mul_right _ h3
   rw [Nat.add_mul, Nat.one_mul, ← ha] at h4
   omega
 ·exact (hB r (by omega) h2).keep ho.1 (by omega)
theorem yvd' {K : Nat → Int} {σ : Nat → Nat} {n bs a : Nat} {q : Nat} (hbs : 0 < bs) (ha : a = q * (2 * bs)) (hm : n ≤ a + bs) (hA : BlkA K σ n (2 * bs) a) (hB : BlkB K σ n bs a) : BlkA K σ n (2 * bs) n := by
 intro r h1 h2
 rcases Nat.lt_trichotomy r q with h3 | h3 | h3
 ·have h4 : (r + 1) * (2 * bs) ≤ q * (2 * bs) := Nat.mul_le_mul_right _ h3
  rw [Nat.add_mul, Nat.one_mul, ← ha] at h4
  exact hA r (by omega) h2
 ·subst h3
  have e1 : (2 * r) * bs = a := by rw [ha, Nat.mul_comm 2 r, Nat.mul_assoc]
  have b1 := hB (2 * r) (by omega) (by omega)
  rw [e1] at b1
  rw [← ha]
  rw [← ha] at h2
  rw [show min (a + 2 * bs) n = min (a + bs) n by omega]
  exact b1
 ·have h4 : (q + 1) * (2 * bs) ≤ r * (2 * bs) := Nat.mul_le_mul_right _ h3
  rw [Nat.add_mul, Nat.one_mul, ← ha] at h4
  omega
theorem BlkA.whole {K : Nat → Int} {σ : Nat → Nat} {n bs : Nat} (h : BlkA K σ n bs n) (hn : n ≤ bs) : InBlk K σ 0 n := by
 by_cases h0 : n = 0
 ·subst h0
  exact ⟨fun i j g1 g2 g3 => by omega, fun i g1 g2 => by omega⟩
 ·have := h 0 (by omega) (by omega)
  rw [Nat.zero_mul, Nat.zero_add, show min bs n = n by omega] at this
  exact this
end Go.Av
namespace Go.Proofs.YtcnkifbjlihaoaaGreatDoor
open Go.RowKit Go.Av
section
variable {w0 : World} {R : List Thing} {rows : List (Value × Bs)} {g off n c : Nat} {f : Nat → Bs} {Ky : Bs → Int} {ok : Bs → Prop}
set_option maxRecDepth 100000 in
set_option maxHeartbeats 8000000 in
theorem yru' (hc : ymb' w0 Ky ok) (hf : ∀ i, ok (f i)) (hn : n ≤ 100000) (w : World) (h : Sep w0 w (yai' 1 (.slice (some ⟨g, off, none⟩) n c) (yar' n (strF f fun i => i)) :: R) rows) :
  Calls Tryz.prog 189 #[.slice (some ⟨g, off, none⟩) n c, .int .i64 (n : Int), yja'] w (yex' w0 g off n c f R rows fun τ => PermF 0 n (fun i => i) τ ∧ InBlk (fun i => Ky (f i)) τ 0 n) := by
 have HC := Lib.hid hc
 have HF := Lib.hid hf
 have HX := Lib.hid h
 clear h hc hf
 go_enter Tryz.func189, Tryz.ntmps189
 go_wp2_with fail
 go_loopg [7, 8] n (fun k v v' wr => ∃ (q a : Nat) (σ : Nat → Nat), a = q * 20 ∧ n - a = k ∧ a ≤ n ∧ v = .int .i64 (a : Int) ∧ v' = .int .i64 ((a : Int) + 20) ∧ PermF 0 n (fun i => i) σ ∧ (∀ x, a ≤ x → x < n → σ x = x) ∧ BlkA (fun i => Ky (f i)) σ n 20 a ∧
  Sep w0 wr (yai' 1 (.slice (some ⟨g, off, none⟩) n c) (yar' n (strF f σ)) :: R) rows)
 case atStart => exact ⟨0, 0, fun i => i, by omega, by omega, by omega, by go_num, by go_num, .refl _ _ _, fun x _ _ => rfl, fun q g1 g2 => by omega, HX.out⟩
 case round =>
  rename World => w
  obtain ⟨q, a, σ, haq, hk, han, rfl, rfl, hp, hid, hA, hS⟩ := hrel
  replace HX := Lib.hid hS
  have HT := Lib.hid (show _ ∧ _ ∧ _ from ⟨hp, hid, hA⟩)
  clear hS hp hid hA
  have HQ := Lib.hid (show _ ∧ _ from ⟨haq, hk⟩)
  clear haq hk
  by_cases hlt : a + 20 ≤ n
  case pos =>
   have q0 : decide ((a : Int) + 20 ≤ (n : Int)) = true := decide_eq_true (by omega)
   have hc2 := ygr' HC.out HF.out HX.out a (a + 20) (by omega) hlt hn (fun x g1 g2 => HT.out.2.1 x g1 (by omega))
   rw [show ((a + 20 : Nat) : Int) = (a : Int) + 20 by omega] at hc2
   go_wp2_with fail
   refine hc2.mono ?_
   rintro e w ⟨τ, rfl, ⟨hp, hb⟩, hx⟩
   clear HX hc2
   have HX := Lib.hid hx
   have HN := Lib.hid (show _ ∧ _ from ⟨hp, hb⟩)
   clear hx hp hb
   go_wp2_with fail
   go_roundg (n - (a + 20))
   case rel =>
    refine ⟨q + 1, a + 20, τ, by have := HQ.out.1; omega, rfl, hlt, by go_num, by go_num, HT.out.1.trans (HN.out.1.wide (by omega) (by omega)), fun x g1 g2 => ?_, fun r g1 g2 => ?_, HX.out⟩
    ·rw [HN.out.1.out x (by omega)]
     exact HT.out.2.1 x (by omega) g2
    ·have hq := HQ.out.1
     by_cases hr : r * 20 < a
     ·exact (HT.out.2.2 r hr g2).keep HN.out.1 (by omega)
     ·have : r = q := by omega
      rw [this, ← hq, show min (a + 20) n = a + 20 by omega]
      exact HN.out.2
   case measure => have := HQ.out.2; omega
  case neg =>
   have q0 : decide ((a : Int) + 20 ≤ (n : Int)) = false := decide_eq_false (by omega)
   have hc2 := ygr' HC.out HF.out HX.out a n han (Nat.le_refl _) hn (fun x g1 g2 => HT.out.2.1 x g1 g2)
   go_wp2_with fail
   refine hc2.mono ?_
   rintro e w ⟨τ, rfl, ⟨hp, hb⟩, hx⟩
   have hA : BlkA (fun i => Ky (f i)) τ n 20 n := fun r g1 g2 => by
    have hq := HQ.out.1
    by_cases hr : r * 20 < a
    ·exact (HT.out.2.2 r hr g2).keep hp (by omega)
    ·have hq := HQ.out.1
     have : r = q := by omega
     rw [this, ← hq, show min (a + 20) n = n by omega]
     exact hb
   have hP := HT.out.1.trans (hp.wide (by omega) (Nat.le_refl _))
   clear HX hc2 HT
   have HX := Lib.hid hx
   have HB := Lib.hid (show _ ∧ _ from ⟨hA, hP⟩)
   clear hx hp hb hA hP hlt han q0
   go_wp2_with fail
   go_loopg [6] (n - 20) (fun k v wr => ∃ (bs : Nat) (σ : Nat → Nat), n - bs = k ∧ v = .int .i64 (bs : Int) ∧ 0 < bs ∧ bs ≤ 200000 ∧ PermF 0 n (fun i => i) σ ∧ BlkA (fun i => Ky (f i)) σ n bs n ∧
    Sep w0 wr (yai' 1 (.slice (some ⟨g, off, none⟩) n c) (yar' n (strF f σ)) :: R) rows)
   case atStart => exact ⟨20, τ, by omega, by go_num, by omega, by omega, HB.out.2, HB.out.1, HX.out⟩
   case round =>
    rename World => w
    obtain ⟨bs, ρ, hk, rfl, hb0, hb2, hp, hA, hS⟩ := hrel
    clear HX HB
    have HX := Lib.hid hS
    have HB := Lib.hid (show _ ∧ _ ∧ _ from ⟨hp, hA, hk⟩)
    clear hS hp hA hk
    by_cases hbn : bs < n
    case neg =>
     have q1 : decide (bs < n) = false := decide_eq_false hbn
     go_wp2_with fail
     go_end0
     exact ⟨ρ, rfl, ⟨HB.out.1, HB.out.2.1.whole (by omega)⟩, HX.out⟩
    case pos =>
     have q1 : decide (bs < n) = true := decide_eq_true hbn
     go_wp2_with fail
     go_loopg [7, 8] n (fun k v v' wr => ∃ (q a : Nat) (σ : Nat → Nat), a = q * (2 * bs) ∧ n - a = k ∧ a ≤ n ∧ v = .int .i64 (a : Int) ∧ v' = .int .i64 ((a : Int) + 2 * (bs : Int)) ∧ PermF 0 n (fun i => i) σ ∧ BlkA (fun i => Ky (f i)) σ n (2 * bs) a ∧ BlkB (fun i => Ky (f i)) σ n bs a ∧
      Sep w0 wr (yai' 1 (.slice (some ⟨g, off, none⟩) n c) (yar' n (strF f σ)) :: R) rows)
     case atStart => exact ⟨0, 0, ρ, by omega, by omega, by omega, by go_num, by go_num, HB.out.1, fun q g1 g2 => by omega, fun q g1 g2 => HB.out.2.1 q g2 g2, HX.out⟩
     case round =>
      rename World => w
      obtain ⟨q, a, σ, haq, hk, han, rfl, rfl, hp, hA, hB, hS⟩ := hrel
      have HZ := Lib.hid HB.out.2.2
      clear HX HB
      have HX := Lib.hid hS
      have HT := Lib.hid (show _ ∧ _ ∧ _ from ⟨hp, hA, hB⟩)
      have HQ := Lib.hid (show _ ∧ _ from ⟨haq, hk⟩)
      have e1 : (2 * q) * bs = a := by rw [haq, Nat.mul_comm 2 q, Nat.mul_assoc]
      have e2 : (2 * q + 1) * bs = a + bs := by rw [Nat.add_mul, e1, Nat.one_mul]
      have hin : a + bs < n → MergIn (fun i => Ky (f i)) σ a (a + bs) (min (a + 2 * bs) n) := fun hh => by
       have b1 := hB (2 * q) (by omega) (by omega)
       have b2 := hB (2 * q + 1) (by omega) (by omega)
       rw [e1] at b1
       rw [e2] at b2
       rw [show min (a + bs) n = a + bs by omega] at b1
       rw [show min (a + bs + bs) n = min (a + 2 * bs) n by omega] at b2
       exact b1.merg b2 (by omega) (by omega)
      clear hS hp hA hB haq hk e1 e2
      by_cases hlt : a + 2 * bs ≤ n
      case pos =>
       have q2 : decide ((a : Int) + 2 * (bs : Int) ≤ (n : Int)) = true := decide_eq_true (by omega)
       have hmi := hin (by omega)
       rw [show min (a + 2 * bs) n = a + 2 * bs by omega] at hmi
       have hc2 := ypd' HC.out HF.out hn (2 * bs) w σ a (a + bs) (a + 2 * bs) (by omega) hlt hmi HX.out
       rw [show ((a + bs : Nat) : Int) = (a : Int) + (bs : Int) by omega, show ((a + 2 * bs : Nat) : Int) = (a : Int) + 2 * (bs : Int) by omega] at hc2
       have HC2 := Lib.hid hc2
       clear hc2 hmi hin
       go_wp2_with fail
       refine HC2.out.mono ?_
       rintro e w ⟨υ, rfl, ho, hx⟩
       have hbm := ymd' hb0 HQ.out.1 (show a + 2 * bs = min (a + 2 * bs) n by omega) (by omega) HT.out.2.1 HT.out.2.2 ho
       clear HX HC2
       have HX := Lib.hid hx
       have HN := Lib.hid (show _ ∧ _ from ⟨ho, hbm⟩)
       clear hx ho hbm
       go_wp2_with fail
       go_roundg (n - (a + 2 * bs))
       case rel => exact ⟨q + 1, a + 2 * bs, υ, by have := HQ.out.1; rw [Nat.add_mul]; omega, rfl, hlt, by go_num, by go_num, HT.out.1.trans (HN.out.1.1.wide (by omega) (by omega)), HN.out.2.1, HN.out.2.2, HX.out⟩
       case measure => have := HQ.out.2; omega
      case neg =>
       have q2 : decide ((a : Int) + 2 * (bs : Int) ≤ (n : Int)) = false := decide_eq_false (by omega)
       by_cases hm : a + bs < n
       ·have q3 : decide ((a : Int) + (bs : Int) < (n : Int)) = true := decide_eq_true (by omega)
        have hmi := hin hm
        rw [show min (a + 2 * bs) n = n by omega] at hmi
        have hc2 := ypd' HC.out HF.out hn (2 * bs) w σ a (a + bs) n (by omega) (Nat.le_refl _) hmi HX.out
        rw [show ((a + bs : Nat) : Int) = (a : Int) + (bs : Int) by omega] at hc2
        have HC2 := Lib.hid hc2
        clear hc2 hmi hin
        go_wp2_with fail
        refine HC2.out.mono ?_
        rintro e w ⟨υ, rfl, ho, hx⟩
        have hbm := ymd' hb0 HQ.out.1 (show n = min (a + 2 * bs) n by omega) hm HT.out.2.1 HT.out.2.2 ho
        clear HX HC2
        have HX := Lib.hid hx
        have HN := Lib.hid (show _ ∧ _ from ⟨ho, hbm⟩)
        clear hx ho hbm
        go_wp2_with fail
        go_roundg (n - bs * 2)
        case rel => exact ⟨bs * 2, υ, rfl, by go_num, by omega, by omega, HT.out.1.trans (HN.out.1.1.wide (by omega) (by omega)), fun r g1 g2 => by
         have := HN.out.2.1 r
         rw [Nat.mul_comm bs 2] at g1 g2 ⊢
         exact this (by omega) g2, HX.out⟩
        case measure => have := HZ.out; omega
       ·have q3 : decide ((a : Int) + (bs : Int) < (n : Int)) = false := decide_eq_false (by omega)
        have hbl := yvd' hb0 HQ.out.1 (by omega) HT.out.2.1 HT.out.2.2
        have HN := Lib.hid hbl
        clear hbl hin
        go_wp2_with fail
        go_roundg (n - bs * 2)
        case rel => exact ⟨bs * 2, σ, rfl, by go_num, by omega, by omega, HT.out.1, by rw [Nat.mul_comm bs 2]; exact HN.out, HX.out⟩
        case measure => have := HZ.out; omega
set_option maxRecDepth 100000 in
theorem yj0' (hc : ymb' w0 Ky ok) (hf : ∀ i, ok (f i)) (hn : n ≤ 100000) (w : World) (h : Sep w0 w (yai' 1 (.slice (some ⟨g, off, none⟩) n c) (yar' n (strF f fun i => i)) :: R) rows) :
  Calls Tryz.prog 153 #[.slice (some ⟨g, off, none⟩) n c, yja'] w (yex' w0 g off n c f R rows fun τ => PermF 0 n (fun i => i) τ ∧ InBlk (fun i => Ky (f i)) τ 0 n) := by
 have HS := Lib.hid (yru' hc hf hn w h)
 clear hc hf h
 go_enter Tryz.func153, Tryz.ntmps153
 go_wp2_with fail
 refine HS.out.mono ?_
 rintro e w ⟨τ, rfl, hx⟩
 have HX := Lib.hid hx
 clear hx HS
 go_wp2_with fail
 go_end0
 exact ⟨τ, rfl, HX.out⟩
end
end Go.Proofs.YtcnkifbjlihaoaaGreatDoor

namespace Go.Av
open Go.RowKit Go.Maps Go.Sort
def yke' : Value → Option (DataW Unit × List MemPlace) := fun _ => some (.nil, [])
theorem yx0' {P : Program} {k : TypeId} (hk : P.underlying k = some .string) (s : ByteArray) (hs : s.size ≤ maxLen) (e : MapEntry) (he : e.key = .string s) : WideElems.rd P k yke' e = some (.string s.data.toList, .nil) := by
 simp [WideElems.rd, he, keyOf, hk, mapKey, hs, yke']
theorem yri' {P : Program} {w : World} {k : TypeId} {m : Nat} {l : List (ByteArray × Value)} (h : MapIs w .string m (l.map fun x => (.string x.1, x.2))) (hk : P.underlying k = some .string) (hn : l.length ≤ 1000000) (hs : ∀ x ∈ l, x.1.size ≤ maxLen) :
  ∃ D0 : DataW Unit, w.ownsMap P k yke' m l.length D0 ∧ size D0 = l.length ∧ (strKeys D0).Perm (l.map fun x => x.1.data.toList) := by
 obtain ⟨es, clock, h1, h2, h3, h4⟩ := h
 have hlen : es.size = l.length := by
  have := congrArg List.length h4
  simpa using this
 have hall : ∀ e ∈ es.toList, ∃ x ∈ l, e.key = .string x.1 := by
  intro e he
  have hm : kv e ∈ l.map fun x => (Value.string x.1, x.2) := by rw [← h4]; exact List.mem_map_of_mem he
  obtain ⟨x, hx, hxe⟩ := List.mem_map.1 hm
  exact ⟨x, hx, (congrArg Prod.fst hxe).symm⟩
 refine ⟨_, ⟨es, clock, h1, ⟨by rw [hlen]; unfold maxLen; omega, h2, fun e he => ?_⟩, by omega, rfl⟩, ?_, ?_⟩
 ·obtain ⟨x, hx, hk'⟩ := hall e he
  exact ⟨_, yx0' hk x.1 (hs x hx) e hk'⟩
 ·rw [size_eq, (WideShapes.sorted_perm _).length_eq]
  simpa using hlen
 ·have e1 : (es.toList.map (WideElems.rg P k yke')).map (fun p => strOf p.1) = l.map fun x => x.1.data.toList := by
   have e2 : es.toList.map (fun e => (kv e).1) = l.map fun x => Value.string x.1 := by
    have := congrArg (List.map Prod.fst) h4
    simpa [Function.comp_def] using this
   have e3 : es.toList.map (fun e => strOf (WideElems.rg P k yke' e).1) = (es.toList.map (fun e => (kv e).1)).map fun v => match v with | .string s => s.data.toList | _ => [] := by
    rw [List.map_map]
    refine List.map_congr_left fun e he => ?_
    obtain ⟨x, hx, hk'⟩ := hall e he
    have hke : (kv e).1 = .string x.1 := hk'
    simp [Function.comp, hke, WideElems.rg, yx0' hk x.1 (hs x hx) e hk', strOf]
   rw [List.map_map, Function.comp_def, e3, e2, List.map_map]
   rfl
  rw [← e1]
  exact (WideShapes.sorted_perm _).map _
theorem ywo' {w : World} {base : Nat} {e : TypeId} {v : Value} {n : Nat} {xs : List Value} (h : w.ownsRow base e 1 v n xs) : ∃ E, ReadRow w 1 v xs E ∧ ∀ b ∈ E, base ≤ b := by
 obtain ⟨hl, ⟨rfl, rfl⟩ | ⟨g, cap, cur, rfl, hg, hh, hn, hc, hs, hx⟩⟩ := h
 ·obtain rfl : xs = [] := List.length_eq_zero_iff.1 (by omega)
  exact ⟨[], ⟨none, 0, 0, rfl, rfl, Nat.le_refl _, by decide, fun _ => rfl, .inl ⟨rfl, rfl⟩⟩, by simp⟩
 ·refine ⟨[g], ⟨_, n, cap, rfl, hl, hn, hc, (fun h => by cases h), .inr ⟨g, 0, rfl, rfl, ybc' hh, fun i x hi => ?_⟩⟩, by simpa using hg⟩
  rw [cell_of_row w g (0 + i) cur e _ hh, ← hx] at *
  rw [List.getElem?_take] at hi
  split at hi
  ·simpa using hi
  ·cases hi
end Go.Av
