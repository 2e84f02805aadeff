/-
  Texts of this claim, laid together.
-/
import Derived.Test.YtcnkifbjlihaoaaGreatDoorMb6
import Derived.Deep.DeepCutAuto
import Derived.Deep.CutBlock
set_option linter.unusedVariables false
set_option linter.unusedSimpArgs false

namespace Go.Proofs.YtcnkifbjlihaoaaGreatDoor
open Go.RowKit Go.Av
theorem yr9' (p l : Bs) : ((⟨p.toArray⟩ : ByteArray).toList == (⟨l.toArray⟩ : ByteArray).toList) = (p == l) := by
 rw [Lib.toList_data, Lib.toList_data]
section
variable {w0 w : World} {P P' : List PRow} {R : List Thing} {rows : List (Value × Bs)}
def ysz' (w0 : World) (o : Option (Int × Int × List OpS)) (P : List PRow) (R : List Thing) (rows : List (Value × Bs)) (e : Ending) (w' : World) : Prop :=
 ∃ vs P', e = .returned (.tuple #[.agg #[.int .i64 (o.getD (0, 0, [])).1, .int .i64 (o.getD (0, 0, [])).2.1, vs], .bool o.isSome]) ∧ (∀ q ∈ P, q ∈ P') ∧ (5, vs, (o.getD (0, 0, [])).2.2.flatMap OpS.cells) ∈ P' ∧ Sep w0 w' (yab' w0 P' :: R) rows
def yu8' (w0 : World) (r b q : Nat) (s n : Int) (K : Nat) (d : Rd) (P : List PRow) (R : List Thing) (rows : List (Value × Bs)) (k : Nat) (v7 : Value) (w : World) : Prop :=
 ∃ (i : Nat) (os : List OpS) (dl : Bs) (db : Bool) (a : Option Addr) (n' c' : Nat), i + k = K ∧ v7 = .int .i64 (i : Int) ∧ ops5 K d = (os ++ (ops5 (K - i) (dl, db)).1, (ops5 (K - i) (dl, db)).2) ∧ os.length = i ∧ (∀ o ∈ os, o.path.size ≤ 100000) ∧
  Sep w0 w (ThRf r (dl, db) P :: yab' w0 P :: yac' q (.cells #[.int .i64 s, .int .i64 n, .slice a n' c'] 44 (0, 0)) :: ybc' 5 (.slice a n' c') (os.flatMap OpS.cells) ::
  yac' b (.cells #[.int .i64 0, .int .i64 0, .slice none 0 0] 44 (0, 0)) :: R) rows
def G5S (w0 : World) (q : Nat) (cs : Array Value) (x : PRow) (rows : List (Value × Bs)) (W : World) : Prop := ∃ P Ts, x ∈ P ∧ Sep w0 W (yac' q (.cells cs 44 (0, 0)) :: yab' w0 P :: Ts) rows
theorem G5S.l1 {q : Nat} {cs : Array Value} {x : PRow} (h : G5S w0 q cs x rows w) (hn : 3 ≤ cs.size) : (Instr.loadAt 44 (.pointer (some ⟨q, 0, none⟩))).run Tryz.prog w = .ok (.agg ((cs.toList.drop 0).take 3).toArray) w := by
 obtain ⟨P, Ts, -, hV⟩ := h
 exact yat' (i := 0) sn_x3.1 hV.blk hn
theorem G5S.l2 {q : Nat} {cs : Array Value} {v : Value} {l : Bs} (h : G5S w0 q cs (1, v, l.map bv) rows w) : (convert 71 9 v).run Tryz.prog w = .ok (.string ⟨l.toArray⟩) w := by
 obtain ⟨P, Ts, hx, hV⟩ := h
 obtain ⟨E, hE⟩ := hV.up1.poolGet hx
 exact Go.Av.conv_str Tryz.underlying71 Tryz.underlying5 Tryz.underlying9 hE w (fun _ _ => rfl)
set_option maxRecDepth 100000 in
set_option maxHeartbeats 8000000 in
theorem ynr' (h : Sep w0 w (yab' w0 P :: R) rows) (v : Value) (l : Bs) (hv : (1, v, l.map bv) ∈ P) (hl : l.length ≤ 1000000) :
  Calls Tryz.prog 111 #[v] w (ysz' w0 (getR l) P R rows) := by
 obtain ⟨E0, hE0⟩ := h.poolGet hv
 obtain ⟨a0, n0, c0, rfl, -⟩ := ReadRow.some hE0
 have HV := Lib.hid (show _ ∧ _ from ⟨hv, hl⟩)
 have HX := Lib.hid h
 clear hE0
 obtain ⟨o, ho⟩ : ∃ o, getR l = o := ⟨_, rfl⟩
 rw [ho]
 have HO := Lib.hid ho
 clear h hv hl ho
 obtain ⟨⟨s, d1⟩, h1⟩ : ∃ x, i64R (l, false) = x := ⟨_, rfl⟩
 obtain ⟨⟨n, d2⟩, h2⟩ : ∃ x, i64R d1 = x := ⟨_, rfl⟩
 obtain ⟨⟨kk, d3⟩, h3⟩ : ∃ x, cntR 16 d2 = x := ⟨_, rfl⟩
 have hb3 := yct' (most := 16) (by omega) d2
 rw [h3] at hb3
 dsimp only at hb3
 obtain ⟨K, rfl⟩ : ∃ K : Nat, kk = (K : Int) := ⟨kk.toNat, by omega⟩
 have HD := Lib.hid (show raw5 l = ((s, n, (ops5 K d3).1), (ops5 K d3).2) by unfold raw5; rw [h1]; dsimp only; rw [h2]; dsimp only; rw [h3]; dsimp only; rw [Int.toNat_natCast])
 have H1 := Lib.hid h1
 have H2 := Lib.hid h2
 have H3 := Lib.hid h3
 have HK := Lib.hid (show K ≤ 16 by omega)
 clear h1 h2 h3 hb3
 go_enter Tryz.func111, Tryz.ntmps111
 go_wp2_with (first | refine u0 ?_ | (refine uS ?_; clear HX; intro w HX) | (refine uA ?_; clear HX; (first | (have hq := b3; clear hq; intro w b4 HX) | (have hq := b2; clear hq; intro w b3 HX) | (have hq := b; clear hq; intro w b2 HX) | intro w b HX)) | (refine uP ?_; clear HX; intro w av nv cv HX))
 have hx := (yvp' HX.out HV.out.1).up2.up1
 replace HX := Lib.hid hx
 clear hx
 refine (ygz' HX.out).mono ?_
 rw [H1.out]
 rintro e w ⟨rfl, hx⟩
 replace HX := Lib.hid hx
 clear hx
 go_wp2_with (first | refine u0 ?_ | (refine uS ?_; clear HX; intro w HX) | (refine uA ?_; clear HX; (first | (have hq := b3; clear hq; intro w b4 HX) | (have hq := b2; clear hq; intro w b3 HX) | (have hq := b; clear hq; intro w b2 HX) | intro w b HX)) | (refine uP ?_; clear HX; intro w av nv cv HX))
 refine (ygz' HX.out).mono ?_
 rw [H2.out]
 rintro e w ⟨rfl, hx⟩
 replace HX := Lib.hid hx
 clear hx
 go_wp2_with (first | refine u0 ?_ | (refine uS ?_; clear HX; intro w HX) | (refine uA ?_; clear HX; (first | (have hq := b3; clear hq; intro w b4 HX) | (have hq := b2; clear hq; intro w b3 HX) | (have hq := b; clear hq; intro w b2 HX) | intro w b HX)) | (refine uP ?_; clear HX; intro w av nv cv HX))
 refine (ydz' HX.out.up1.up2.up1 16).mono ?_
 rw [H3.out]
 rintro e w ⟨rfl, hx⟩
 replace HX := Lib.hid hx
 clear hx
 go_wp2_with (first | refine u0 ?_ | (refine uS ?_; clear HX; intro w HX) | (refine uA ?_; clear HX; (first | (have hq := b3; clear hq; intro w b4 HX) | (have hq := b2; clear hq; intro w b3 HX) | (have hq := b; clear hq; intro w b2 HX) | intro w b HX)) | (refine uP ?_; clear HX; intro w av nv cv HX))
 obtain ⟨dl3, db3⟩ := d3
 have HST := Lib.hid (show yu8' w0 b2 b b3 s n K (dl3, db3) P R rows K (.int .i64 (0 : Int)) w from ⟨0, [], dl3, db3, none, 0, 0, by omega, rfl, by simp, rfl, by simp, (HX.out.nilRow 5).pm 5 [1, 2, 3, 0, 4] rfl rfl⟩)
 clear HX
 go_loopg [7, 8] K (fun k v7 _ wr => yu8' w0 b2 b b3 s n K (dl3, db3) P R rows k v7 wr)
 case atStart => exact HST.out
 case round =>
  rename World => w
  obtain ⟨i, os, dl, db, a, n', c', hik, rfl, hod, hlen, hps, hS⟩ := hrel
  clear HST
  have HX := Lib.hid hS
  clear hS
  by_cases hlt : i < K
  case neg =>
   have hfin : ops5 K (dl3, db3) = (os, (dl, db)) := by
    rw [hod, show K - i = 0 by omega]
    simp [ops5]
   have q0 : decide ((i : Int) < (K : Int)) = false := decide_eq_false (by omega)
   have q1 : decide (i < K) = false := decide_eq_false hlt
   clear hlt hik hod hlen
   have hgo : o = if endR (dl, db) = true ∧ putR s n os = l ∧ mayS s n os = 0 then some (s, n, os) else none := by
    rw [← HO.out, ← yqd']
    unfold get5
    rw [HD.out, hfin]
   have HGO := Lib.hid hgo
   have HPS := Lib.hid hps
   clear hgo HO hfin hps
   go_wp2_with (first | refine u0 ?_ | (refine uS ?_; clear HX; intro w HX) | (refine uA ?_; clear HX; (first | (have hq := b3; clear hq; intro w b4 HX) | (have hq := b2; clear hq; intro w b3 HX) | (have hq := b; clear hq; intro w b2 HX) | intro w b HX)) | (refine uP ?_; clear HX; intro w av nv cv HX) | fail)
   skip
   have hx := ygn' (P' := (5, .slice a n' c', os.flatMap OpS.cells) :: P) HX.out.up3.up2.up1.poolRow.up1 (fun q hq => k_n _ hq)
   replace HX := Lib.hid hx
   clear hx
   refine rM (fun W => G5S w0 b3 #[.int .i64 s, .int .i64 n, .slice a n' c'] (1, .slice a0 n0 c0, l.map bv) rows W) 16 ?_
   intro KEEPX
   replace HX := Lib.hid HX.out.drew
   have hl := fun V (hV : G5S w0 b3 #[.int .i64 s, .int .i64 n, .slice a n' c'] (1, .slice a0 n0 c0, l.map bv) rows V) => hV.l1 (by simp)
   simp only [k_d, k_f, k_g, k_h] at hl
   have hcv := fun V (hV : G5S w0 b3 #[.int .i64 s, .int .i64 n, .slice a n' c'] (1, .slice a0 n0 c0, l.map bv) rows V) => hV.l2
   refine rT [(0, false)] 15 ?_
   apply Exists.intro; refine ⟨?_, ⟨_, _, k_n _ HV.out.1, HX.out.up2.up2.up1⟩, ?_⟩
   ·iterate 1 (refine xE ?_)
    exact rfl
   refine r1 14 1 fun K hK => ?_
   go_wp2_with fail
   refine (yrt' HX.out).mono ?_
   obtain ⟨ze, hze⟩ : ∃ z, endR (dl, db) = z := ⟨_, rfl⟩
   have hze2 : (!(dl, db).2 && (dl, db).1.isEmpty) = ze := hze
   rw [hze2]
   rintro e w ⟨rfl, hx⟩
   clear hze2
   rw [hze] at HGO
   replace HX := Lib.hid hx
   clear hx
   go_wp2_with fail
   refine hK _ _ ⟨_, _, k_n _ HV.out.1, HX.out.up2.up2.up1⟩ ?_
   clear hK hze
   cases ze with
   | false =>
    obtain rfl : o = none := HGO.out.trans (if_neg (by simp))
    refine rT [(2, false), (3, false), (4, true), (7, false), (8, true)] 9 ?_
    apply Exists.intro; refine ⟨?_, ⟨_, _, k_n _ HV.out.1, HX.out.up2.up2.up1⟩, ?_⟩
    ·iterate 5 (refine xE ?_)
     exact rfl
    apply yb7' (fuel := 8) (i := 5)
    ·kernel_rfl
    ·simp only [k_i, k_j, k_k]; try rfl
    ·rfl
    ·simp only [Act.put, k_a, k_b, k_c]; try rfl
    ·exact ⟨_, _, k_n _ HV.out.1, HX.out.up2.up2.up1⟩
    refine rT [(6, true), (9, false), (10, false), (11, false), (12, true)] 3 ?_
    apply Exists.intro; refine ⟨?_, ⟨_, _, k_n _ HV.out.1, HX.out.up2.up2.up1⟩, ?_⟩
    ·iterate 5 (refine xE ?_)
     exact rfl
    apply yb7' (fuel := 2) (i := 13)
    ·kernel_rfl
    ·simp only [k_i, k_j, k_k]; try rfl
    ·rfl
    ·simp only [Act.put, k_a, k_b, k_c]; try rfl
    ·exact ⟨_, _, k_n _ HV.out.1, HX.out.up2.up2.up1⟩
    refine rT [(14, false), (15, false)] 0 ?_
    apply Exists.intro; refine ⟨?_, ⟨_, _, k_n _ HV.out.1, HX.out.up2.up2.up1⟩, ?_⟩
    ·iterate 2 (refine xE ?_)
     exact rfl
    refine yah' (by kernel_rfl) ?_ _
    clear hl hcv
    go_wp2_with (first | refine u0 ?_ | (refine uS ?_; clear HX; intro w HX) | (refine uA ?_; clear HX; (first | (have hq := b3; clear hq; intro w b4 HX) | (have hq := b2; clear hq; intro w b3 HX) | (have hq := b; clear hq; intro w b2 HX) | intro w b HX)) | (refine uP ?_; clear HX; intro w av nv cv HX))
    refine ybp' HX rfl rfl (by (repeat (first | (with_reducible exact k_s) | (with_reducible apply k_m)))) (by kernel_rfl) ?_
    exact ⟨.slice none 0 0, (5, .slice none 0 0, []) :: _, rfl, fun q hq => k_n _ (k_n _ hq), k_s, HX.out.up1.cut1.cut1.cut1.poolNil 5⟩
   | true =>
    refine rT [(2, false), (3, false), (4, true), (7, false), (8, true)] 9 ?_
    apply Exists.intro; refine ⟨?_, ⟨_, _, k_n _ HV.out.1, HX.out.up2.up2.up1⟩, ?_⟩
    ·iterate 5 (first | refine xE ?_ | ((apply ybx' hcv); (· (simp only [k_i, k_j, k_k]; try rfl)); (· rfl); (· rfl); (· rfl)))
     exact rfl
    clear hcv
    refine r1 8 5 fun K hK => ?_
    go_wp2_with fail
    refine (yhg' HX.out.up1 s n os _ k_s HPS.out).mono ?_
    obtain ⟨pb, hpb⟩ : ∃ pb, putR s n os = pb := ⟨_, rfl⟩
    rw [hpb]
    rw [hpb] at HGO
    rintro e w ⟨v5, rfl, hx⟩
    have hx := hx.poolRow
    replace HX := Lib.hid hx
    clear hx
    clear hpb
    go_wp2_with fail
    refine hK _ _ ⟨_, _, k_n _ (k_n _ HV.out.1), HX.out.up2⟩ ?_
    clear hK
    have hcv5 := yfs' HX.out k_s
    have q4 : ((⟨pb.toArray⟩ : ByteArray).toList == (⟨l.toArray⟩ : ByteArray).toList) = (pb == l) := yr9' pb l
    refine r1 7 6 fun K hK => ?_
    go_wp2_with fail
    refine hK _ _ ⟨_, _, k_n _ (k_n _ HV.out.1), HX.out.up2⟩ ?_
    clear hK hcv5
    obtain ⟨zs, hzs⟩ : ∃ z, (pb == l) = z := ⟨_, rfl⟩
    rw [hzs] at q4
    have q5 : ((⟨pb.toArray⟩ : ByteArray).toList != (⟨l.toArray⟩ : ByteArray).toList) = !zs := by rw [bne, q4]
    cases zs with
    | false =>
     obtain rfl : o = none := HGO.out.trans (if_neg (fun hh => by rw [hh.2.1] at hzs; simp at hzs))
     refine rT [(9, false), (10, false), (11, false), (12, true)] 3 ?_
     apply Exists.intro; refine ⟨?_, ⟨_, _, k_n _ (k_n _ HV.out.1), HX.out.up2⟩, ?_⟩
     ·iterate 4 (first | refine xE ?_ | ((first | apply yav' | apply yas'); (· (simp only [k_i, k_j, k_k]; try rfl)); (· rfl); (· (intros; go_simp; (try simp only [q4, q5, ↓reduceIte, and_self, Int.toNat_natCast]); try with_reducible rfl)); (· (simp only [Act.put, k_a, k_b, k_c, k_d, k_e, k_f, k_g, k_h, NodeS.cells, OpS.cells, ResS.cells]; try rfl))))
      exact rfl
     apply yb7' (fuel := 2) (i := 13)
     ·kernel_rfl
     ·simp only [k_i, k_j, k_k]; try rfl
     ·rfl
     ·simp only [Act.put, k_a, k_b, k_c]; try rfl
     ·exact ⟨_, _, k_n _ (k_n _ HV.out.1), HX.out.up2⟩
     refine rT [(14, false), (15, false)] 0 ?_
     apply Exists.intro; refine ⟨?_, ⟨_, _, k_n _ (k_n _ HV.out.1), HX.out.up2⟩, ?_⟩
     ·iterate 2 (first | refine xE ?_ | ((first | apply yav' | apply yas'); (· (simp only [k_i, k_j, k_k]; try rfl)); (· rfl); (· (intros; go_simp; (try simp only [q4, q5, ↓reduceIte, and_self, Int.toNat_natCast]); try with_reducible rfl)); (· (simp only [Act.put, k_a, k_b, k_c, k_d, k_e, k_f, k_g, k_h, NodeS.cells, OpS.cells, ResS.cells]; try rfl))))
      exact rfl
     refine yah' (by kernel_rfl) ?_ _
     clear hl
     go_wp2_with (first | refine u0 ?_ | (refine uS ?_; clear HX; intro w HX) | (refine uA ?_; clear HX; (first | (have hq := b3; clear hq; intro w b4 HX) | (have hq := b2; clear hq; intro w b3 HX) | (have hq := b; clear hq; intro w b2 HX) | intro w b HX)) | (refine uP ?_; clear HX; intro w av nv cv HX))
     refine ybp' HX rfl rfl (by (repeat (first | (with_reducible exact k_s) | (with_reducible apply k_m)))) (by kernel_rfl) ?_
     exact ⟨.slice none 0 0, (5, .slice none 0 0, []) :: _, rfl, fun q hq => k_n _ (k_n _ (k_n _ hq)), k_s, HX.out.cut1.cut1.cut1.poolNil 5⟩
    | true =>
     obtain rfl : pb = l := by simpa using hzs
     refine rT [(9, false), (10, false), (11, false), (12, true)] 3 ?_
     apply Exists.intro; refine ⟨?_, ⟨_, _, k_n _ (k_n _ HV.out.1), HX.out.up2⟩, ?_⟩
     ·iterate 4 (first | refine xE ?_ | ((first | apply yav' | apply yas'); (· (simp only [k_i, k_j, k_k]; try rfl)); (· rfl); (· (intros; go_simp; (try simp only [q4, q5, ↓reduceIte, and_self, Int.toNat_natCast]); try with_reducible rfl)); (· (simp only [Act.put, k_a, k_b, k_c, k_d, k_e, k_f, k_g, k_h, NodeS.cells, OpS.cells, ResS.cells]; try rfl))))
      exact rfl
     clear hl hzs
     refine r1 2 13 fun K hK => ?_
     go_wp2_with fail
     refine (yj5' HX.out s n os _ (k_n _ k_s) HPS.out).mono ?_
     obtain ⟨me, hme⟩ : ∃ me, mayS s n os = me := ⟨_, rfl⟩
     rw [hme]
     rw [hme] at HGO
     rintro e w ⟨rfl, hx⟩
     replace HX := Lib.hid hx
     clear hx
     go_wp2_with fail
     refine hK _ _ ⟨_, _, k_n _ (k_n _ HV.out.1), HX.out.up2⟩ ?_
     clear hK
     by_cases h0 : me = 0
     case neg =>
      have q3 : (me != 0) = true := by rw [bne_iff_ne]; exact h0
      obtain rfl : o = none := HGO.out.trans (if_neg (fun hh => h0 hh.2.2))
      clear h0
      refine rT [(14, false), (15, false)] 0 ?_
      apply Exists.intro; refine ⟨?_, ⟨_, _, k_n _ (k_n _ HV.out.1), HX.out.up2⟩, ?_⟩
      ·iterate 2 (first | refine xE ?_ | ((first | apply yav' | apply yas'); (· (simp only [k_i, k_j, k_k]; try rfl)); (· rfl); (· (intros; go_simp; (try simp only [q3, ↓reduceIte, and_self, Int.toNat_natCast]); try with_reducible rfl)); (· (simp only [Act.put, k_a, k_b, k_c, k_d, k_e, k_f, k_g, k_h, NodeS.cells, OpS.cells, ResS.cells]; try rfl))))
       exact rfl
      refine yah' (by kernel_rfl) ?_ _
      go_wp2_with (first | refine u0 ?_ | (refine uS ?_; clear HX; intro w HX) | (refine uA ?_; clear HX; (first | (have hq := b3; clear hq; intro w b4 HX) | (have hq := b2; clear hq; intro w b3 HX) | (have hq := b; clear hq; intro w b2 HX) | intro w b HX)) | (refine uP ?_; clear HX; intro w av nv cv HX))
      refine ybp' HX rfl rfl (by (repeat (first | (with_reducible exact k_s) | (with_reducible apply k_m)))) (by kernel_rfl) ?_
      exact ⟨.slice none 0 0, (5, .slice none 0 0, []) :: _, rfl, fun q hq => k_n _ (k_n _ (k_n _ hq)), k_s, HX.out.cut1.cut1.cut1.poolNil 5⟩
     case pos =>
      subst h0
      obtain rfl : o = some (s, n, os) := HGO.out.trans (by simp)
      refine rT [(14, false), (15, false)] 0 ?_
      apply Exists.intro; refine ⟨?_, ⟨_, _, k_n _ (k_n _ HV.out.1), HX.out.up2⟩, ?_⟩
      ·iterate 2 (refine xE ?_)
       exact rfl
      refine yah' (by kernel_rfl) ?_ _
      go_wp2_with (first | refine u0 ?_ | (refine uS ?_; clear HX; intro w HX) | (refine uA ?_; clear HX; (first | (have hq := b3; clear hq; intro w b4 HX) | (have hq := b2; clear hq; intro w b3 HX) | (have hq := b; clear hq; intro w b2 HX) | intro w b HX)) | (refine uP ?_; clear HX; intro w av nv cv HX))
      refine ybp' HX rfl rfl (by (repeat (first | (with_reducible exact k_s) | (with_reducible apply k_m)))) (by kernel_rfl) ?_
      exact ⟨.slice a n' c', _, rfl, fun q hq => k_n _ (k_n _ hq), k_n _ k_s, HX.out.cut1.cut1.cut1⟩
  case pos =>
   have q0 : decide (i < K) = true := decide_eq_true hlt
   have q1 : decide ((i : Int) < (K : Int)) = true := decide_eq_true (by omega)
   have q9 : i ≤ 16 := by have := HK.out; omega
   have hl := yag' (P := Tryz.prog) (ty := 4) (by kernel_rfl) (yvo' HX.out)
   cases db with
   | true =>
    have hfin : ops5 K (dl3, db3) = (os, (dl, true)) := by
     rw [hod, show K - i = (K - i - 1) + 1 by omega]
     simp [ops5]
    clear hlt hik hod hlen
    have hgo : o = if endR (dl, true) = true ∧ putR s n os = l ∧ mayS s n os = 0 then some (s, n, os) else none := by
     rw [← HO.out, ← yqd']
     unfold get5
     rw [HD.out, hfin]
    have HGO := Lib.hid hgo
    have HPS := Lib.hid hps
    clear hgo HO hfin hps
    go_wp2_with (first | refine u0 ?_ | (refine uS ?_; clear HX; intro w HX) | (refine uA ?_; clear HX; (first | (have hq := b3; clear hq; intro w b4 HX) | (have hq := b2; clear hq; intro w b3 HX) | (have hq := b; clear hq; intro w b2 HX) | intro w b HX)) | (refine uP ?_; clear HX; intro w av nv cv HX) | ((with_reducible apply yau' hl); (· rfl); (· rfl); simp only [Act.put, k_a, k_b, k_c]))
    clear hl
    have hx := ygn' (P' := (5, .slice a n' c', os.flatMap OpS.cells) :: P) HX.out.up3.up2.up1.poolRow.up1 (fun q hq => k_n _ hq)
    replace HX := Lib.hid hx
    clear hx
    refine rM (fun W => G5S w0 b3 #[.int .i64 s, .int .i64 n, .slice a n' c'] (1, .slice a0 n0 c0, l.map bv) rows W) 16 ?_
    intro KEEPX
    replace HX := Lib.hid HX.out.drew
    have hl := fun V (hV : G5S w0 b3 #[.int .i64 s, .int .i64 n, .slice a n' c'] (1, .slice a0 n0 c0, l.map bv) rows V) => hV.l1 (by simp)
    simp only [k_d, k_f, k_g, k_h] at hl
    have hcv := fun V (hV : G5S w0 b3 #[.int .i64 s, .int .i64 n, .slice a n' c'] (1, .slice a0 n0 c0, l.map bv) rows V) => hV.l2
    refine rT [(0, false)] 15 ?_
    apply Exists.intro; refine ⟨?_, ⟨_, _, k_n _ HV.out.1, HX.out.up2.up2.up1⟩, ?_⟩
    ·iterate 1 (refine xE ?_)
     exact rfl
    refine r1 14 1 fun K hK => ?_
    go_wp2_with fail
    refine (yrt' HX.out).mono ?_
    obtain ⟨ze, hze⟩ : ∃ z, endR (dl, true) = z := ⟨_, rfl⟩
    have hze2 : (!(dl, true).2 && (dl, true).1.isEmpty) = ze := hze
    rw [hze2]
    rintro e w ⟨rfl, hx⟩
    clear hze2
    rw [hze] at HGO
    replace HX := Lib.hid hx
    clear hx
    go_wp2_with fail
    refine hK _ _ ⟨_, _, k_n _ HV.out.1, HX.out.up2.up2.up1⟩ ?_
    clear hK hze
    cases ze with
    | false =>
     obtain rfl : o = none := HGO.out.trans (if_neg (by simp))
     refine rT [(2, false), (3, false), (4, true), (7, false), (8, true)] 9 ?_
     apply Exists.intro; refine ⟨?_, ⟨_, _, k_n _ HV.out.1, HX.out.up2.up2.up1⟩, ?_⟩
     ·iterate 5 (refine xE ?_)
      exact rfl
     apply yb7' (fuel := 8) (i := 5)
     ·kernel_rfl
     ·simp only [k_i, k_j, k_k]; try rfl
     ·rfl
     ·simp only [Act.put, k_a, k_b, k_c]; try rfl
     ·exact ⟨_, _, k_n _ HV.out.1, HX.out.up2.up2.up1⟩
     refine rT [(6, true), (9, false), (10, false), (11, false), (12, true)] 3 ?_
     apply Exists.intro; refine ⟨?_, ⟨_, _, k_n _ HV.out.1, HX.out.up2.up2.up1⟩, ?_⟩
     ·iterate 5 (refine xE ?_)
      exact rfl
     apply yb7' (fuel := 2) (i := 13)
     ·kernel_rfl
     ·simp only [k_i, k_j, k_k]; try rfl
     ·rfl
     ·simp only [Act.put, k_a, k_b, k_c]; try rfl
     ·exact ⟨_, _, k_n _ HV.out.1, HX.out.up2.up2.up1⟩
     refine rT [(14, false), (15, false)] 0 ?_
     apply Exists.intro; refine ⟨?_, ⟨_, _, k_n _ HV.out.1, HX.out.up2.up2.up1⟩, ?_⟩
     ·iterate 2 (refine xE ?_)
      exact rfl
     refine yah' (by kernel_rfl) ?_ _
     clear hl hcv
     go_wp2_with (first | refine u0 ?_ | (refine uS ?_; clear HX; intro w HX) | (refine uA ?_; clear HX; (first | (have hq := b3; clear hq; intro w b4 HX) | (have hq := b2; clear hq; intro w b3 HX) | (have hq := b; clear hq; intro w b2 HX) | intro w b HX)) | (refine uP ?_; clear HX; intro w av nv cv HX))
     refine ybp' HX rfl rfl (by (repeat (first | (with_reducible exact k_s) | (with_reducible apply k_m)))) (by kernel_rfl) ?_
     exact ⟨.slice none 0 0, (5, .slice none 0 0, []) :: _, rfl, fun q hq => k_n _ (k_n _ hq), k_s, HX.out.up1.cut1.cut1.cut1.poolNil 5⟩
    | true =>
     refine rT [(2, false), (3, false), (4, true), (7, false), (8, true)] 9 ?_
     apply Exists.intro; refine ⟨?_, ⟨_, _, k_n _ HV.out.1, HX.out.up2.up2.up1⟩, ?_⟩
     ·iterate 5 (first | refine xE ?_ | ((apply ybx' hcv); (· (simp only [k_i, k_j, k_k]; try rfl)); (· rfl); (· rfl); (· rfl)))
      exact rfl
     clear hcv
     refine r1 8 5 fun K hK => ?_
     go_wp2_with fail
     refine (yhg' HX.out.up1 s n os _ k_s HPS.out).mono ?_
     obtain ⟨pb, hpb⟩ : ∃ pb, putR s n os = pb := ⟨_, rfl⟩
     rw [hpb]
     rw [hpb] at HGO
     rintro e w ⟨v5, rfl, hx⟩
     have hx := hx.poolRow
     replace HX := Lib.hid hx
     clear hx
     clear hpb
     go_wp2_with fail
     refine hK _ _ ⟨_, _, k_n _ (k_n _ HV.out.1), HX.out.up2⟩ ?_
     clear hK
     have hcv5 := yfs' HX.out k_s
     have q4 : ((⟨pb.toArray⟩ : ByteArray).toList == (⟨l.toArray⟩ : ByteArray).toList) = (pb == l) := yr9' pb l
     refine r1 7 6 fun K hK => ?_
     go_wp2_with fail
     refine hK _ _ ⟨_, _, k_n _ (k_n _ HV.out.1), HX.out.up2⟩ ?_
     clear hK hcv5
     obtain ⟨zs, hzs⟩ : ∃ z, (pb == l) = z := ⟨_, rfl⟩
     rw [hzs] at q4
     have q5 : ((⟨pb.toArray⟩ : ByteArray).toList != (⟨l.toArray⟩ : ByteArray).toList) = !zs := by rw [bne, q4]
     cases zs with
     | false =>
      obtain rfl : o = none := HGO.out.trans (if_neg (fun hh => by rw [hh.2.1] at hzs; simp at hzs))
      refine rT [(9, false), (10, false), (11, false), (12, true)] 3 ?_
      apply Exists.intro; refine ⟨?_, ⟨_, _, k_n _ (k_n _ HV.out.1), HX.out.up2⟩, ?_⟩
      ·iterate 4 (first | refine xE ?_ | ((first | apply yav' | apply yas'); (· (simp only [k_i, k_j, k_k]; try rfl)); (· rfl); (· (intros; go_simp; (try simp only [q4, q5, ↓reduceIte, and_self, Int.toNat_natCast]); try with_reducible rfl)); (· (simp only [Act.put, k_a, k_b, k_c, k_d, k_e, k_f, k_g, k_h, NodeS.cells, OpS.cells, ResS.cells]; try rfl))))
       exact rfl
      apply yb7' (fuel := 2) (i := 13)
      ·kernel_rfl
      ·simp only [k_i, k_j, k_k]; try rfl
      ·rfl
      ·simp only [Act.put, k_a, k_b, k_c]; try rfl
      ·exact ⟨_, _, k_n _ (k_n _ HV.out.1), HX.out.up2⟩
      refine rT [(14, false), (15, false)] 0 ?_
      apply Exists.intro; refine ⟨?_, ⟨_, _, k_n _ (k_n _ HV.out.1), HX.out.up2⟩, ?_⟩
      ·iterate 2 (first | refine xE ?_ | ((first | apply yav' | apply yas'); (· (simp only [k_i, k_j, k_k]; try rfl)); (· rfl); (· (intros; go_simp; (try simp only [q4, q5, ↓reduceIte, and_self, Int.toNat_natCast]); try with_reducible rfl)); (· (simp only [Act.put, k_a, k_b, k_c, k_d, k_e, k_f, k_g, k_h, NodeS.cells, OpS.cells, ResS.cells]; try rfl))))
       exact rfl
      refine yah' (by kernel_rfl) ?_ _
      clear hl
      go_wp2_with (first | refine u0 ?_ | (refine uS ?_; clear HX; intro w HX) | (refine uA ?_; clear HX; (first | (have hq := b3; clear hq; intro w b4 HX) | (have hq := b2; clear hq; intro w b3 HX) | (have hq := b; clear hq; intro w b2 HX) | intro w b HX)) | (refine uP ?_; clear HX; intro w av nv cv HX))
      refine ybp' HX rfl rfl (by (repeat (first | (with_reducible exact k_s) | (with_reducible apply k_m)))) (by kernel_rfl) ?_
      exact ⟨.slice none 0 0, (5, .slice none 0 0, []) :: _, rfl, fun q hq => k_n _ (k_n _ (k_n _ hq)), k_s, HX.out.cut1.cut1.cut1.poolNil 5⟩
     | true =>
      obtain rfl : pb = l := by simpa using hzs
      refine rT [(9, false), (10, false), (11, false), (12, true)] 3 ?_
      apply Exists.intro; refine ⟨?_, ⟨_, _, k_n _ (k_n _ HV.out.1), HX.out.up2⟩, ?_⟩
      ·iterate 4 (first | refine xE ?_ | ((first | apply yav' | apply yas'); (· (simp only [k_i, k_j, k_k]; try rfl)); (· rfl); (· (intros; go_simp; (try simp only [q4, q5, ↓reduceIte, and_self, Int.toNat_natCast]); try with_reducible rfl)); (· (simp only [Act.put, k_a, k_b, k_c, k_d, k_e, k_f, k_g, k_h, NodeS.cells, OpS.cells, ResS.cells]; try rfl))))
       exact rfl
      clear hl hzs
      refine r1 2 13 fun K hK => ?_
      go_wp2_with fail
      refine (yj5' HX.out s n os _ (k_n _ k_s) HPS.out).mono ?_
      obtain ⟨me, hme⟩ : ∃ me, mayS s n os = me := ⟨_, rfl⟩
      rw [hme]
      rw [hme] at HGO
      rintro e w ⟨rfl, hx⟩
      replace HX := Lib.hid hx
      clear hx
      go_wp2_with fail
      refine hK _ _ ⟨_, _, k_n _ (k_n _ HV.out.1), HX.out.up2⟩ ?_
      clear hK
      by_cases h0 : me = 0
      case neg =>
       have q3 : (me != 0) = true := by rw [bne_iff_ne]; exact h0
       obtain rfl : o = none := HGO.out.trans (if_neg (fun hh => h0 hh.2.2))
       clear h0
       refine rT [(14, false), (15, false)] 0 ?_
       apply Exists.intro; refine ⟨?_, ⟨_, _, k_n _ (k_n _ HV.out.1), HX.out.up2⟩, ?_⟩
       ·iterate 2 (first | refine xE ?_ | ((first | apply yav' | apply yas'); (· (simp only [k_i, k_j, k_k]; try rfl)); (· rfl); (· (intros; go_simp; (try simp only [q3, ↓reduceIte, and_self, Int.toNat_natCast]); try with_reducible rfl)); (· (simp only [Act.put, k_a, k_b, k_c, k_d, k_e, k_f, k_g, k_h, NodeS.cells, OpS.cells, ResS.cells]; try rfl))))
        exact rfl
       refine yah' (by kernel_rfl) ?_ _
       go_wp2_with (first | refine u0 ?_ | (refine uS ?_; clear HX; intro w HX) | (refine uA ?_; clear HX; (first | (have hq := b3; clear hq; intro w b4 HX) | (have hq := b2; clear hq; intro w b3 HX) | (have hq := b; clear hq; intro w b2 HX) | intro w b HX)) | (refine uP ?_; clear HX; intro w av nv cv HX))
       refine ybp' HX rfl rfl (by (repeat (first | (with_reducible exact k_s) | (with_reducible apply k_m)))) (by kernel_rfl) ?_
       exact ⟨.slice none 0 0, (5, .slice none 0 0, []) :: _, rfl, fun q hq => k_n _ (k_n _ (k_n _ hq)), k_s, HX.out.cut1.cut1.cut1.poolNil 5⟩
      case pos =>
       subst h0
       obtain rfl : o = some (s, n, os) := HGO.out.trans (by simp)
       refine rT [(14, false), (15, false)] 0 ?_
       apply Exists.intro; refine ⟨?_, ⟨_, _, k_n _ (k_n _ HV.out.1), HX.out.up2⟩, ?_⟩
       ·iterate 2 (refine xE ?_)
        exact rfl
       refine yah' (by kernel_rfl) ?_ _
       go_wp2_with (first | refine u0 ?_ | (refine uS ?_; clear HX; intro w HX) | (refine uA ?_; clear HX; (first | (have hq := b3; clear hq; intro w b4 HX) | (have hq := b2; clear hq; intro w b3 HX) | (have hq := b; clear hq; intro w b2 HX) | intro w b HX)) | (refine uP ?_; clear HX; intro w av nv cv HX))
       refine ybp' HX rfl rfl (by (repeat (first | (with_reducible exact k_s) | (with_reducible apply k_m)))) (by kernel_rfl) ?_
       exact ⟨.slice a n' c', _, rfl, fun q hq => k_n _ (k_n _ hq), k_n _ k_s, HX.out.cut1.cut1.cut1⟩
   | false =>
    obtain ⟨⟨k1, e1⟩, g1⟩ : ∃ x, i64R (dl, false) = x := ⟨_, rfl⟩
    obtain ⟨⟨t2, e2⟩, g2⟩ : ∃ x, yaj' 200 e1 = x := ⟨_, rfl⟩
    obtain ⟨⟨t3, e3⟩, g3⟩ : ∃ x, yaj' 1000 e2 = x := ⟨_, rfl⟩
    obtain ⟨⟨k4, e4⟩, g4⟩ : ∃ x, i64R e3 = x := ⟨_, rfl⟩
    obtain ⟨⟨k5, dl5, db5⟩, g5⟩ : ∃ x, i64R e4 = x := ⟨_, rfl⟩
    have hop : opM 200 1000 (dl, false) = (⟨k1, ⟨t2.toArray⟩, ⟨t3.toArray⟩, k4, k5⟩, (dl5, db5)) := by
     unfold opM
     rw [g1]; dsimp only
     rw [g2]; dsimp only
     rw [g3]; dsimp only
     rw [g4]; dsimp only
     rw [g5]
    have hnx : ops5 K (dl3, db3) = ((os ++ [(⟨k1, ⟨t2.toArray⟩, ⟨t3.toArray⟩, k4, k5⟩ : OpS)]) ++ (ops5 (K - (i + 1)) (dl5, db5)).1, (ops5 (K - (i + 1)) (dl5, db5)).2) := by
     rw [hod, show K - i = (K - (i + 1)) + 1 by omega, ops5, if_neg (by simp), hop]
     simp
    have hpt : (⟨t2.toArray⟩ : ByteArray).size ≤ 100000 := by
     have hl2 := yez' 200 e1 (by omega)
     rw [g2] at hl2
     dsimp only at hl2
     have : (⟨t2.toArray⟩ : ByteArray).size = t2.length := by show t2.toArray.size = _; simp
     omega
    have HNX := Lib.hid (show _ ∧ (os ++ [(⟨k1, ⟨t2.toArray⟩, ⟨t3.toArray⟩, k4, k5⟩ : OpS)]).length = i + 1 ∧ ∀ o ∈ os ++ [(⟨k1, ⟨t2.toArray⟩, ⟨t3.toArray⟩, k4, k5⟩ : OpS)], o.path.size ≤ 100000 from ⟨hnx, by simp [hlen], fun o ho => by
     rcases List.mem_append.1 ho with ho | ho
     ·exact hps o ho
     ·rw [List.mem_singleton] at ho
      rw [ho]
      exact hpt⟩)
    have HG := Lib.hid (show _ ∧ _ ∧ _ ∧ _ ∧ _ from ⟨g1, g2, g3, g4, g5⟩)
    have HLEN := Lib.hid (show (os.flatMap OpS.cells).length = i * 5 by rw [yar' yai', hlen])
    have HBD := Lib.hid (show ∀ n, (os.flatMap OpS.cells).length = n * 5 → n + 1 ≤ 140737488355328 ∧ (n + 1) * 56 ≤ 140737488355328 from fun n hn => by have := HLEN.out; omega)
    clear hnx hop g1 g2 g3 g4 g5 hod hlen hps hpt
    go_wp2_with (first | refine u0 ?_ | (refine uS ?_; clear HX; intro w HX) | (refine uA ?_; clear HX; (first | (have hq := b3; clear hq; intro w b4 HX) | (have hq := b2; clear hq; intro w b3 HX) | (have hq := b; clear hq; intro w b2 HX) | intro w b HX)) | (refine uP ?_; clear HX; intro w av nv cv HX) | ((with_reducible apply yau' hl); (· rfl); (· rfl); simp only [Act.put, k_a, k_b, k_c]))
    clear hl
    refine (ygz' HX.out).mono ?_
    rw [HG.out.1]
    rintro e w ⟨rfl, hx⟩
    replace HX := Lib.hid hx
    clear hx
    go_wp2_with (first | refine u0 ?_ | (refine uS ?_; clear HX; intro w HX) | (refine uA ?_; clear HX; (first | (have hq := b3; clear hq; intro w b4 HX) | (have hq := b2; clear hq; intro w b3 HX) | (have hq := b; clear hq; intro w b2 HX) | intro w b HX)) | (refine uP ?_; clear HX; intro w av nv cv HX))
    refine (ykh' HX.out.up1.up2.up1 200 (by omega)).mono ?_
    rw [HG.out.2.1]
    rintro e w ⟨rfl, hx⟩
    replace HX := Lib.hid hx
    clear hx
    unfold sv
    go_wp2_with (first | refine u0 ?_ | (refine uS ?_; clear HX; intro w HX) | (refine uA ?_; clear HX; (first | (have hq := b3; clear hq; intro w b4 HX) | (have hq := b2; clear hq; intro w b3 HX) | (have hq := b; clear hq; intro w b2 HX) | intro w b HX)) | (refine uP ?_; clear HX; intro w av nv cv HX))
    refine (ykh' HX.out 1000 (by omega)).mono ?_
    rw [HG.out.2.2.1]
    rintro e w ⟨rfl, hx⟩
    replace HX := Lib.hid hx
    clear hx
    unfold sv
    go_wp2_with (first | refine u0 ?_ | (refine uS ?_; clear HX; intro w HX) | (refine uA ?_; clear HX; (first | (have hq := b3; clear hq; intro w b4 HX) | (have hq := b2; clear hq; intro w b3 HX) | (have hq := b; clear hq; intro w b2 HX) | intro w b HX)) | (refine uP ?_; clear HX; intro w av nv cv HX))
    refine (ygz' HX.out).mono ?_
    rw [HG.out.2.2.2.1]
    rintro e w ⟨rfl, hx⟩
    replace HX := Lib.hid hx
    clear hx
    go_wp2_with (first | refine u0 ?_ | (refine uS ?_; clear HX; intro w HX) | (refine uA ?_; clear HX; (first | (have hq := b3; clear hq; intro w b4 HX) | (have hq := b2; clear hq; intro w b3 HX) | (have hq := b; clear hq; intro w b2 HX) | intro w b HX)) | (refine uP ?_; clear HX; intro w av nv cv HX))
    refine (ygz' HX.out).mono ?_
    rw [HG.out.2.2.2.2]
    rintro e w ⟨rfl, hx⟩
    replace HX := Lib.hid hx
    clear hx
    go_wp2_with (first | refine u0 ?_ | (refine uS ?_; clear HX; intro w HX) | (refine uA ?_; clear HX; (first | (have hq := b3; clear hq; intro w b4 HX) | (have hq := b2; clear hq; intro w b3 HX) | (have hq := b; clear hq; intro w b2 HX) | intro w b HX)) | (refine uP ?_; clear HX; intro w av nv cv HX))
    go_roundg (K - (i + 1))
    case rel =>
     refine ⟨i + 1, _, dl5, db5, av, nv, cv, by omega, by go_num, HNX.out.1, HNX.out.2.1, HNX.out.2.2, ?_⟩
     rw [List.flatMap_append]
     exact HX.out.pm 7 [2, 3, 5, 0, 6] rfl rfl
    case measure => omega
end
end Go.Proofs.YtcnkifbjlihaoaaGreatDoor

namespace Go.Proofs.YtcnkifbjlihaoaaGreatDoor
open Go.RowKit Go.Av
section
variable {w0 w : World} {P P' : List PRow} {R : List Thing} {rows : List (Value × Bs)}
set_option maxRecDepth 100000 in
theorem ymi' {v : Value} {l : Bs} (h : Sep w0 w (ybc' 1 v (l.map bv) :: R) rows) (b : Bool) (hl : l.length ≤ 1000000) :
  Calls Tryz.prog 125 #[v, .bool b] w fun e w' => ∃ v', e = .returned v' ∧ Sep w0 w' (ybc' 1 v' ((l ++ yad' (bitI b)).map bv) :: R) rows := by
 have HX := Lib.hid h
 have HL := Lib.hid hl
 clear h hl
 go_enter Tryz.func125, Tryz.ntmps125
 cases b with
 | true =>
  go_wp2_with (first | refine u0 ?_ | (refine uS ?_; clear HX; intro w HX) | (refine uA ?_; clear HX; (first | (have hq := b; clear hq; intro w b2 HX) | intro w b HX)))
  refine (i64D HX.out 1 HL.out).mono ?_
  rintro e w ⟨v', rfl, hx⟩
  replace HX := Lib.hid hx
  clear hx
  go_wp2_with (first | refine u0 ?_ | (refine uS ?_; clear HX; intro w HX) | (refine uA ?_; clear HX; (first | (have hq := b; clear hq; intro w b2 HX) | intro w b HX)))
  go_ret
  exact ⟨_, rfl, HX.out⟩
 | false =>
  go_wp2_with (first | refine u0 ?_ | (refine uS ?_; clear HX; intro w HX) | (refine uA ?_; clear HX; (first | (have hq := b; clear hq; intro w b2 HX) | intro w b HX)))
  refine (i64D HX.out 0 HL.out).mono ?_
  rintro e w ⟨v', rfl, hx⟩
  replace HX := Lib.hid hx
  clear hx
  go_wp2_with (first | refine u0 ?_ | (refine uS ?_; clear HX; intro w HX) | (refine uA ?_; clear HX; (first | (have hq := b; clear hq; intro w b2 HX) | intro w b HX)))
  go_ret
  exact ⟨_, rfl, HX.out⟩
def ypz' (w0 : World) (l0 : Bs) (sh : List Int) (P : List PRow) (R : List Thing) (rows : List (Value × Bs)) (k : Nat) (v0 v5 : Value) (w : World) : Prop :=
 ∃ (i : Nat), i + k = sh.length ∧ v5 = .int .i64 (i : Int) ∧ Sep w0 w (ybc' 1 v0 ((l0 ++ (sh.take i).flatMap yad').map bv) :: yab' w0 P :: R) rows
theorem yhu' : ∀ l : List Int, (l.flatMap yad').length = 8 * l.length
 | [] => rfl
 | a :: l => by rw [List.flatMap_cons, List.length_append, yaf', yhu' l, List.length_cons]; omega
set_option maxRecDepth 100000 in
set_option maxHeartbeats 4000000 in
theorem yey' {v : Value} {l : Bs} (h : Sep w0 w (ybc' 1 v (l.map bv) :: yab' w0 P :: R) rows) (sh : List Int) (vs : Value) (hvs : (1, vs, sh.map ivn) ∈ P) (hn : sh.length ≤ 1000) (hl : l.length ≤ 100000) :
  Calls Tryz.prog 124 #[v, vs] w fun e w' => ∃ v', e = .returned v' ∧ Sep w0 w' (ybc' 1 v' ((l ++ shB sh).map bv) :: yab' w0 P :: R) rows := by
 obtain ⟨E, hE⟩ := h.up1.poolGet hvs
 obtain ⟨a, n, c, rfl, hl0, -, -, hne⟩ := ReadRow.some hE
 rw [List.length_map, Nat.mul_one] at hl0
 subst hl0
 have HNE := Lib.hid hne
 have HV := Lib.hid (show _ ∧ _ ∧ _ from ⟨hvs, hn, hl⟩)
 have HX := Lib.hid h
 clear h hE hne hvs hn hl
 go_enter Tryz.func124, Tryz.ntmps124
 go_wp2_with (first | refine u0 ?_ | (refine uS ?_; clear HX; intro w HX) | (refine uA ?_; clear HX; (first | (have hq := b; clear hq; intro w b2 HX) | intro w b HX)))
 refine (i64D HX.out (sh.length : Int) (by have := HV.out.2.2; omega)).mono ?_
 rintro e w ⟨v1, rfl, hx⟩
 replace HX := Lib.hid hx
 clear hx
 go_wp2_with (first | refine u0 ?_ | (refine uS ?_; clear HX; intro w HX) | (refine uA ?_; clear HX; (first | (have hq := b; clear hq; intro w b2 HX) | intro w b HX)))
 have HST := Lib.hid (show ypz' w0 (l ++ yad' (sh.length : Int)) sh P R rows sh.length v1 (.int .i64 (0 : Int)) w from ⟨0, by simp, rfl, by rw [k_g, List.flatMap_nil, List.append_nil]; exact HX.out⟩)
 clear HX
 go_loopg [0, 5] sh.length (fun k v0 v5 wr => ypz' w0 (l ++ yad' (sh.length : Int)) sh P R rows k v0 v5 wr)
 case atStart => exact HST.out
 case round =>
  rename World => w
  obtain ⟨i, hik, rfl, hS⟩ := hrel
  clear HST
  have HX := Lib.hid hS
  clear hS
  by_cases hlt : i < sh.length
  case neg =>
   obtain rfl : i = sh.length := by omega
   rw [List.take_length] at HX
   clear hlt hik
   go_wp2_with (first | refine u0 ?_ | (refine uS ?_; clear HX; intro w HX) | (refine uA ?_; clear HX; (first | (have hq := b; clear hq; intro w b2 HX) | intro w b HX)))
   go_ret
   refine ⟨_, rfl, ?_⟩
   unfold shB
   rw [← List.append_assoc]
   exact HX.out
  case pos =>
   obtain ⟨g, off, rfl⟩ := HNE.out (by intro e; rw [List.map_eq_nil_iff] at e; rw [e] at hlt; simp at hlt)
   obtain ⟨E, hE⟩ := HX.out.up1.poolGet HV.out.1
   have hl := yee' (P := Tryz.prog) (ty := 3) (i := i) (v := .int .i64 sh[i]) hE (by kernel_rfl) (by rw [List.getElem?_map, List.getElem?_eq_getElem hlt]; rfl)
   have hbl : ((l ++ yad' (sh.length : Int)) ++ (sh.take i).flatMap yad').length ≤ 1000000 := by
    have h2 := HV.out
    have h3 := yhu' (sh.take i)
    rw [List.length_append, List.length_append, yaf', h3, List.length_take]
    omega
   have hnx : (l ++ yad' (sh.length : Int)) ++ (sh.take (i + 1)).flatMap yad' = ((l ++ yad' (sh.length : Int)) ++ (sh.take i).flatMap yad') ++ yad' sh[i] := by
    rw [List.take_succ_eq_append_getElem hlt, List.flatMap_append, ← List.append_assoc]
    simp
   have q0 : decide (i < sh.length) = true := decide_eq_true hlt
   have q9 : i ≤ 1000 := by have := HV.out.2.1; omega
   have HNX := Lib.hid (show _ ∧ _ from ⟨hnx, hbl⟩)
   clear hnx hbl hE
   go_wp2_with (first | refine u0 ?_ | (refine uS ?_; clear HX; intro w HX) | (refine uA ?_; clear HX; (first | (have hq := b; clear hq; intro w b2 HX) | intro w b HX)) | ((with_reducible apply yau' hl); (· rfl); (· rfl); simp only [Act.put, k_a, k_b, k_c]))
   clear hl
   refine (i64D HX.out sh[i] HNX.out.2).mono ?_
   rw [← HNX.out.1]
   rintro e w ⟨v2, rfl, hx⟩
   replace HX := Lib.hid hx
   clear hx
   go_wp2_with (first | refine u0 ?_ | (refine uS ?_; clear HX; intro w HX) | (refine uA ?_; clear HX; (first | (have hq := b; clear hq; intro w b2 HX) | intro w b HX)))
   go_roundg (sh.length - (i + 1))
   case rel => exact ⟨i + 1, by omega, by go_num, HX.out⟩
   case measure => omega
def cnt5 : Nat → Rd → List Int × Rd
 | 0, d => ([], d)
 | n + 1, d => if d.2 then ([], d) else ((cntR 3 d).1 :: (cnt5 n (cntR 3 d).2).1, (cnt5 n (cntR 3 d).2).2)
def sh5R (d : Rd) : List Int × Rd := cnt5 (cntR 4 d).1.toNat (cntR 4 d).2
def yv2' (w0 : World) (r : Nat) (x : List Int × Rd) (P : List PRow) (R : List Thing) (rows : List (Value × Bs)) (e : Ending) (w' : World) : Prop :=
 ∃ v P', e = .returned v ∧ (∀ z ∈ P, z ∈ P') ∧ (1, v, x.1.map ivn) ∈ P' ∧ Sep w0 w' (ThRf r x.2 P' :: yab' w0 P' :: R) rows
def yvb' (w0 : World) (r K : Nat) (d : Rd) (P : List PRow) (R : List Thing) (rows : List (Value × Bs)) (k : Nat) (v3 v5 : Value) (w : World) : Prop :=
 ∃ (i : Nat) (os : List Int) (dl : Bs) (db : Bool) (a : Option Addr) (n c : Nat), i + k = K ∧ v3 = .slice a n c ∧ v5 = .int .i64 (i : Int) ∧ cnt5 K d = (os ++ (cnt5 (K - i) (dl, db)).1, (cnt5 (K - i) (dl, db)).2) ∧ os.length = i ∧
  Sep w0 w (ThRf r (dl, db) P :: yab' w0 P :: ybc' 1 (.slice a n c) (os.map ivn) :: R) rows
set_option maxRecDepth 100000 in
set_option maxHeartbeats 4000000 in
theorem yd5' {r : Nat} {d : Rd} (h : Sep w0 w (ThRf r d P :: yab' w0 P :: R) rows) :
  Calls Tryz.prog 113 #[.pointer (some ⟨r, 0, none⟩)] w (yv2' w0 r (sh5R d) P R rows) := by
 have HX := Lib.hid h
 clear h
 obtain ⟨⟨kk, dl1, db1⟩, h1⟩ : ∃ x, cntR 4 d = x := ⟨_, rfl⟩
 have hb := yct' (most := 4) (by omega) d
 rw [h1] at hb
 dsimp only at hb
 obtain ⟨K, rfl⟩ : ∃ K : Nat, kk = (K : Int) := ⟨kk.toNat, by omega⟩
 have HK := Lib.hid (show K ≤ 4 by omega)
 have HD := Lib.hid (show sh5R d = cnt5 K (dl1, db1) by unfold sh5R; rw [h1]; dsimp only; rw [Int.toNat_natCast])
 have H1 := Lib.hid h1
 clear hb h1
 go_enter Tryz.func113, Tryz.ntmps113
 go_wp2_with (first | refine u0 ?_ | (refine uS ?_; clear HX; intro w HX) | (refine uA ?_; clear HX; (first | (have hq := b; clear hq; intro w b2 HX) | intro w b HX)) | (refine uP ?_; clear HX; intro w av nv cv HX))
 refine (ydz' HX.out 4).mono ?_
 rw [H1.out]
 rintro e w ⟨rfl, hx⟩
 replace HX := Lib.hid hx
 clear hx
 go_wp2_with (first | refine u0 ?_ | (refine uS ?_; clear HX; intro w HX) | (refine uA ?_; clear HX; (first | (have hq := b; clear hq; intro w b2 HX) | intro w b HX)) | (refine uP ?_; clear HX; intro w av nv cv HX))
 have HST := Lib.hid (show yvb' w0 r K (dl1, db1) P R rows K (.slice none 0 0) (.int .i64 (0 : Int)) w from ⟨0, [], dl1, db1, none, 0, 0, by omega, rfl, rfl, by simp, rfl, (HX.out.nilRow 1).pm 3 [1, 2, 0] rfl rfl⟩)
 clear HX
 go_loopg [3, 5] K (fun k v3 v5 wr => yvb' w0 r K (dl1, db1) P R rows k v3 v5 wr)
 case atStart => exact HST.out
 case round =>
  rename World => w
  obtain ⟨i, os, dl, db, a, n, c, hik, rfl, rfl, hod, hlen, hS⟩ := hrel
  clear HST
  have HX := Lib.hid hS
  clear hS
  by_cases hlt : i < K
  case neg =>
   have hfin : cnt5 K (dl1, db1) = (os, (dl, db)) := by
    rw [hod, show K - i = 0 by omega]
    simp [cnt5]
   have q0 : decide ((i : Int) < (K : Int)) = false := decide_eq_false (by omega)
   have q1 : decide (i < K) = false := decide_eq_false hlt
   clear hlt hik hod hlen
   go_wp2_with (first | refine u0 ?_ | (refine uS ?_; clear HX; intro w HX) | (refine uA ?_; clear HX; (first | (have hq := b; clear hq; intro w b2 HX) | intro w b HX)) | (refine uP ?_; clear HX; intro w av nv cv HX) | fail)
   go_ret
   refine ⟨_, (1, .slice a n c, os.map ivn) :: P, rfl, fun z hz => k_n _ hz, by rw [HD.out, hfin]; exact k_s, ?_⟩
   rw [HD.out, hfin]
   exact ygn' (P' := (1, .slice a n c, os.map ivn) :: P) HX.out.up2.up2.up1.poolRow.up1 (fun z hz => k_n _ hz)
  case pos =>
   have q0 : decide (i < K) = true := decide_eq_true hlt
   have q1 : decide ((i : Int) < (K : Int)) = true := decide_eq_true (by omega)
   have q9 : i ≤ 4 := by have := HK.out; omega
   have hl := yag' (P := Tryz.prog) (ty := 4) (by kernel_rfl) (yvo' HX.out)
   cases db with
   | true =>
    have hfin : cnt5 K (dl1, db1) = (os, (dl, true)) := by
     rw [hod, show K - i = (K - i - 1) + 1 by omega]
     simp [cnt5]
    clear hlt hik hod hlen
    go_wp2_with (first | refine u0 ?_ | (refine uS ?_; clear HX; intro w HX) | (refine uA ?_; clear HX; (first | (have hq := b; clear hq; intro w b2 HX) | intro w b HX)) | (refine uP ?_; clear HX; intro w av nv cv HX) | ((with_reducible apply yau' hl); (· rfl); (· rfl); simp only [Act.put, k_a, k_b, k_c]))
    go_ret
    refine ⟨_, (1, .slice a n c, os.map ivn) :: P, rfl, fun z hz => k_n _ hz, by rw [HD.out, hfin]; exact k_s, ?_⟩
    rw [HD.out, hfin]
    exact ygn' (P' := (1, .slice a n c, os.map ivn) :: P) HX.out.up2.up2.up1.poolRow.up1 (fun z hz => k_n _ hz)
   | false =>
    obtain ⟨⟨k1, dl2, db2⟩, g1⟩ : ∃ x, cntR 3 (dl, false) = x := ⟨_, rfl⟩
    have hnx : cnt5 K (dl1, db1) = ((os ++ [k1]) ++ (cnt5 (K - (i + 1)) (dl2, db2)).1, (cnt5 (K - (i + 1)) (dl2, db2)).2) := by
     rw [hod, show K - i = (K - (i + 1)) + 1 by omega, cnt5, if_neg (by simp), g1]
     simp
    have HNX := Lib.hid (show _ ∧ (os ++ [k1]).length = i + 1 from ⟨hnx, by simp [hlen]⟩)
    have HG := Lib.hid g1
    have HBD := Lib.hid (show ∀ n, (os.map ivn).length = n * 1 → n + 1 ≤ 140737488355328 ∧ (n + 1) * 8 ≤ 140737488355328 from fun n hn => by rw [List.length_map, hlen] at hn; omega)
    clear hnx g1 hod hlen
    go_wp2_with (first | refine u0 ?_ | (refine uS ?_; clear HX; intro w HX) | (refine uA ?_; clear HX; (first | (have hq := b; clear hq; intro w b2 HX) | intro w b HX)) | (refine uP ?_; clear HX; intro w av nv cv HX) | ((with_reducible apply yau' hl); (· rfl); (· rfl); simp only [Act.put, k_a, k_b, k_c]))
    clear hl
    refine (ydz' HX.out 3).mono ?_
    rw [HG.out]
    rintro e w ⟨rfl, hx⟩
    replace HX := Lib.hid hx
    clear hx
    go_wp2_with (first | refine u0 ?_ | (refine uS ?_; clear HX; intro w HX) | (refine uA ?_; clear HX; (first | (have hq := b; clear hq; intro w b2 HX) | intro w b HX)) | (refine uP ?_; clear HX; intro w av nv cv HX))
    go_roundg (K - (i + 1))
    case rel => exact ⟨i + 1, _, dl2, db2, av, nv, cv, by omega, rfl, by go_num, HNX.out.1, HNX.out.2, by rw [List.map_append]; exact HX.out.pm 4 [2, 3, 0] rfl rfl⟩
    case measure => omega
end
end Go.Proofs.YtcnkifbjlihaoaaGreatDoor

namespace Go.Proofs.YtcnkifbjlihaoaaGreatDoor
open Go.RowKit Go.Av
section
variable {w0 w : World} {P P' : List PRow} {R : List Thing} {rows : List (Value × Bs)}
def CmS (w0 : World) (b : Nat) (cs : Array Value) (rows : List (Value × Bs)) (W : World) : Prop := ∃ Ts, Sep w0 W (yac' b (.cells cs 76 (0, 0)) :: Ts) rows
theorem CmS.l1 {b : Nat} {cs : Array Value} (h : CmS w0 b cs rows w) {ty : TypeId} (i : Nat) {v : Value} (hs : ycy' Tryz.prog ty = true) (hv : cs[i]? = some v) : (Instr.loadAt ty (.pointer (some ⟨b, i, none⟩))).run Tryz.prog w = .ok v w := by
 obtain ⟨Ts, hV⟩ := h
 exact yag' hs (yaa' hV.blk i hv)
set_option maxRecDepth 100000 in
set_option maxHeartbeats 8000000 in
theorem yf4' (h : Sep w0 w (yab' w0 P :: R) rows) (c : CmdS) (vo vs : Value) (hvo : (5, vo, c.ops.flatMap OpS.cells) ∈ P) (hvs : (1, vs, c.shards.map ivn) ∈ P) (hp : ∀ o ∈ c.ops, o.path.size ≤ 100000) (hs : c.shards.length ≤ 1000) :
  Calls Tryz.prog 42 #[.agg (cmdV c vo vs)] w (yes' w0 (putC c) (yab' w0 P :: R) rows) := by
 obtain ⟨E, hE⟩ := h.poolGet hvo
 obtain ⟨oa, on, oc, rfl, -⟩ := _root_.id hE
 obtain ⟨E, hE⟩ := h.poolGet hvs
 obtain ⟨sa, sn, sc, rfl, -⟩ := _root_.id hE
 have HV := Lib.hid (show _ ∧ _ ∧ _ ∧ _ from ⟨hvo, hvs, hp, hs⟩)
 have HX := Lib.hid h
 clear h hE hvo hvs hp hs
 obtain ⟨k0, id, sess, rs, rn, ops, shards, shard, yes⟩ := c
 unfold cmdV
 dsimp only at HV ⊢
 by_cases h1 : k0 = 1
 ·subst h1
  have HB := Lib.hid (show ∀ x : Int, (yad' 1 ++ yad' id).length = 16 from fun _ => by rw [List.length_append, yaf', yaf'])
  go_enter Tryz.func42, Tryz.ntmps42
  go_wp2_with (first | refine u0 ?_ | (refine uS ?_; clear HX; intro w HX) | (refine uA ?_; clear HX; (first | (have hq := b; clear hq; intro w b2 HX) | intro w b HX)))
  refine rM (fun W => CmS w0 b #[.int .i64 1, .int .i64 id, .int .i64 sess, .int .i64 rs, .int .i64 rn, .slice oa on oc, .slice sa sn sc, .int .i64 shard, .bool yes] rows W) 6 ?_
  intro KEEPX
  replace HX := Lib.hid HX.out.drew
  have hl := fun V (hV : CmS w0 b #[.int .i64 1, .int .i64 id, .int .i64 sess, .int .i64 rs, .int .i64 rn, .slice oa on oc, .slice sa sn sc, .int .i64 shard, .bool yes] rows V) => hV.l1 (ty := 3) 0 (by kernel_rfl) rfl
  have hl2 := fun V (hV : CmS w0 b #[.int .i64 1, .int .i64 id, .int .i64 sess, .int .i64 rs, .int .i64 rn, .slice oa on oc, .slice sa sn sc, .int .i64 shard, .bool yes] rows V) => hV.l1 (ty := 2) 1 (by kernel_rfl) rfl
  refine rT [(0, false), (1, true), (3, false), (4, true)] 3 ?_
  apply Exists.intro; refine ⟨?_, ⟨_, HX.out⟩, ?_⟩
  ·iterate 4 (refine xE ?_)
   exact rfl
  clear hl hl2
  refine r1 2 2 fun K hK => ?_
  go_wp2_with fail
  refine (i64D (l := []) (HX.out.nilRow 1) 1 (by simp)).mono ?_
  rintro e w ⟨v3, rfl, hx⟩
  replace HX := Lib.hid hx
  clear hx
  go_wp2_with fail
  refine hK _ _ ⟨_, HX.out.up1⟩ ?_
  clear hK
  refine r1 1 5 fun K hK => ?_
  go_wp2_with fail
  refine (i64D HX.out id (by simp [yaf'])).mono ?_
  rintro e w ⟨v4, rfl, hx⟩
  replace HX := Lib.hid hx
  clear hx
  go_wp2_with fail
  refine hK _ _ ⟨_, HX.out.up1⟩ ?_
  clear hK
  rw [List.nil_append] at HX
  refine rL [6] 0 ?_
  simp only [List.filterMap_cons, List.filterMap_nil, k_i, k_j, k_k]
  go_wp2_with (first | refine u0 ?_ | (refine uS ?_; clear HX; intro w HX) | (refine uA ?_; clear HX; (first | (have hq := b; clear hq; intro w b2 HX) | intro w b HX)))
  refine (yhg' HX.out.up2 rs rn ops _ HV.out.1 HV.out.2.2.1).mono ?_
  obtain ⟨bs, hbs⟩ : ∃ bs, putR rs rn ops = bs := ⟨_, rfl⟩
  rw [hbs]
  have HBS := Lib.hid (show _ ∧ _ from ⟨hbs, (by rw [← hbs]; exact ydf' rs rn ops : bs.length ≤ 19864)⟩)
  clear hbs
  rintro e w ⟨v5, rfl, hx⟩
  replace HX := Lib.hid hx
  clear hx
  go_wp2_with (first | refine u0 ?_ | (refine uS ?_; clear HX; intro w HX) | (refine uA ?_; clear HX; (first | (have hq := b; clear hq; intro w b2 HX) | intro w b HX)) | (refine yoj' HX Tryz.underlying71 Tryz.underlying5 Tryz.underlying9 rfl rfl ?_; simp only [Act.put, k_a, k_b, k_c]))
  have hz : (⟨bs.toArray⟩ : ByteArray).size = bs.length := by show bs.toArray.size = _; simp
  refine (txtD HX.out.up2 ⟨bs.toArray⟩ (by have := HB.out 0; omega) (by have := HBS.out.2; omega)).mono ?_
  rintro e w ⟨v6, rfl, hx⟩
  replace HX := Lib.hid hx
  clear hx
  clear hz
  go_wp2_with (first | refine u0 ?_ | (refine uS ?_; clear HX; intro w HX) | (refine uA ?_; clear HX; (first | (have hq := b; clear hq; intro w b2 HX) | intro w b HX)))
  go_ret
  refine ⟨v6, rfl, ?_⟩
  unfold putC
  rw [if_pos rfl]
  dsimp only
  rw [HBS.out.1]
  exact HX.out.pm 4 [0, 2] rfl rfl
 by_cases h4 : k0 = 4
 ·subst h4
  clear h1
  have HB := Lib.hid (show ∀ x : Int, (yad' 4 ++ yad' id).length = 16 from fun _ => by rw [List.length_append, yaf', yaf'])
  go_enter Tryz.func42, Tryz.ntmps42
  go_wp2_with (first | refine u0 ?_ | (refine uS ?_; clear HX; intro w HX) | (refine uA ?_; clear HX; (first | (have hq := b; clear hq; intro w b2 HX) | intro w b HX)))
  refine rM (fun W => CmS w0 b #[.int .i64 4, .int .i64 id, .int .i64 sess, .int .i64 rs, .int .i64 rn, .slice oa on oc, .slice sa sn sc, .int .i64 shard, .bool yes] rows W) 6 ?_
  intro KEEPX
  replace HX := Lib.hid HX.out.drew
  have hl := fun V (hV : CmS w0 b #[.int .i64 4, .int .i64 id, .int .i64 sess, .int .i64 rs, .int .i64 rn, .slice oa on oc, .slice sa sn sc, .int .i64 shard, .bool yes] rows V) => hV.l1 (ty := 3) 0 (by kernel_rfl) rfl
  have hl2 := fun V (hV : CmS w0 b #[.int .i64 4, .int .i64 id, .int .i64 sess, .int .i64 rs, .int .i64 rn, .slice oa on oc, .slice sa sn sc, .int .i64 shard, .bool yes] rows V) => hV.l1 (ty := 2) 1 (by kernel_rfl) rfl
  refine rT [(0, false), (1, true), (3, false), (4, true)] 3 ?_
  apply Exists.intro; refine ⟨?_, ⟨_, HX.out⟩, ?_⟩
  ·iterate 4 (refine xE ?_)
   exact rfl
  clear hl hl2
  refine r1 2 2 fun K hK => ?_
  go_wp2_with fail
  refine (i64D (l := []) (HX.out.nilRow 1) 4 (by simp)).mono ?_
  rintro e w ⟨v3, rfl, hx⟩
  replace HX := Lib.hid hx
  clear hx
  go_wp2_with fail
  refine hK _ _ ⟨_, HX.out.up1⟩ ?_
  clear hK
  refine r1 1 5 fun K hK => ?_
  go_wp2_with fail
  refine (i64D HX.out id (by simp [yaf'])).mono ?_
  rintro e w ⟨v4, rfl, hx⟩
  replace HX := Lib.hid hx
  clear hx
  go_wp2_with fail
  refine hK _ _ ⟨_, HX.out.up1⟩ ?_
  clear hK
  rw [List.nil_append] at HX
  refine rL [6] 0 ?_
  simp only [List.filterMap_cons, List.filterMap_nil, k_i, k_j, k_k]
  go_wp2_with (first | refine u0 ?_ | (refine uS ?_; clear HX; intro w HX) | (refine uA ?_; clear HX; (first | (have hq := b; clear hq; intro w b2 HX) | intro w b HX)))
  refine (ymi' HX.out yes (by have := HB.out 0; omega)).mono ?_
  rintro e w ⟨v6, rfl, hx⟩
  replace HX := Lib.hid hx
  clear hx
  go_wp2_with (first | refine u0 ?_ | (refine uS ?_; clear HX; intro w HX) | (refine uA ?_; clear HX; (first | (have hq := b; clear hq; intro w b2 HX) | intro w b HX)))
  go_ret
  refine ⟨v6, rfl, ?_⟩
  exact HX.out.pm 3 [0, 2] rfl rfl
 by_cases h5 : k0 = 5
 ·subst h5
  clear h1 h4
  have HB := Lib.hid (show ∀ x : Int, (yad' 5 ++ yad' id).length = 16 from fun _ => by rw [List.length_append, yaf', yaf'])
  go_enter Tryz.func42, Tryz.ntmps42
  go_wp2_with (first | refine u0 ?_ | (refine uS ?_; clear HX; intro w HX) | (refine uA ?_; clear HX; (first | (have hq := b; clear hq; intro w b2 HX) | intro w b HX)))
  refine rM (fun W => CmS w0 b #[.int .i64 5, .int .i64 id, .int .i64 sess, .int .i64 rs, .int .i64 rn, .slice oa on oc, .slice sa sn sc, .int .i64 shard, .bool yes] rows W) 6 ?_
  intro KEEPX
  replace HX := Lib.hid HX.out.drew
  have hl := fun V (hV : CmS w0 b #[.int .i64 5, .int .i64 id, .int .i64 sess, .int .i64 rs, .int .i64 rn, .slice oa on oc, .slice sa sn sc, .int .i64 shard, .bool yes] rows V) => hV.l1 (ty := 3) 0 (by kernel_rfl) rfl
  have hl2 := fun V (hV : CmS w0 b #[.int .i64 5, .int .i64 id, .int .i64 sess, .int .i64 rs, .int .i64 rn, .slice oa on oc, .slice sa sn sc, .int .i64 shard, .bool yes] rows V) => hV.l1 (ty := 2) 1 (by kernel_rfl) rfl
  refine rT [(0, false), (1, true), (3, false), (4, true)] 3 ?_
  apply Exists.intro; refine ⟨?_, ⟨_, HX.out⟩, ?_⟩
  ·iterate 4 (refine xE ?_)
   exact rfl
  clear hl hl2
  refine r1 2 2 fun K hK => ?_
  go_wp2_with fail
  refine (i64D (l := []) (HX.out.nilRow 1) 5 (by simp)).mono ?_
  rintro e w ⟨v3, rfl, hx⟩
  replace HX := Lib.hid hx
  clear hx
  go_wp2_with fail
  refine hK _ _ ⟨_, HX.out.up1⟩ ?_
  clear hK
  refine r1 1 5 fun K hK => ?_
  go_wp2_with fail
  refine (i64D HX.out id (by simp [yaf'])).mono ?_
  rintro e w ⟨v4, rfl, hx⟩
  replace HX := Lib.hid hx
  clear hx
  go_wp2_with fail
  refine hK _ _ ⟨_, HX.out.up1⟩ ?_
  clear hK
  rw [List.nil_append] at HX
  refine rL [6] 0 ?_
  simp only [List.filterMap_cons, List.filterMap_nil, k_i, k_j, k_k]
  go_wp2_with (first | refine u0 ?_ | (refine uS ?_; clear HX; intro w HX) | (refine uA ?_; clear HX; (first | (have hq := b; clear hq; intro w b2 HX) | intro w b HX)))
  refine (yey' HX.out.up2.up1 shards _ HV.out.2.1 HV.out.2.2.2 (by have := HB.out 0; omega)).mono ?_
  rintro e w ⟨v6, rfl, hx⟩
  replace HX := Lib.hid hx
  clear hx
  go_wp2_with (first | refine u0 ?_ | (refine uS ?_; clear HX; intro w HX) | (refine uA ?_; clear HX; (first | (have hq := b; clear hq; intro w b2 HX) | intro w b HX)))
  go_ret
  refine ⟨v6, rfl, ?_⟩
  exact HX.out.pm 3 [0, 1] rfl rfl
 by_cases h7 : k0 = 7
 ·subst h7
  clear h1 h4 h5
  have HB := Lib.hid (show ∀ x : Int, (yad' 7 ++ yad' id).length = 16 from fun _ => by rw [List.length_append, yaf', yaf'])
  go_enter Tryz.func42, Tryz.ntmps42
  go_wp2_with (first | refine u0 ?_ | (refine uS ?_; clear HX; intro w HX) | (refine uA ?_; clear HX; (first | (have hq := b; clear hq; intro w b2 HX) | intro w b HX)))
  refine rM (fun W => CmS w0 b #[.int .i64 7, .int .i64 id, .int .i64 sess, .int .i64 rs, .int .i64 rn, .slice oa on oc, .slice sa sn sc, .int .i64 shard, .bool yes] rows W) 6 ?_
  intro KEEPX
  replace HX := Lib.hid HX.out.drew
  have hl := fun V (hV : CmS w0 b #[.int .i64 7, .int .i64 id, .int .i64 sess, .int .i64 rs, .int .i64 rn, .slice oa on oc, .slice sa sn sc, .int .i64 shard, .bool yes] rows V) => hV.l1 (ty := 3) 0 (by kernel_rfl) rfl
  have hl2 := fun V (hV : CmS w0 b #[.int .i64 7, .int .i64 id, .int .i64 sess, .int .i64 rs, .int .i64 rn, .slice oa on oc, .slice sa sn sc, .int .i64 shard, .bool yes] rows V) => hV.l1 (ty := 2) 1 (by kernel_rfl) rfl
  refine rT [(0, false), (1, true), (3, false), (4, true)] 3 ?_
  apply Exists.intro; refine ⟨?_, ⟨_, HX.out⟩, ?_⟩
  ·iterate 4 (refine xE ?_)
   exact rfl
  clear hl hl2
  refine r1 2 2 fun K hK => ?_
  go_wp2_with fail
  refine (i64D (l := []) (HX.out.nilRow 1) 7 (by simp)).mono ?_
  rintro e w ⟨v3, rfl, hx⟩
  replace HX := Lib.hid hx
  clear hx
  go_wp2_with fail
  refine hK _ _ ⟨_, HX.out.up1⟩ ?_
  clear hK
  refine r1 1 5 fun K hK => ?_
  go_wp2_with fail
  refine (i64D HX.out id (by simp [yaf'])).mono ?_
  rintro e w ⟨v4, rfl, hx⟩
  replace HX := Lib.hid hx
  clear hx
  go_wp2_with fail
  refine hK _ _ ⟨_, HX.out.up1⟩ ?_
  clear hK
  rw [List.nil_append] at HX
  refine rL [6] 0 ?_
  simp only [List.filterMap_cons, List.filterMap_nil, k_i, k_j, k_k]
  go_wp2_with (first | refine u0 ?_ | (refine uS ?_; clear HX; intro w HX) | (refine uA ?_; clear HX; (first | (have hq := b; clear hq; intro w b2 HX) | intro w b HX)))
  refine (i64D HX.out shard (by have := HB.out 0; omega)).mono ?_
  rintro e w ⟨v6, rfl, hx⟩
  replace HX := Lib.hid hx
  clear hx
  go_wp2_with (first | refine u0 ?_ | (refine uS ?_; clear HX; intro w HX) | (refine uA ?_; clear HX; (first | (have hq := b; clear hq; intro w b2 HX) | intro w b HX)))
  go_ret
  refine ⟨v6, rfl, ?_⟩
  exact HX.out.pm 3 [0, 2] rfl rfl
 by_cases h8 : k0 = 8
 ·subst h8
  clear h1 h4 h5 h7
  have HB := Lib.hid (show ∀ x : Int, (yad' 8 ++ yad' id).length = 16 from fun _ => by rw [List.length_append, yaf', yaf'])
  go_enter Tryz.func42, Tryz.ntmps42
  go_wp2_with (first | refine u0 ?_ | (refine uS ?_; clear HX; intro w HX) | (refine uA ?_; clear HX; (first | (have hq := b; clear hq; intro w b2 HX) | intro w b HX)))
  refine rM (fun W => CmS w0 b #[.int .i64 8, .int .i64 id, .int .i64 sess, .int .i64 rs, .int .i64 rn, .slice oa on oc, .slice sa sn sc, .int .i64 shard, .bool yes] rows W) 6 ?_
  intro KEEPX
  replace HX := Lib.hid HX.out.drew
  have hl := fun V (hV : CmS w0 b #[.int .i64 8, .int .i64 id, .int .i64 sess, .int .i64 rs, .int .i64 rn, .slice oa on oc, .slice sa sn sc, .int .i64 shard, .bool yes] rows V) => hV.l1 (ty := 3) 0 (by kernel_rfl) rfl
  have hl2 := fun V (hV : CmS w0 b #[.int .i64 8, .int .i64 id, .int .i64 sess, .int .i64 rs, .int .i64 rn, .slice oa on oc, .slice sa sn sc, .int .i64 shard, .bool yes] rows V) => hV.l1 (ty := 2) 1 (by kernel_rfl) rfl
  refine rT [(0, false), (1, true), (3, false), (4, true)] 3 ?_
  apply Exists.intro; refine ⟨?_, ⟨_, HX.out⟩, ?_⟩
  ·iterate 4 (refine xE ?_)
   exact rfl
  clear hl hl2
  refine r1 2 2 fun K hK => ?_
  go_wp2_with fail
  refine (i64D (l := []) (HX.out.nilRow 1) 8 (by simp)).mono ?_
  rintro e w ⟨v3, rfl, hx⟩
  replace HX := Lib.hid hx
  clear hx
  go_wp2_with fail
  refine hK _ _ ⟨_, HX.out.up1⟩ ?_
  clear hK
  refine r1 1 5 fun K hK => ?_
  go_wp2_with fail
  refine (i64D HX.out id (by simp [yaf'])).mono ?_
  rintro e w ⟨v4, rfl, hx⟩
  replace HX := Lib.hid hx
  clear hx
  go_wp2_with fail
  refine hK _ _ ⟨_, HX.out.up1⟩ ?_
  clear hK
  rw [List.nil_append] at HX
  refine rL [6] 0 ?_
  simp only [List.filterMap_cons, List.filterMap_nil, k_i, k_j, k_k]
  go_wp2_with (first | refine u0 ?_ | (refine uS ?_; clear HX; intro w HX) | (refine uA ?_; clear HX; (first | (have hq := b; clear hq; intro w b2 HX) | intro w b HX)))
  go_ret
  refine ⟨v4, rfl, ?_⟩
  exact HX.out.pm 3 [0, 2] rfl rfl
 by_cases h2 : k0 = 2
 ·subst h2
  clear h1 h4 h5 h7 h8
  have HB := Lib.hid (show ∀ x : Int, (yad' 2 ++ yad' id).length = 16 from fun _ => by rw [List.length_append, yaf', yaf'])
  go_enter Tryz.func42, Tryz.ntmps42
  go_wp2_with (first | refine u0 ?_ | (refine uS ?_; clear HX; intro w HX) | (refine uA ?_; clear HX; (first | (have hq := b; clear hq; intro w b2 HX) | intro w b HX)))
  refine rM (fun W => CmS w0 b #[.int .i64 2, .int .i64 id, .int .i64 sess, .int .i64 rs, .int .i64 rn, .slice oa on oc, .slice sa sn sc, .int .i64 shard, .bool yes] rows W) 6 ?_
  intro KEEPX
  replace HX := Lib.hid HX.out.drew
  have hl := fun V (hV : CmS w0 b #[.int .i64 2, .int .i64 id, .int .i64 sess, .int .i64 rs, .int .i64 rn, .slice oa on oc, .slice sa sn sc, .int .i64 shard, .bool yes] rows V) => hV.l1 (ty := 3) 0 (by kernel_rfl) rfl
  have hl2 := fun V (hV : CmS w0 b #[.int .i64 2, .int .i64 id, .int .i64 sess, .int .i64 rs, .int .i64 rn, .slice oa on oc, .slice sa sn sc, .int .i64 shard, .bool yes] rows V) => hV.l1 (ty := 2) 1 (by kernel_rfl) rfl
  refine rT [(0, false), (1, true), (3, false), (4, true)] 3 ?_
  apply Exists.intro; refine ⟨?_, ⟨_, HX.out⟩, ?_⟩
  ·iterate 4 (refine xE ?_)
   exact rfl
  clear hl hl2
  refine r1 2 2 fun K hK => ?_
  go_wp2_with fail
  refine (i64D (l := []) (HX.out.nilRow 1) 2 (by simp)).mono ?_
  rintro e w ⟨v3, rfl, hx⟩
  replace HX := Lib.hid hx
  clear hx
  go_wp2_with fail
  refine hK _ _ ⟨_, HX.out.up1⟩ ?_
  clear hK
  refine r1 1 5 fun K hK => ?_
  go_wp2_with fail
  refine (i64D HX.out id (by simp [yaf'])).mono ?_
  rintro e w ⟨v4, rfl, hx⟩
  replace HX := Lib.hid hx
  clear hx
  go_wp2_with fail
  refine hK _ _ ⟨_, HX.out.up1⟩ ?_
  clear hK
  rw [List.nil_append] at HX
  refine rL [6] 0 ?_
  simp only [List.filterMap_cons, List.filterMap_nil, k_i, k_j, k_k]
  go_wp2_with (first | refine u0 ?_ | (refine uS ?_; clear HX; intro w HX) | (refine uA ?_; clear HX; (first | (have hq := b; clear hq; intro w b2 HX) | intro w b HX)))
  refine rM (fun W => CmS w0 b #[.int .i64 2, .int .i64 id, .int .i64 sess, .int .i64 rs, .int .i64 rn, .slice oa on oc, .slice sa sn sc, .int .i64 shard, .bool yes] rows W) 7 ?_
  intro KEEPX
  replace HX := Lib.hid HX.out.drew
  have hl := fun V (hV : CmS w0 b #[.int .i64 2, .int .i64 id, .int .i64 sess, .int .i64 rs, .int .i64 rn, .slice oa on oc, .slice sa sn sc, .int .i64 shard, .bool yes] rows V) => hV.l1 (ty := 2) 2 (by kernel_rfl) rfl
  have hl2 := fun V (hV : CmS w0 b #[.int .i64 2, .int .i64 id, .int .i64 sess, .int .i64 rs, .int .i64 rn, .slice oa on oc, .slice sa sn sc, .int .i64 shard, .bool yes] rows V) => hV.l1 (ty := 68) 6 (by kernel_rfl) rfl
  refine rT [(0, false), (1, false), (2, true), (4, false), (5, true)] 3 ?_
  apply Exists.intro; refine ⟨?_, ⟨_, HX.out.up1⟩, ?_⟩
  ·iterate 5 (refine xE ?_)
   exact rfl
  clear hl hl2
  refine r1 2 3 fun K hK => ?_
  go_wp2_with fail
  refine (i64D HX.out sess (by have := HB.out 0; omega)).mono ?_
  rintro e w ⟨v6, rfl, hx⟩
  replace HX := Lib.hid hx
  clear hx
  go_wp2_with fail
  refine hK _ _ ⟨_, HX.out.up1⟩ ?_
  clear hK
  refine r1 1 6 fun K hK => ?_
  go_wp2_with fail
  refine (yey' HX.out.up2.up1 shards _ HV.out.2.1 HV.out.2.2.2 (by have := HB.out 0; rw [List.length_append, yaf']; omega)).mono ?_
  rintro e w ⟨v7, rfl, hx⟩
  replace HX := Lib.hid hx
  clear hx
  go_wp2_with fail
  refine hK _ _ ⟨_, HX.out.up2⟩ ?_
  clear hK
  have hln : ((yad' 2 ++ yad' id ++ yad' sess) ++ shB shards).length ≤ 100000 := by
   have := HB.out 0
   have h9 := yhu' shards
   have := HV.out.2.2.2
   unfold shB
   simp only [List.length_append, yaf', h9]
   omega
  have HLN := Lib.hid hln
  clear hln
  refine rL [7] 0 ?_
  simp only [List.filterMap_cons, List.filterMap_nil, k_i, k_j, k_k]
  go_wp2_with (first | refine u0 ?_ | (refine uS ?_; clear HX; intro w HX) | (refine uA ?_; clear HX; (first | (have hq := b; clear hq; intro w b2 HX) | intro w b HX)))
  refine (yhg' HX.out.up1 sess id ops _ HV.out.1 HV.out.2.2.1).mono ?_
  obtain ⟨bs, hbs⟩ : ∃ bs, putR sess id ops = bs := ⟨_, rfl⟩
  rw [hbs]
  have HBS := Lib.hid (show _ ∧ _ from ⟨hbs, (by rw [← hbs]; exact ydf' sess id ops : bs.length ≤ 19864)⟩)
  clear hbs
  rintro e w ⟨v5, rfl, hx⟩
  replace HX := Lib.hid hx
  clear hx
  go_wp2_with (first | refine u0 ?_ | (refine uS ?_; clear HX; intro w HX) | (refine uA ?_; clear HX; (first | (have hq := b; clear hq; intro w b2 HX) | intro w b HX)) | (refine yoj' HX Tryz.underlying71 Tryz.underlying5 Tryz.underlying9 rfl rfl ?_; simp only [Act.put, k_a, k_b, k_c]))
  have hz : (⟨bs.toArray⟩ : ByteArray).size = bs.length := by show bs.toArray.size = _; simp
  refine (txtD HX.out.up2 ⟨bs.toArray⟩ (by have := HLN.out; omega) (by have := HBS.out.2; omega)).mono ?_
  rintro e w ⟨v8, rfl, hx⟩
  replace HX := Lib.hid hx
  clear hx
  clear hz
  go_wp2_with (first | refine u0 ?_ | (refine uS ?_; clear HX; intro w HX) | (refine uA ?_; clear HX; (first | (have hq := b; clear hq; intro w b2 HX) | intro w b HX)))
  go_ret
  refine ⟨v8, rfl, ?_⟩
  unfold putC
  dsimp only
  rw [if_neg (by decide), if_pos rfl, HBS.out.1]
  exact HX.out.pm 4 [0, 2] rfl rfl
 by_cases h3 : k0 = 3
 ·subst h3
  clear h1 h2 h4 h5 h7 h8
  have HB := Lib.hid (show ∀ x : Int, (yad' 3 ++ yad' id).length = 16 from fun _ => by rw [List.length_append, yaf', yaf'])
  go_enter Tryz.func42, Tryz.ntmps42
  go_wp2_with (first | refine u0 ?_ | (refine uS ?_; clear HX; intro w HX) | (refine uA ?_; clear HX; (first | (have hq := b; clear hq; intro w b2 HX) | intro w b HX)))
  refine rM (fun W => CmS w0 b #[.int .i64 3, .int .i64 id, .int .i64 sess, .int .i64 rs, .int .i64 rn, .slice oa on oc, .slice sa sn sc, .int .i64 shard, .bool yes] rows W) 6 ?_
  intro KEEPX
  replace HX := Lib.hid HX.out.drew
  have hl := fun V (hV : CmS w0 b #[.int .i64 3, .int .i64 id, .int .i64 sess, .int .i64 rs, .int .i64 rn, .slice oa on oc, .slice sa sn sc, .int .i64 shard, .bool yes] rows V) => hV.l1 (ty := 3) 0 (by kernel_rfl) rfl
  have hl2 := fun V (hV : CmS w0 b #[.int .i64 3, .int .i64 id, .int .i64 sess, .int .i64 rs, .int .i64 rn, .slice oa on oc, .slice sa sn sc, .int .i64 shard, .bool yes] rows V) => hV.l1 (ty := 2) 1 (by kernel_rfl) rfl
  refine rT [(0, false), (1, true), (3, false), (4, true)] 3 ?_
  apply Exists.intro; refine ⟨?_, ⟨_, HX.out⟩, ?_⟩
  ·iterate 4 (refine xE ?_)
   exact rfl
  clear hl hl2
  refine r1 2 2 fun K hK => ?_
  go_wp2_with fail
  refine (i64D (l := []) (HX.out.nilRow 1) 3 (by simp)).mono ?_
  rintro e w ⟨v3, rfl, hx⟩
  replace HX := Lib.hid hx
  clear hx
  go_wp2_with fail
  refine hK _ _ ⟨_, HX.out.up1⟩ ?_
  clear hK
  refine r1 1 5 fun K hK => ?_
  go_wp2_with fail
  refine (i64D HX.out id (by simp [yaf'])).mono ?_
  rintro e w ⟨v4, rfl, hx⟩
  replace HX := Lib.hid hx
  clear hx
  go_wp2_with fail
  refine hK _ _ ⟨_, HX.out.up1⟩ ?_
  clear hK
  rw [List.nil_append] at HX
  refine rL [6] 0 ?_
  simp only [List.filterMap_cons, List.filterMap_nil, k_i, k_j, k_k]
  go_wp2_with (first | refine u0 ?_ | (refine uS ?_; clear HX; intro w HX) | (refine uA ?_; clear HX; (first | (have hq := b; clear hq; intro w b2 HX) | intro w b HX)))
  refine rM (fun W => CmS w0 b #[.int .i64 3, .int .i64 id, .int .i64 sess, .int .i64 rs, .int .i64 rn, .slice oa on oc, .slice sa sn sc, .int .i64 shard, .bool yes] rows W) 7 ?_
  intro KEEPX
  replace HX := Lib.hid HX.out.drew
  have hl := fun V (hV : CmS w0 b #[.int .i64 3, .int .i64 id, .int .i64 sess, .int .i64 rs, .int .i64 rn, .slice oa on oc, .slice sa sn sc, .int .i64 shard, .bool yes] rows V) => hV.l1 (ty := 2) 2 (by kernel_rfl) rfl
  have hl2 := fun V (hV : CmS w0 b #[.int .i64 3, .int .i64 id, .int .i64 sess, .int .i64 rs, .int .i64 rn, .slice oa on oc, .slice sa sn sc, .int .i64 shard, .bool yes] rows V) => hV.l1 (ty := 68) 6 (by kernel_rfl) rfl
  refine rT [(0, false), (1, false), (2, true), (4, false), (5, true)] 3 ?_
  apply Exists.intro; refine ⟨?_, ⟨_, HX.out.up1⟩, ?_⟩
  ·iterate 5 (refine xE ?_)
   exact rfl
  clear hl hl2
  refine r1 2 3 fun K hK => ?_
  go_wp2_with fail
  refine (i64D HX.out sess (by have := HB.out 0; omega)).mono ?_
  rintro e w ⟨v6, rfl, hx⟩
  replace HX := Lib.hid hx
  clear hx
  go_wp2_with fail
  refine hK _ _ ⟨_, HX.out.up1⟩ ?_
  clear hK
  refine r1 1 6 fun K hK => ?_
  go_wp2_with fail
  refine (yey' HX.out.up2.up1 shards _ HV.out.2.1 HV.out.2.2.2 (by have := HB.out 0; rw [List.length_append, yaf']; omega)).mono ?_
  rintro e w ⟨v7, rfl, hx⟩
  replace HX := Lib.hid hx
  clear hx
  go_wp2_with fail
  refine hK _ _ ⟨_, HX.out.up2⟩ ?_
  clear hK
  refine rL [7] 0 ?_
  simp only [List.filterMap_cons, List.filterMap_nil, k_i, k_j, k_k]
  go_wp2_with (first | refine u0 ?_ | (refine uS ?_; clear HX; intro w HX) | (refine uA ?_; clear HX; (first | (have hq := b; clear hq; intro w b2 HX) | intro w b HX)))
  go_ret
  refine ⟨v7, rfl, ?_⟩
  exact HX.out.pm 3 [0, 1] rfl rfl
 by_cases h6 : k0 = 6
 ·subst h6
  clear h1 h2 h3 h4 h5 h7 h8
  have HB := Lib.hid (show ∀ x : Int, (yad' 6 ++ yad' id).length = 16 from fun _ => by rw [List.length_append, yaf', yaf'])
  go_enter Tryz.func42, Tryz.ntmps42
  go_wp2_with (first | refine u0 ?_ | (refine uS ?_; clear HX; intro w HX) | (refine uA ?_; clear HX; (first | (have hq := b; clear hq; intro w b2 HX) | intro w b HX)))
  refine rM (fun W => CmS w0 b #[.int .i64 6, .int .i64 id, .int .i64 sess, .int .i64 rs, .int .i64 rn, .slice oa on oc, .slice sa sn sc, .int .i64 shard, .bool yes] rows W) 6 ?_
  intro KEEPX
  replace HX := Lib.hid HX.out.drew
  have hl := fun V (hV : CmS w0 b #[.int .i64 6, .int .i64 id, .int .i64 sess, .int .i64 rs, .int .i64 rn, .slice oa on oc, .slice sa sn sc, .int .i64 shard, .bool yes] rows V) => hV.l1 (ty := 3) 0 (by kernel_rfl) rfl
  have hl2 := fun V (hV : CmS w0 b #[.int .i64 6, .int .i64 id, .int .i64 sess, .int .i64 rs, .int .i64 rn, .slice oa on oc, .slice sa sn sc, .int .i64 shard, .bool yes] rows V) => hV.l1 (ty := 2) 1 (by kernel_rfl) rfl
  refine rT [(0, false), (1, true), (3, false), (4, true)] 3 ?_
  apply Exists.intro; refine ⟨?_, ⟨_, HX.out⟩, ?_⟩
  ·iterate 4 (refine xE ?_)
   exact rfl
  clear hl hl2
  refine r1 2 2 fun K hK => ?_
  go_wp2_with fail
  refine (i64D (l := []) (HX.out.nilRow 1) 6 (by simp)).mono ?_
  rintro e w ⟨v3, rfl, hx⟩
  replace HX := Lib.hid hx
  clear hx
  go_wp2_with fail
  refine hK _ _ ⟨_, HX.out.up1⟩ ?_
  clear hK
  refine r1 1 5 fun K hK => ?_
  go_wp2_with fail
  refine (i64D HX.out id (by simp [yaf'])).mono ?_
  rintro e w ⟨v4, rfl, hx⟩
  replace HX := Lib.hid hx
  clear hx
  go_wp2_with fail
  refine hK _ _ ⟨_, HX.out.up1⟩ ?_
  clear hK
  rw [List.nil_append] at HX
  refine rL [6] 0 ?_
  simp only [List.filterMap_cons, List.filterMap_nil, k_i, k_j, k_k]
  go_wp2_with (first | refine u0 ?_ | (refine uS ?_; clear HX; intro w HX) | (refine uA ?_; clear HX; (first | (have hq := b; clear hq; intro w b2 HX) | intro w b HX)))
  refine rM (fun W => CmS w0 b #[.int .i64 6, .int .i64 id, .int .i64 sess, .int .i64 rs, .int .i64 rn, .slice oa on oc, .slice sa sn sc, .int .i64 shard, .bool yes] rows W) 7 ?_
  intro KEEPX
  replace HX := Lib.hid HX.out.drew
  have hl := fun V (hV : CmS w0 b #[.int .i64 6, .int .i64 id, .int .i64 sess, .int .i64 rs, .int .i64 rn, .slice oa on oc, .slice sa sn sc, .int .i64 shard, .bool yes] rows V) => hV.l1 (ty := 3) 7 (by kernel_rfl) rfl
  have hl2 := fun V (hV : CmS w0 b #[.int .i64 6, .int .i64 id, .int .i64 sess, .int .i64 rs, .int .i64 rn, .slice oa on oc, .slice sa sn sc, .int .i64 shard, .bool yes] rows V) => hV.l1 (ty := 4) 8 (by kernel_rfl) rfl
  refine rT [(0, false), (1, false), (2, true), (4, false), (5, true)] 3 ?_
  apply Exists.intro; refine ⟨?_, ⟨_, HX.out.up1⟩, ?_⟩
  ·iterate 5 (refine xE ?_)
   exact rfl
  clear hl hl2
  refine r1 2 3 fun K hK => ?_
  go_wp2_with fail
  refine (i64D HX.out shard (by have := HB.out 0; omega)).mono ?_
  rintro e w ⟨v6, rfl, hx⟩
  replace HX := Lib.hid hx
  clear hx
  go_wp2_with fail
  refine hK _ _ ⟨_, HX.out.up1⟩ ?_
  clear hK
  refine r1 1 6 fun K hK => ?_
  go_wp2_with fail
  refine (ymi' HX.out yes (by have := HB.out 0; rw [List.length_append, yaf']; omega)).mono ?_
  rintro e w ⟨v7, rfl, hx⟩
  replace HX := Lib.hid hx
  clear hx
  go_wp2_with fail
  refine hK _ _ ⟨_, HX.out.up1⟩ ?_
  clear hK
  refine rL [7] 0 ?_
  simp only [List.filterMap_cons, List.filterMap_nil, k_i, k_j, k_k]
  go_wp2_with (first | refine u0 ?_ | (refine uS ?_; clear HX; intro w HX) | (refine uA ?_; clear HX; (first | (have hq := b; clear hq; intro w b2 HX) | intro w b HX)))
  go_ret
  refine ⟨v7, rfl, ?_⟩
  exact HX.out.pm 3 [0, 2] rfl rfl
 have hnil : putC ⟨k0, id, sess, rs, rn, ops, shards, shard, yes⟩ = [] := by
  unfold putC
  dsimp only
  rw [if_neg h1, if_neg h2, if_neg h3, if_neg h4, if_neg h5, if_neg h6, if_neg h7, if_neg h8]
 rw [hnil]
 by_cases h9 : k0 < 1
 ·have q1 : decide (k0 < 1) = true := decide_eq_true h9
  clear h1 h2 h3 h4 h5 h6 h7 h8 h9 hnil
  go_enter Tryz.func42, Tryz.ntmps42
  go_wp2_with (first | refine u0 ?_ | (refine uS ?_; clear HX; intro w HX) | (refine uA ?_; clear HX; (first | (have hq := b; clear hq; intro w b2 HX) | intro w b HX)))
  go_ret
  exact ⟨_, rfl, HX.out.drop.nilRow 1⟩
 ·have q1 : decide (k0 < 1) = false := decide_eq_false h9
  have q2 : decide (8 < k0) = true := decide_eq_true (by omega)
  clear h1 h2 h3 h4 h5 h6 h7 h8 h9 hnil
  go_enter Tryz.func42, Tryz.ntmps42
  go_wp2_with (first | refine u0 ?_ | (refine uS ?_; clear HX; intro w HX) | (refine uA ?_; clear HX; (first | (have hq := b; clear hq; intro w b2 HX) | intro w b HX)))
  go_ret
  exact ⟨_, rfl, HX.out.drop.nilRow 1⟩
end
end Go.Proofs.YtcnkifbjlihaoaaGreatDoor

namespace Go.Proofs.YtcnkifbjlihaoaaGreatDoor
open Go.RowKit Go.Av
theorem z_x7 : yco' Tryz.prog 76 #[.int .i64 0, .int .i64 0, .int .i64 0, .int .i64 0, .int .i64 0, .slice none 0 0, .slice none 0 0, .int .i64 0, .bool false] := by unfold yco'; kernel_rfl
section
variable {w0 w : World} {R : List Thing} {rows : List (Value × Bs)}
set_option maxRecDepth 100000 in
theorem yul' (h : Sep w0 w R rows) (s m : Int) (a : Option Addr) (n c : Nat) :
  Calls Tryz.prog 126 #[.agg #[.int .i64 s, .int .i64 m, .slice a n c]] w fun e w' => e = .returned (.agg #[.int .i64 s, .int .i64 m, .slice a n c]) ∧ Sep w0 w' R rows := by
 have HX := Lib.hid h
 clear h
 go_enter Tryz.func126, Tryz.ntmps126
 go_wp2_with (first | refine u0 ?_ | (refine uS ?_; clear HX; intro w HX) | (refine uA ?_; clear HX; (first | (have hq := b; clear hq; intro w b2 HX) | intro w b HX)))
 refine ybd' HX rfl rfl (by (repeat (first | (with_reducible exact k_s) | (with_reducible apply k_m)))) (by kernel_rfl) ?_
 exact ⟨rfl, HX.out.drop.drop⟩
set_option maxRecDepth 100000 in
set_option maxHeartbeats 4000000 in
theorem yc3' (h : Sep w0 w R rows) (k0 id sess rs rn : Int) (oa : Option Addr) (on oc : Nat) (sa : Option Addr) (sn sc : Nat) (shard : Int) (yes : Bool) :
  Calls Tryz.prog 43 #[.agg #[.int .i64 k0, .int .i64 id, .int .i64 sess, .int .i64 rs, .int .i64 rn, .slice oa on oc, .slice sa sn sc, .int .i64 shard, .bool yes]] w fun e w' =>
   e = .returned (.agg #[.int .i64 k0, .int .i64 id, .int .i64 sess, .int .i64 rs, .int .i64 rn, .slice oa on oc, .slice sa sn sc, .int .i64 shard, .bool yes]) ∧ Sep w0 w' R rows := by
 have HX := Lib.hid h
 clear h
 go_enter Tryz.func43, Tryz.ntmps43
 go_wp2_with (first | refine u0 ?_ | (refine uS ?_; clear HX; intro w HX) | (refine uA ?_; clear HX; (first | (have hq := b2; clear hq; intro w b3 HX) | (have hq := b; clear hq; intro w b2 HX) | intro w b HX)))
 refine rM (fun W => Sep w0 W (yac' b2 (.cells #[.int .i64 0, .int .i64 0, .int .i64 0, .int .i64 0, .int .i64 0, .slice none 0 0, .slice none 0 0, .int .i64 0, .bool false] 76 (0, 0)) :: yac' b (.cells #[.int .i64 k0, .int .i64 id, .int .i64 sess, .int .i64 rs, .int .i64 rn, .slice oa on oc, .slice sa sn sc, .int .i64 shard, .bool yes] 70 (0, 0)) :: R) rows) 16 ?_
 intro KEEPX
 replace HX := Lib.hid HX.out.drew
 refine rT [(0, false), (1, true), (2, false), (3, true), (4, false), (5, true), (6, false), (7, true), (9, false), (10, true), (11, false), (12, true), (13, false), (14, true)] 3 ?_
 apply Exists.intro; refine ⟨?_, HX.out, ?_⟩
 ·iterate 14 (refine xE ?_)
  exact rfl
 refine r1 2 8 fun K hK => ?_
 go_wp2_with fail
 refine (yul' HX.out rs rn oa on oc).mono ?_
 rintro e w ⟨rfl, hx⟩
 replace HX := Lib.hid hx
 clear hx
 go_wp2_with fail
 refine hK _ _ HX.out ?_
 clear hK
 refine rT [(15, false)] 1 ?_
 apply Exists.intro; refine ⟨?_, HX.out, ?_⟩
 ·iterate 1 (refine xE ?_)
  exact rfl
 refine rL [16] 0 ?_
 simp only [List.filterMap_cons, List.filterMap_nil, k_i, k_j, k_k]
 refine tWS ?_
 clear HX
 intro w HX
 simp only [Act.put, k_a, k_b, k_c, yci', Nat.reduceAdd] at HX ⊢
 go_wp2_with (first | refine u0 ?_ | (refine uS ?_; clear HX; intro w HX) | (refine uA ?_; clear HX; (first | (have hq := b2; clear hq; intro w b3 HX) | (have hq := b; clear hq; intro w b2 HX) | intro w b HX)))
 refine ybd' HX rfl rfl (by (repeat (first | (with_reducible exact k_s) | (with_reducible apply k_m)))) (by kernel_rfl) ?_
 exact ⟨rfl, HX.out.drop.drop⟩
end
end Go.Proofs.YtcnkifbjlihaoaaGreatDoor

namespace Go.Proofs.YtcnkifbjlihaoaaGreatDoor
open Go.RowKit Go.Av
theorem yno' {m : Int} {d : Rd} (h : (cntR m d).2.2 = false) : i64R d = cntR m d := by
 unfold i64R
 unfold cntR cntS at h ⊢
 by_cases h8 : d.1.length < 8
 ·rw [if_pos h8] at h; cases h
 ·rw [if_neg h8] at h ⊢
  rw [if_neg h8]
  split at h
  ·cases h
  ·rename_i hb
   rw [if_neg hb]
theorem yqk' {m : Int} {d : Rd} (h : (i64R d).2.2 = false) (h1 : 0 ≤ (i64R d).1) (h2 : (i64R d).1 ≤ m) : cntR m d = i64R d := by
 unfold i64R at h h1 h2 ⊢
 unfold cntR cntS
 by_cases h8 : d.1.length < 8
 ·rw [if_pos h8] at h; cases h
 ·rw [if_neg h8] at h h1 h2 ⊢
  dsimp only at h1 h2
  rw [if_neg h8, if_neg (by omega)]
theorem ywf' (m : Int) (d : Rd) : (cntR m d).2.1.length ≤ d.1.length := by
 unfold cntR cntS
 split
 ·simp
 ·split <;> simp
theorem ys7' {m M : Int} (hM : m ≤ M) {d : Rd} (h : (cntR m d).2.2 = false) : cntR M d = cntR m d := by
 unfold cntR cntS at h ⊢
 by_cases h8 : d.1.length < 8
 ·rw [if_pos h8] at h; cases h
 ·rw [if_neg h8] at h ⊢
  rw [if_neg h8]
  split at h
  ·cases h
  ·rename_i hb
   rw [if_neg hb, if_neg (by omega)]
theorem ysm' {d : Rd} (h : (yaj' 30000 d).2.2 = false) : yaj' 40000 d = yaj' 30000 d := by
 unfold yaj' at h ⊢
 split at h
 ·cases h
 ·rename_i hl
  have e := ys7' (m := 30000) (M := 40000) (by decide) (d := d) h
  rw [e]
theorem ymb' {d : Rd} (hd : d.1.length ≤ 25000) (h : (yaj' 40000 d).2.2 = false) : yaj' 30000 d = yaj' 40000 d := by
 have hb := yct' (most := 40000) (by decide) d
 have hln := ywf' 40000 d
 unfold yaj' at h ⊢
 split at h
 ·cases h
 ·rename_i hl
  have h : (cntR 40000 d).2.2 = false := h
  have e0 := yno' h
  have e : cntR 30000 d = cntR 40000 d := by
   rw [← e0]
   refine yqk' ?_ ?_ ?_ <;> rw [e0]
   ·exact h
   ·exact hb.1
   ·omega
  rw [e]
theorem ymn' {m : Int} : ∀ {n : Nat} {d : Rd}, (cntN m n d).2.2 = false → d.2 = false ∧ d.1 = (cntN m n d).1.flatMap yad' ++ (cntN m n d).2.1
 | 0, d, h => ⟨h, by simp [cntN]⟩
 | n + 1, d, h => by
  rw [cntN] at h ⊢
  dsimp only at h ⊢
  obtain ⟨h1, h2⟩ := ymn' (n := n) h
  obtain ⟨h3, h4⟩ := ycu' h1
  refine ⟨h3, ?_⟩
  rw [List.flatMap_cons, List.append_assoc, ← h2]
  exact h4
theorem ykx' : ∀ {n : Nat} {d : Rd}, (cntN 3 n d).2.2 = false → cnt5 n d = cntN 3 n d
 | 0, d, _ => rfl
 | n + 1, d, h => by
  have h0 := (ymn' h).1
  rw [cntN] at h ⊢
  dsimp only at h
  rw [cnt5, if_neg (by simp [h0]), ykx' h]
theorem yp6' : ∀ {n : Nat} {d : Rd}, (cnt5 n d).2.2 = false → cntN 3 n d = cnt5 n d
 | 0, d, _ => rfl
 | n + 1, d, h => by
  rw [cnt5] at h ⊢
  cases hd : d.2 with
  | true => rw [if_pos hd] at h; rw [hd] at h; cases h
  | false =>
   rw [if_neg (by simp [hd])] at h ⊢
   dsimp only at h
   rw [cntN, yp6' h]
theorem ym9' {d : Rd} (h : (shR d).2.2 = false) : sh5R d = shR d := ykx' h
theorem yxk' {d : Rd} (h : (sh5R d).2.2 = false) : shR d = sh5R d := yp6' h
theorem yid' {d : Rd} (h : (shR d).2.2 = false) : d.2 = false ∧ d.1 = shB (shR d).1 ++ (shR d).2.1 := by
 obtain ⟨h1, h2⟩ := ymn' (m := 3) (n := (cntR 4 d).1.toNat) (d := (cntR 4 d).2) h
 obtain ⟨h3, h4⟩ := ycu' h1
 have hb := yct' (most := 4) (by decide) d
 have hn := yg9' 3 (cntR 4 d).1.toNat (cntR 4 d).2
 refine ⟨h3, ?_⟩
 unfold shB
 have e : ((shR d).1.length : Int) = (cntR 4 d).1 := by unfold shR; rw [hn]; omega
 rw [e, List.append_assoc]
 have h2 : (cntR 4 d).2.1 = (shR d).1.flatMap yad' ++ (shR d).2.1 := h2
 rw [← h2]
 exact h4
theorem yqc' {d : Rd} (h : endR d = true) : d.2 = false ∧ d.1 = [] := by
 unfold endR at h
 rw [Bool.and_eq_true, Bool.not_eq_true'] at h
 exact ⟨h.1, List.isEmpty_iff.1 h.2⟩
theorem yp3' (d : Rd) : bitI ((cntR 1 d).1 == 1) = (cntR 1 d).1 := by
 have hb := yct' (most := 1) (by decide) d
 generalize (cntR 1 d).1 = x at hb
 rcases (by omega : x = 0 ∨ x = 1) with rfl | rfl <;> rfl
def yd6' (k id : Int) (d : Rd) : CmdS × Rd × Bool :=
 if k = 1 then (⟨k, id, 0, (ya5' (yaj' 40000 d).1).1, (ya5' (yaj' 40000 d).1).2.1, (ya5' (yaj' 40000 d).1).2.2, [], 0, false⟩, (yaj' 40000 d).2, (getR (yaj' 40000 d).1).isNone)
 else if k = 2 then (⟨k, id, (i64R d).1, (ya5' (yaj' 40000 (shR (i64R d).2).2).1).1, (ya5' (yaj' 40000 (shR (i64R d).2).2).1).2.1, (ya5' (yaj' 40000 (shR (i64R d).2).2).1).2.2, (shR (i64R d).2).1, 0, false⟩, (yaj' 40000 (shR (i64R d).2).2).2, (getR (yaj' 40000 (shR (i64R d).2).2).1).isNone)
 else if k = 3 then (⟨k, id, (i64R d).1, 0, 0, [], (shR (i64R d).2).1, 0, false⟩, (shR (i64R d).2).2, false)
 else if k = 4 then (⟨k, id, 0, 0, 0, [], [], 0, (cntR 1 d).1 == 1⟩, (cntR 1 d).2, false)
 else if k = 5 then (⟨k, id, 0, 0, 0, [], (shR d).1, 0, false⟩, (shR d).2, false)
 else if k = 6 then (⟨k, id, 0, 0, 0, [], [], (cntR 3 d).1, (cntR 1 (cntR 3 d).2).1 == 1⟩, (cntR 1 (cntR 3 d).2).2, false)
 else if k = 7 then (⟨k, id, 0, 0, 0, [], [], (cntR 3 d).1, false⟩, (cntR 3 d).2, false)
 else (⟨k, id, 0, 0, 0, [], [], 0, false⟩, d, false)
theorem yh6' (b : Bs) : rawC b = yd6' (i64R (b, false)).1 (i64R (i64R (b, false)).2).1 (i64R (i64R (b, false)).2).2 := by
 unfold rawC
 rw [show yit' b = ((i64R (b, false)).1, (i64R (i64R (b, false)).2).1, (i64R (i64R (b, false)).2).2) from rfl]
 generalize i64R (b, false) = A
 obtain ⟨k, a⟩ := A
 dsimp only
 generalize i64R a = B
 obtain ⟨id, d⟩ := B
 dsimp only
 unfold yd6'
 rfl
def ydb' (k id : Int) (d : Rd) : CmdS × Rd × Bool :=
 if k = 1 then (⟨k, id, 0, (ya5' (yaj' 30000 d).1).1, (ya5' (yaj' 30000 d).1).2.1, (ya5' (yaj' 30000 d).1).2.2, [], 0, false⟩, (yaj' 30000 d).2, (getR (yaj' 30000 d).1).isSome)
 else if k = 2 then (⟨k, id, (i64R d).1, (ya5' (yaj' 30000 (sh5R (i64R d).2).2).1).1, (ya5' (yaj' 30000 (sh5R (i64R d).2).2).1).2.1, (ya5' (yaj' 30000 (sh5R (i64R d).2).2).1).2.2, (sh5R (i64R d).2).1, 0, false⟩, (yaj' 30000 (sh5R (i64R d).2).2).2,
  (getR (yaj' 30000 (sh5R (i64R d).2).2).1).isSome && (ya5' (yaj' 30000 (sh5R (i64R d).2).2).1).1 == (i64R d).1 && (ya5' (yaj' 30000 (sh5R (i64R d).2).2).1).2.1 == id)
 else if k = 3 then (⟨k, id, (i64R d).1, 0, 0, [], (sh5R (i64R d).2).1, 0, false⟩, (sh5R (i64R d).2).2, true)
 else if k = 4 then (⟨k, id, 0, 0, 0, [], [], 0, (cntR 1 d).1 == 1⟩, (cntR 1 d).2, true)
 else if k = 5 then (⟨k, id, 0, 0, 0, [], (sh5R d).1, 0, false⟩, (sh5R d).2, true)
 else if k = 6 then (⟨k, id, 0, 0, 0, [], [], (cntR 3 d).1, (cntR 1 (cntR 3 d).2).1 == 1⟩, (cntR 1 (cntR 3 d).2).2, true)
 else if k = 7 then (⟨k, id, 0, 0, 0, [], [], (cntR 3 d).1, false⟩, (cntR 3 d).2, true)
 else if k = 8 then (⟨k, id, 0, 0, 0, [], [], 0, false⟩, d, true)
 else (⟨k, id, 0, 0, 0, [], [], 0, false⟩, d, false)
def yfa' (b : Bs) : CmdS × Rd × Bool := ydb' (cntR 8 (b, false)).1 (i64R (cntR 8 (b, false)).2).1 (i64R (cntR 8 (b, false)).2).2
def yhv' (b : Bs) : Option CmdS := if (yfa' b).2.2 = true ∧ endR (yfa' b).2.1 = true then some (yfa' b).1 else none
theorem ykg' {t : Bs} (h : (getR t).isNone = false) : putR (ya5' t).1 (ya5' t).2.1 (ya5' t).2.2 = t ∧ mayS (ya5' t).1 (ya5' t).2.1 (ya5' t).2.2 = 0 ∧ (ya5' t).1 ≤ 9223372036854775807 ∧ (ya5' t).2.1 ≤ 9223372036854775807 ∧ ∀ o ∈ (ya5' t).2.2, FitO o := by
 unfold ya5'
 cases hg : getR t with
 | none => rw [hg] at h; cases h
 | some q =>
  obtain ⟨s, n, l⟩ := q
  obtain ⟨h1, h2⟩ := yjz' hg
  exact ⟨h1.symm, h2⟩
theorem ypo' {k id : Int} {d : Rd} (h : endR (yd6' k id d).2.1 = true) : d.2 = false := by
 have h := (yqc' h).1
 unfold yd6' at h
 split at h
 ·exact (yeq' (m := 40000) (by decide) h).1
 split at h
 ·exact (ycw' (yid' (yeq' (m := 40000) (by decide) h).1).1).1
 split at h
 ·exact (ycw' (yid' h).1).1
 split at h
 ·exact (ycu' h).1
 split at h
 ·exact (yid' h).1
 split at h
 ·exact (ycu' (ycu' h).1).1
 split at h
 ·exact (ycu' h).1
 ·exact h
theorem ysk' {s t : Bs} (hs : s.length ≤ 1000000) (ht : t.length ≤ 1000000) (h : ybl' s = ybl' t) : s = t := by
 have h1 := ycz' 1000000 s [] false (by omega) (by omega)
 have h2 := ycz' 1000000 t [] false (by omega) (by omega)
 rw [h, h2] at h1
 exact (congrArg Prod.fst h1).symm
theorem yuz' {t : Bs} {s i : Int} (hs : s ≤ 9223372036854775807) (hi : i ≤ 9223372036854775807) (h1 : (getR t).isNone = false) (hp : putR s i (ya5' t).2.2 = t) : (ya5' t).1 = s ∧ (ya5' t).2.1 = i := by
 obtain ⟨r1, r2, r3, r4, r5⟩ := ykg' h1
 have hm : mayS s i (ya5' t).2.2 = 0 := by
  refine Decidable.byContradiction fun hm => ?_
  unfold putR at hp
  rw [if_pos hm] at hp
  rw [← hp, ynt'] at h1
  cases h1
 have g1 := yha' r2 r3 r4 r5
 have g2 := yha' hm hs hi r5
 rw [r1] at g1
 rw [hp, g1] at g2
 have g2 := Option.some.inj g2
 simp only [Prod.mk.injEq] at g2
 exact ⟨g2.1, g2.2.1⟩
theorem ysi' {k id : Int} {d : Rd} (hid : id ≤ 9223372036854775807) (hd : d.1.length ≤ 25000) (h1 : (yd6' k id d).2.2 = false) (h2 : endR (yd6' k id d).2.1 = true) (h3 : putC (yd6' k id d).1 = (yad' k ++ yad' id) ++ d.1) :
  (1 ≤ k ∧ k ≤ 8) ∧ ydb' k id d = ((yd6' k id d).1, (yd6' k id d).2.1, true) := by
 obtain ⟨e1, e2⟩ := yqc' h2
 by_cases g1 : k = 1
 ·subst g1
  refine ⟨by omega, ?_⟩
  unfold yd6' at *
  unfold ydb'
  rw [if_pos rfl] at *
  rw [if_pos rfl]
  dsimp only at *
  rw [ymb' hd e1]
  cases hh : getR (yaj' 40000 d).1 with
  | none => rw [hh] at h1; cases h1
  | some q => rfl
 by_cases g2 : k = 2
 ·subst g2
  refine ⟨by omega, ?_⟩
  unfold yd6' at *
  unfold ydb'
  rw [if_neg (by decide), if_pos rfl] at *
  rw [if_neg (by decide), if_pos rfl]
  dsimp only at *
  obtain ⟨a1, a2⟩ := yeq' (m := 40000) (by decide) e1
  obtain ⟨b1, b2⟩ := yid' a1
  obtain ⟨c1, c2⟩ := ycw' b1
  rw [ym9' a1]
  have hln : (shR (i64R d).2).2.1.length ≤ 25000 := by
   have q1 := congrArg List.length c2
   have q2 := congrArg List.length b2
   rw [List.length_append] at q1 q2
   omega
  rw [ymb' hln e1]
  rw [e2, List.append_nil] at a2
  have hp : putR (i64R d).1 id (ya5' (yaj' 40000 (shR (i64R d).2).2).1).2.2 = (yaj' 40000 (shR (i64R d).2).2).1 := by
   unfold putC at h3
   dsimp only at h3
   rw [if_neg (by decide), if_pos rfl] at h3
   have h4 : (yad' 2 ++ yad' id) ++ d.1 = ((yad' 2 ++ yad' id) ++ yad' (i64R d).1 ++ shB (shR (i64R d).2).1) ++ ybl' (yaj' 40000 (shR (i64R d).2).2).1 := by
    simp only [List.append_assoc]
    rw [← a2, ← b2, ← c2]
   rw [h4] at h3
   have h5 := List.append_cancel_left h3
   refine ysk' ?_ ?_ h5
   ·have := ydf' (i64R d).1 id (ya5' (yaj' 40000 (shR (i64R d).2).2).1).2.2; omega
   ·have := (ykg' h1).1
    rw [← this]
    have := ydf' (ya5' (yaj' 40000 (shR (i64R d).2).2).1).1 (ya5' (yaj' 40000 (shR (i64R d).2).2).1).2.1 (ya5' (yaj' 40000 (shR (i64R d).2).2).1).2.2
    omega
  obtain ⟨s1, s2⟩ := yuz' (yej' d).2 hid h1 hp
  rw [s1, s2]
  cases hh : getR (yaj' 40000 (shR (i64R d).2).2).1 with
  | none => rw [hh] at h1; cases h1
  | some q => simp
 by_cases g3 : k = 3
 ·subst g3
  refine ⟨by omega, ?_⟩
  unfold yd6' at *
  unfold ydb'
  rw [if_neg (by decide), if_neg (by decide), if_pos rfl] at *
  rw [if_neg (by decide), if_neg (by decide), if_pos rfl]
  dsimp only at *
  rw [ym9' e1]
 by_cases g4 : k = 4
 ·subst g4
  exact ⟨by omega, rfl⟩
 by_cases g5 : k = 5
 ·subst g5
  refine ⟨by omega, ?_⟩
  unfold yd6' at *
  unfold ydb'
  rw [if_neg (by decide), if_neg (by decide), if_neg (by decide), if_neg (by decide), if_pos rfl] at *
  rw [if_neg (by decide), if_neg (by decide), if_neg (by decide), if_neg (by decide), if_pos rfl]
  dsimp only at *
  rw [ym9' e1]
 by_cases g6 : k = 6
 ·subst g6
  exact ⟨by omega, rfl⟩
 by_cases g7 : k = 7
 ·subst g7
  exact ⟨by omega, rfl⟩
 by_cases g8 : k = 8
 ·subst g8
  exact ⟨by omega, rfl⟩
 unfold yd6' putC at h3
 rw [if_neg g1, if_neg g2, if_neg g3, if_neg g4, if_neg g5, if_neg g6, if_neg g7] at h3
 dsimp only at h3
 rw [if_neg g1, if_neg g2, if_neg g3, if_neg g4, if_neg g5, if_neg g6, if_neg g7, if_neg g8] at h3
 have := congrArg List.length h3
 rw [List.length_append, List.length_append, yaf', yaf'] at this
 simp at this
 omega
theorem yxo' {k id : Int} {d : Rd} (h1 : (ydb' k id d).2.2 = true) (h2 : endR (ydb' k id d).2.1 = true) :
  d.2 = false ∧ yd6' k id d = ((ydb' k id d).1, (ydb' k id d).2.1, false) ∧ putC (ydb' k id d).1 = (yad' k ++ yad' id) ++ d.1 := by
 obtain ⟨e1, e2⟩ := yqc' h2
 by_cases g1 : k = 1
 ·subst g1
  unfold ydb' at *
  unfold yd6' putC
  rw [if_pos rfl] at *
  rw [if_pos rfl]
  dsimp only at *
  rw [if_pos rfl, ysm' e1]
  obtain ⟨a1, a2⟩ := yeq' (m := 30000) (by decide) e1
  have hn : (getR (yaj' 30000 d).1).isNone = false := by
   cases hh : getR (yaj' 30000 d).1 with
   | none => rw [hh] at h1; cases h1
   | some q => rfl
  rw [e2, List.append_nil] at a2
  refine ⟨a1, by rw [hn], ?_⟩
  rw [(ykg' hn).1, ← a2]
 by_cases g2 : k = 2
 ·subst g2
  unfold ydb' at *
  unfold yd6' putC
  rw [if_neg (by decide), if_pos rfl] at *
  rw [if_neg (by decide), if_pos rfl]
  dsimp only at *
  rw [if_neg (by decide), if_pos rfl]
  obtain ⟨a1, a2⟩ := yeq' (m := 30000) (by decide) e1
  have a0 := yxk' a1
  rw [← a0] at a1 a2 e1 e2 h1 ⊢
  obtain ⟨b1, b2⟩ := yid' a1
  obtain ⟨c1, c2⟩ := ycw' b1
  rw [ysm' e1]
  rw [Bool.and_eq_true, Bool.and_eq_true] at h1
  obtain ⟨⟨h1, k1⟩, k2⟩ := h1
  have k1 : (ya5' (yaj' 30000 (shR (i64R d).2).2).1).1 = (i64R d).1 := by simpa using k1
  have k2 : (ya5' (yaj' 30000 (shR (i64R d).2).2).1).2.1 = id := by simpa using k2
  have hn : (getR (yaj' 30000 (shR (i64R d).2).2).1).isNone = false := by
   cases hh : getR (yaj' 30000 (shR (i64R d).2).2).1 with
   | none => rw [hh] at h1; cases h1
   | some q => rfl
  have r1 := (ykg' hn).1
  rw [k1, k2] at r1
  rw [e2, List.append_nil] at a2
  refine ⟨c1, by rw [hn], ?_⟩
  rw [r1]
  simp only [List.append_assoc]
  rw [← a2, ← b2, ← c2]
 by_cases g3 : k = 3
 ·subst g3
  unfold ydb' at *
  unfold yd6' putC
  rw [if_neg (by decide), if_neg (by decide), if_pos rfl] at *
  rw [if_neg (by decide), if_neg (by decide), if_pos rfl]
  dsimp only at *
  rw [if_neg (by decide), if_neg (by decide), if_pos rfl]
  have a0 := yxk' e1
  rw [← a0] at e1 e2 ⊢
  obtain ⟨b1, b2⟩ := yid' e1
  obtain ⟨c1, c2⟩ := ycw' b1
  rw [e2, List.append_nil] at b2
  refine ⟨c1, rfl, ?_⟩
  simp only [List.append_assoc]
  rw [← b2, ← c2]
 by_cases g4 : k = 4
 ·subst g4
  have e1 : (cntR 1 d).2.2 = false := e1
  have e2 : (cntR 1 d).2.1 = [] := e2
  obtain ⟨a1, a2⟩ := ycu' e1
  refine ⟨a1, rfl, ?_⟩
  show (yad' 4 ++ yad' id) ++ yad' (bitI ((cntR 1 d).1 == 1)) = _
  rw [yp3']
  rw [e2, List.append_nil] at a2
  rw [← a2]
 by_cases g5 : k = 5
 ·subst g5
  have e1 : (sh5R d).2.2 = false := e1
  have e2 : (sh5R d).2.1 = [] := e2
  have a0 := yxk' e1
  rw [← a0] at e1 e2
  obtain ⟨b1, b2⟩ := yid' e1
  refine ⟨b1, ?_, ?_⟩
  ·show (⟨5, id, 0, 0, 0, [], (shR d).1, 0, false⟩, (shR d).2, false) = ((⟨5, id, 0, 0, 0, [], (sh5R d).1, 0, false⟩ : CmdS), (sh5R d).2, false)
   rw [a0]
  ·show (yad' 5 ++ yad' id) ++ shB (sh5R d).1 = _
   rw [← a0]
   rw [e2, List.append_nil] at b2
   rw [← b2]
 by_cases g6 : k = 6
 ·subst g6
  have e1 : (cntR 1 (cntR 3 d).2).2.2 = false := e1
  have e2 : (cntR 1 (cntR 3 d).2).2.1 = [] := e2
  obtain ⟨a1, a2⟩ := ycu' e1
  obtain ⟨b1, b2⟩ := ycu' a1
  refine ⟨b1, rfl, ?_⟩
  show (yad' 6 ++ yad' id) ++ yad' (cntR 3 d).1 ++ yad' (bitI ((cntR 1 (cntR 3 d).2).1 == 1)) = _
  rw [yp3']
  rw [e2, List.append_nil] at a2
  rw [List.append_assoc _ (yad' (cntR 3 d).1), ← a2, ← b2]
 by_cases g7 : k = 7
 ·subst g7
  have e1 : (cntR 3 d).2.2 = false := e1
  have e2 : (cntR 3 d).2.1 = [] := e2
  obtain ⟨b1, b2⟩ := ycu' e1
  refine ⟨b1, rfl, ?_⟩
  show (yad' 7 ++ yad' id) ++ yad' (cntR 3 d).1 = _
  rw [e2, List.append_nil] at b2
  rw [← b2]
 by_cases g8 : k = 8
 ·subst g8
  have e1 : d.2 = false := e1
  have e2 : d.1 = [] := e2
  refine ⟨e1, rfl, ?_⟩
  show yad' 8 ++ yad' id = _
  rw [e2, List.append_nil]
 unfold ydb' at h1
 rw [if_neg g1, if_neg g2, if_neg g3, if_neg g4, if_neg g5, if_neg g6, if_neg g7, if_neg g8] at h1
 cases h1
theorem yjx' {b : Bs} (hb : b.length ≤ 25000) : yhv' b = getC b := by
 cases hC : getC b with
 | some c =>
  unfold getC at hC
  split at hC
  case isFalse => cases hC
  rename_i hc
  obtain ⟨h1, h2, h3⟩ := hc
  have hC := Option.some.inj hC
  rw [yh6'] at h1 h2 h3 hC
  have hun := ypo' h2
  obtain ⟨a1, a2⟩ := ycw' hun
  obtain ⟨b1, b2⟩ := ycw' a1
  have b2 : b = yad' (i64R (b, false)).1 ++ (i64R (b, false)).2.1 := b2
  have hbb : b = (yad' (i64R (b, false)).1 ++ yad' (i64R (i64R (b, false)).2).1) ++ (i64R (i64R (b, false)).2).2.1 := by
   rw [List.append_assoc, ← a2]
   exact b2
  have hln : (i64R (i64R (b, false)).2).2.1.length ≤ 25000 := by
   have := congrArg List.length hbb
   rw [List.length_append] at this
   omega
  obtain ⟨k8, ht⟩ := ysi' (yej' _).2 hln h1 h2 (h3.trans hbb)
  unfold yhv' yfa'
  rw [yqk' (m := 8) a1 (by omega) k8.2, ht, if_pos ⟨rfl, h2⟩, hC]
 | none =>
  unfold yhv'
  rw [if_neg]
  rintro ⟨h1, h2⟩
  unfold yfa' at h1 h2
  obtain ⟨a1, a2, a3⟩ := yxo' h1 h2
  obtain ⟨b1, b2⟩ := ycw' a1
  have e0 := yno' b1
  obtain ⟨c1, c2⟩ := ycu' b1
  have c2 : b = yad' (cntR 8 (b, false)).1 ++ (cntR 8 (b, false)).2.1 := c2
  have hbb : b = (yad' (cntR 8 (b, false)).1 ++ yad' (i64R (cntR 8 (b, false)).2).1) ++ (i64R (cntR 8 (b, false)).2).2.1 := by
   rw [List.append_assoc, ← b2]
   exact c2
  have : getC b = some (ydb' (cntR 8 (b, false)).1 (i64R (cntR 8 (b, false)).2).1 (i64R (cntR 8 (b, false)).2).2).1 := by
   unfold getC
   rw [yh6', e0, a2, if_pos ⟨rfl, h2, a3.trans hbb.symm⟩]
  rw [hC] at this
  cases this
theorem yxj' (l : List Int) : (shB l).length = 8 * l.length + 8 := by
 unfold shB
 rw [List.length_append, yfu', yaf']
 omega
theorem yub' {c : CmdS} (h : c.shards.length ≤ 6) : (putC c).length ≤ 25000 := by
 have h1 := yxj' c.shards
 have h2 := ydf' c.rs c.rn c.ops
 have h3 := ydf' c.sess c.id c.ops
 unfold putC ybl'
 repeat' split
 all_goals simp only [List.length_append, yaf', List.length_nil]; omega
end Go.Proofs.YtcnkifbjlihaoaaGreatDoor

namespace Go.Proofs.YtcnkifbjlihaoaaGreatDoor
open Go.RowKit Go.Av
theorem yvr' : StructN Tryz.prog 76 9 := ⟨by kernel_rfl⟩
section
variable {w0 w : World} {P P' : List PRow} {R : List Thing} {rows : List (Value × Bs)}
def ypu' (w0 : World) (o : Option CmdS) (P : List PRow) (R : List Thing) (rows : List (Value × Bs)) (e : Ending) (w' : World) : Prop :=
 ∃ vo vs P', e = .returned (.tuple #[.agg (cmdV (o.getD ydt') vo vs), .bool o.isSome]) ∧ (∀ z ∈ P, z ∈ P') ∧ (5, vo, (o.getD ydt').ops.flatMap OpS.cells) ∈ P' ∧ (1, vs, (o.getD ydt').shards.map ivn) ∈ P' ∧ Sep w0 w' (yab' w0 P' :: R) rows
def yxw' (w0 : World) (l : Bs) (b b2 b3 : Nat) (P : List PRow) (R : List Thing) (rows : List (Value × Bs)) (v6 : Value) (W : World) : Prop :=
 ∃ (c : CmdS) (d : Rd) (ok : Bool) (vo vs : Value) (P' : List PRow), v6 = .bool ok ∧ yfa' l = (c, d, ok) ∧ (∀ z ∈ P, z ∈ P') ∧ (5, vo, c.ops.flatMap OpS.cells) ∈ P' ∧ (1, vs, c.shards.map ivn) ∈ P' ∧
  Sep w0 W (ThRf b2 d P' :: yab' w0 P' :: yac' b3 (.cells (cmdV c vo vs) 76 (0, 0)) :: yac' b (.cells (cmdV ydt' (.slice none 0 0) (.slice none 0 0)) 76 (0, 0)) :: R) rows
set_option maxRecDepth 100000 in
set_option maxHeartbeats 8000000 in
theorem yhw' (h : Sep w0 w (yab' w0 P :: R) rows) (v : Value) (l : Bs) (hv : (1, v, l.map bv) ∈ P) (hl : l.length ≤ 1000000) :
  Calls Tryz.prog 40 #[v] w (ypu' w0 (yhv' l) P R rows) := by
 obtain ⟨E0, hE0⟩ := h.poolGet hv
 obtain ⟨a0, n0, c0, rfl, -⟩ := ReadRow.some hE0
 have HV := Lib.hid (show _ ∧ _ from ⟨hv, hl⟩)
 have HX := Lib.hid ((h.poolNil 5).poolNil 1)
 clear hE0
 obtain ⟨o, ho⟩ : ∃ o, yhv' l = o := ⟨_, rfl⟩
 rw [ho]
 have HO := Lib.hid ho
 clear h hv hl ho
 obtain ⟨⟨k0, d1⟩, h1⟩ : ∃ x, cntR 8 (l, false) = x := ⟨_, rfl⟩
 obtain ⟨⟨id, d2⟩, h2⟩ : ∃ x, i64R d1 = x := ⟨_, rfl⟩
 have HD := Lib.hid (show _ ∧ _ from ⟨h1, h2⟩)
 clear h1 h2
 go_enter Tryz.func40, Tryz.ntmps40
 go_wp2_with (first | refine u0 ?_ | (refine uS ?_; clear HX; intro w HX) | (refine tWA ?_; clear HX; (first | (have hq := b3; clear hq; intro w b4 HX) | (have hq := b2; clear hq; intro w b3 HX) | (have hq := b; clear hq; intro w b2 HX) | intro w b HX); simp only [Act.put, k_a, k_b, k_c]))
 have hx := (yvp' (P := (1, .slice none 0 0, []) :: (5, .slice none 0 0, []) :: P) HX.out (k_n _ (k_n _ HV.out.1))).up2.up1
 replace HX := Lib.hid hx
 clear hx
 refine (ydz' HX.out 8).mono ?_
 rw [HD.out.1]
 rintro e w ⟨rfl, hx⟩
 replace HX := Lib.hid hx
 clear hx
 go_wp2_with (first | refine u0 ?_ | (refine uS ?_; clear HX; intro w HX) | (refine tWA ?_; clear HX; (first | (have hq := b3; clear hq; intro w b4 HX) | (have hq := b2; clear hq; intro w b3 HX) | (have hq := b; clear hq; intro w b2 HX) | intro w b HX); simp only [Act.put, k_a, k_b, k_c]))
 refine (ygz' HX.out).mono ?_
 rw [HD.out.2]
 rintro e w ⟨rfl, hx⟩
 replace HX := Lib.hid hx
 clear hx
 go_upto_block 0 with (first | refine u0 ?_ | (refine uS ?_; clear HX; intro w HX) | (refine tWA ?_; clear HX; (first | (have hq := b3; clear hq; intro w b4 HX) | (have hq := b2; clear hq; intro w b3 HX) | (have hq := b; clear hq; intro w b2 HX) | intro w b HX); simp only [Act.put, k_a, k_b, k_c]))
 go_cut [6] (fun v6 W => yxw' w0 l b b2 b3 P R rows v6 W)
 case first =>
  by_cases g1 : k0 = 1
  ·subst g1
   go_wp2_with (first | refine u0 ?_ | (refine uS ?_; clear HX; intro w HX) | (refine tWA ?_; clear HX; (first | (have hq := b3; clear hq; intro w b4 HX) | (have hq := b2; clear hq; intro w b3 HX) | (have hq := b; clear hq; intro w b2 HX) | intro w b HX); simp only [Act.put, k_a, k_b, k_c]))
   obtain ⟨⟨t, d5⟩, h5⟩ : ∃ x, yaj' 30000 d2 = x := ⟨_, rfl⟩
   have htl := yez' 30000 d2 (by omega)
   rw [h5] at htl
   dsimp only at htl
   have H5 := Lib.hid (show _ ∧ _ from ⟨h5, htl⟩)
   clear h5 htl
   refine (ykh' HX.out.up1.up2.up1 30000 (by omega)).mono ?_
   rw [H5.out.1]
   rintro e w ⟨rfl, hx⟩
   replace HX := Lib.hid hx
   clear hx
   unfold sv
   have hz : (⟨t.toArray⟩ : ByteArray).size ≤ maxLen := by
    have h2 := H5.out.2
    have : (⟨t.toArray⟩ : ByteArray).size = t.length := by show t.toArray.size = _; simp
    unfold maxLen
    omega
   go_wp2_with (first | (refine yne' (Lib.hid HX.out.up1) Tryz.underlying9 Tryz.underlying71 Tryz.underlying5 rfl hz rfl ?_; clear HX; intro w b9 c9 HX; simp only [Act.put, k_a, k_b, k_c]) | refine u0 ?_ | (refine uS ?_; clear HX; intro w HX) | (refine tWA ?_; clear HX; (first | (have hq := b3; clear hq; intro w b4 HX) | (have hq := b2; clear hq; intro w b3 HX) | (have hq := b; clear hq; intro w b2 HX) | intro w b HX); simp only [Act.put, k_a, k_b, k_c]))
   refine (ynr' HX.out _ t k_s (by have := H5.out.2; omega)).mono ?_
   clear hz
   obtain ⟨o5, ho5⟩ : ∃ o, getR t = o := ⟨_, rfl⟩
   rw [ho5]
   rintro e w ⟨vo, P5, rfl, hP5, hvo, hx⟩
   obtain ⟨va, vn, vc, rfl⟩ := yal' hx hvo
   have HO5 := Lib.hid (show _ ∧ (∀ z ∈ _, z ∈ P5) ∧ _ from ⟨ho5, fun z hz => hP5 z (k_n _ hz), hvo⟩)
   have hx := ygn' hx.up1 HO5.out.2.1
   replace HX := Lib.hid hx
   clear hx
   clear ho5 hP5 hvo
   go_wp2_with (first | refine u0 ?_ | (refine uS ?_; clear HX; intro w HX) | (refine tWA ?_; clear HX; (first | (have hq := b3; clear hq; intro w b4 HX) | (have hq := b2; clear hq; intro w b3 HX) | (have hq := b; clear hq; intro w b2 HX) | intro w b HX); simp only [Act.put, k_a, k_b, k_c]))
   go_meet
   refine ⟨⟨1, id, 0, (o5.getD (0, 0, [])).1, (o5.getD (0, 0, [])).2.1, (o5.getD (0, 0, [])).2.2, [], 0, false⟩, d5, o5.isSome, .slice va vn vc, .slice none 0 0, P5, rfl, ?_, fun z hz => HO5.out.2.1 _ (k_n _ (k_n _ hz)), HO5.out.2.2, HO5.out.2.1 _ k_s, HX.out⟩
   unfold yfa'
   rw [HD.out.1]
   dsimp only
   rw [HD.out.2]
   unfold ydb'
   dsimp only
   rw [if_pos rfl, H5.out.1]
   dsimp only
   unfold ya5'
   rw [HO5.out.1]
  by_cases g2 : k0 = 2
  ·subst g2
   clear g1
   obtain ⟨⟨se, d3⟩, h3⟩ : ∃ x, i64R d2 = x := ⟨_, rfl⟩
   obtain ⟨⟨sl, d4⟩, h4⟩ : ∃ x, sh5R d3 = x := ⟨_, rfl⟩
   have H34 := Lib.hid (show _ ∧ _ from ⟨h3, h4⟩)
   clear h3 h4
   go_wp2_with (first | refine u0 ?_ | (refine uS ?_; clear HX; intro w HX) | (refine tWA ?_; clear HX; (first | (have hq := b3; clear hq; intro w b4 HX) | (have hq := b2; clear hq; intro w b3 HX) | (have hq := b; clear hq; intro w b2 HX) | intro w b HX); simp only [Act.put, k_a, k_b, k_c]))
   refine (ygz' HX.out.up1.up2.up1).mono ?_
   rw [H34.out.1]
   rintro e w ⟨rfl, hx⟩
   replace HX := Lib.hid hx
   clear hx
   go_wp2_with (first | refine u0 ?_ | (refine uS ?_; clear HX; intro w HX) | (refine tWA ?_; clear HX; (first | (have hq := b3; clear hq; intro w b4 HX) | (have hq := b2; clear hq; intro w b3 HX) | (have hq := b; clear hq; intro w b2 HX) | intro w b HX); simp only [Act.put, k_a, k_b, k_c]))
   refine (yd5' HX.out).mono ?_
   rw [H34.out.2]
   rintro e w ⟨vs, P2, rfl, hP2, hvs, hx⟩
   replace HX := Lib.hid hx
   clear hx
   obtain ⟨sa, sn, sc, rfl⟩ := yal' HX.out.up1 hvs
   have HQ := Lib.hid (show _ ∧ _ from ⟨hP2, hvs⟩)
   clear hP2 hvs
   go_wp2_with (first | refine u0 ?_ | (refine uS ?_; clear HX; intro w HX) | (refine tWA ?_; clear HX; (first | (have hq := b3; clear hq; intro w b4 HX) | (have hq := b2; clear hq; intro w b3 HX) | (have hq := b; clear hq; intro w b2 HX) | intro w b HX); simp only [Act.put, k_a, k_b, k_c]))
   obtain ⟨⟨t, d5⟩, h5⟩ : ∃ x, yaj' 30000 d4 = x := ⟨_, rfl⟩
   have htl := yez' 30000 d4 (by omega)
   rw [h5] at htl
   dsimp only at htl
   have H5 := Lib.hid (show _ ∧ _ from ⟨h5, htl⟩)
   clear h5 htl
   refine (ykh' HX.out 30000 (by omega)).mono ?_
   rw [H5.out.1]
   rintro e w ⟨rfl, hx⟩
   replace HX := Lib.hid hx
   clear hx
   unfold sv
   have hz : (⟨t.toArray⟩ : ByteArray).size ≤ maxLen := by
    have h2 := H5.out.2
    have : (⟨t.toArray⟩ : ByteArray).size = t.length := by show t.toArray.size = _; simp
    unfold maxLen
    omega
   go_wp2_with (first | (refine yne' (Lib.hid HX.out.up1) Tryz.underlying9 Tryz.underlying71 Tryz.underlying5 rfl hz rfl ?_; clear HX; intro w b9 c9 HX; simp only [Act.put, k_a, k_b, k_c]) | refine u0 ?_ | (refine uS ?_; clear HX; intro w HX) | (refine tWA ?_; clear HX; (first | (have hq := b3; clear hq; intro w b4 HX) | (have hq := b2; clear hq; intro w b3 HX) | (have hq := b; clear hq; intro w b2 HX) | intro w b HX); simp only [Act.put, k_a, k_b, k_c]))
   refine (ynr' HX.out _ t k_s (by have := H5.out.2; omega)).mono ?_
   clear hz
   obtain ⟨o5, ho5⟩ : ∃ o, getR t = o := ⟨_, rfl⟩
   rw [ho5]
   rintro e w ⟨vo, P5, rfl, hP5, hvo, hx⟩
   obtain ⟨va, vn, vc, rfl⟩ := yal' hx hvo
   have HO5 := Lib.hid (show _ ∧ (∀ z ∈ _, z ∈ P5) ∧ _ from ⟨ho5, fun z hz => hP5 z (k_n _ hz), hvo⟩)
   have hx := ygn' hx.up1 HO5.out.2.1
   replace HX := Lib.hid hx
   clear hx
   clear ho5 hP5 hvo
   have hraw : yfa' l = (⟨2, id, se, (o5.getD (0, 0, [])).1, (o5.getD (0, 0, [])).2.1, (o5.getD (0, 0, [])).2.2, sl, 0, false⟩, d5, o5.isSome && (o5.getD (0, 0, [])).1 == se && (o5.getD (0, 0, [])).2.1 == id) := by
    unfold yfa'
    rw [HD.out.1]
    dsimp only
    rw [HD.out.2]
    unfold ydb'
    dsimp only
    rw [if_neg (by decide), if_pos rfl, H34.out.1]
    dsimp only
    rw [H34.out.2]
    dsimp only
    rw [H5.out.1]
    dsimp only
    unfold ya5'
    rw [HO5.out.1]
   have HRAW := Lib.hid hraw
   clear hraw
   have HMM := Lib.hid (show (∀ z ∈ P, z ∈ P5) ∧ (1, .slice sa sn sc, sl.map ivn) ∈ P5 from ⟨fun z hz => HO5.out.2.1 _ (HQ.out.1 _ (k_n _ (k_n _ hz))), HO5.out.2.1 _ HQ.out.2⟩)
   cases o5 with
   | none =>
    dsimp only [Option.getD, Option.isSome] at HX HO5 HRAW ⊢
    go_wp2_with (first | refine u0 ?_ | (refine uS ?_; clear HX; intro w HX) | (refine tWA ?_; clear HX; (first | (have hq := b3; clear hq; intro w b4 HX) | (have hq := b2; clear hq; intro w b3 HX) | (have hq := b; clear hq; intro w b2 HX) | intro w b HX); simp only [Act.put, k_a, k_b, k_c]))
    go_meet
    exact ⟨_, d5, false, .slice va vn vc, .slice sa sn sc, P5, rfl, HRAW.out, HMM.out.1, HO5.out.2.2, HMM.out.2, HX.out⟩
   | some o5 =>
    obtain ⟨s5, n5, l5⟩ := o5
    dsimp only [Option.getD, Option.isSome] at HX HO5 HRAW ⊢
    obtain ⟨z1, q1⟩ : ∃ z, (s5 == se) = z := ⟨_, rfl⟩
    obtain ⟨z2, q2⟩ : ∃ z, (n5 == id) = z := ⟨_, rfl⟩
    rw [q1, q2] at HRAW
    cases z1 with
    | false =>
     go_wp2_with (first | refine u0 ?_ | (refine uS ?_; clear HX; intro w HX) | (refine tWA ?_; clear HX; (first | (have hq := b3; clear hq; intro w b4 HX) | (have hq := b2; clear hq; intro w b3 HX) | (have hq := b; clear hq; intro w b2 HX) | intro w b HX); simp only [Act.put, k_a, k_b, k_c]))
     go_meet
     exact ⟨_, d5, false, .slice va vn vc, .slice sa sn sc, P5, rfl, HRAW.out, HMM.out.1, HO5.out.2.2, HMM.out.2, HX.out⟩
    | true =>
     cases z2 with
     | false =>
      go_wp2_with (first | refine u0 ?_ | (refine uS ?_; clear HX; intro w HX) | (refine tWA ?_; clear HX; (first | (have hq := b3; clear hq; intro w b4 HX) | (have hq := b2; clear hq; intro w b3 HX) | (have hq := b; clear hq; intro w b2 HX) | intro w b HX); simp only [Act.put, k_a, k_b, k_c]))
      go_meet
      exact ⟨_, d5, false, .slice va vn vc, .slice sa sn sc, P5, rfl, HRAW.out, HMM.out.1, HO5.out.2.2, HMM.out.2, HX.out⟩
     | true =>
      go_wp2_with (first | refine u0 ?_ | (refine uS ?_; clear HX; intro w HX) | (refine tWA ?_; clear HX; (first | (have hq := b3; clear hq; intro w b4 HX) | (have hq := b2; clear hq; intro w b3 HX) | (have hq := b; clear hq; intro w b2 HX) | intro w b HX); simp only [Act.put, k_a, k_b, k_c]))
      go_meet
      exact ⟨_, d5, true, .slice va vn vc, .slice sa sn sc, P5, rfl, HRAW.out, HMM.out.1, HO5.out.2.2, HMM.out.2, HX.out⟩
  by_cases g3 : k0 = 3
  ·subst g3
   clear g1 g2
   obtain ⟨⟨se, d3⟩, h3⟩ : ∃ x, i64R d2 = x := ⟨_, rfl⟩
   obtain ⟨⟨sl, d4⟩, h4⟩ : ∃ x, sh5R d3 = x := ⟨_, rfl⟩
   have H34 := Lib.hid (show _ ∧ _ from ⟨h3, h4⟩)
   clear h3 h4
   go_wp2_with (first | refine u0 ?_ | (refine uS ?_; clear HX; intro w HX) | (refine tWA ?_; clear HX; (first | (have hq := b3; clear hq; intro w b4 HX) | (have hq := b2; clear hq; intro w b3 HX) | (have hq := b; clear hq; intro w b2 HX) | intro w b HX); simp only [Act.put, k_a, k_b, k_c]))
   refine (ygz' HX.out.up1.up2.up1).mono ?_
   rw [H34.out.1]
   rintro e w ⟨rfl, hx⟩
   replace HX := Lib.hid hx
   clear hx
   go_wp2_with (first | refine u0 ?_ | (refine uS ?_; clear HX; intro w HX) | (refine tWA ?_; clear HX; (first | (have hq := b3; clear hq; intro w b4 HX) | (have hq := b2; clear hq; intro w b3 HX) | (have hq := b; clear hq; intro w b2 HX) | intro w b HX); simp only [Act.put, k_a, k_b, k_c]))
   refine (yd5' HX.out).mono ?_
   rw [H34.out.2]
   rintro e w ⟨vs, P2, rfl, hP2, hvs, hx⟩
   replace HX := Lib.hid hx
   clear hx
   obtain ⟨sa, sn, sc, rfl⟩ := yal' HX.out.up1 hvs
   have HQ := Lib.hid (show _ ∧ _ from ⟨hP2, hvs⟩)
   clear hP2 hvs
   go_wp2_with (first | refine u0 ?_ | (refine uS ?_; clear HX; intro w HX) | (refine tWA ?_; clear HX; (first | (have hq := b3; clear hq; intro w b4 HX) | (have hq := b2; clear hq; intro w b3 HX) | (have hq := b; clear hq; intro w b2 HX) | intro w b HX); simp only [Act.put, k_a, k_b, k_c]))
   go_meet
   refine ⟨⟨3, id, se, 0, 0, [], sl, 0, false⟩, d4, true, .slice none 0 0, .slice sa sn sc, _, rfl, ?_, fun z hz => HQ.out.1 _ (k_n _ (k_n _ hz)), HQ.out.1 _ (k_n _ k_s), HQ.out.2, HX.out⟩
   unfold yfa'
   rw [HD.out.1]
   dsimp only
   rw [HD.out.2]
   unfold ydb'
   dsimp only
   rw [if_neg (by decide), if_neg (by decide), if_pos rfl, H34.out.1]
   dsimp only
   rw [H34.out.2]
  by_cases g4 : k0 = 4
  ·subst g4
   clear g1 g2 g3
   go_wp2_with (first | refine u0 ?_ | (refine uS ?_; clear HX; intro w HX) | (refine tWA ?_; clear HX; (first | (have hq := b3; clear hq; intro w b4 HX) | (have hq := b2; clear hq; intro w b3 HX) | (have hq := b; clear hq; intro w b2 HX) | intro w b HX); simp only [Act.put, k_a, k_b, k_c]))
   refine (ydz' HX.out.up1.up2.up1 1).mono ?_
   rintro e w ⟨rfl, hx⟩
   replace HX := Lib.hid hx
   clear hx
   go_wp2_with (first | refine u0 ?_ | (refine uS ?_; clear HX; intro w HX) | (refine tWA ?_; clear HX; (first | (have hq := b3; clear hq; intro w b4 HX) | (have hq := b2; clear hq; intro w b3 HX) | (have hq := b; clear hq; intro w b2 HX) | intro w b HX); simp only [Act.put, k_a, k_b, k_c]))
   go_meet
   refine ⟨⟨4, id, 0, 0, 0, [], [], 0, (cntR 1 d2).1 == 1⟩, _, true, .slice none 0 0, .slice none 0 0, _, rfl, ?_, fun z hz => k_n _ (k_n _ hz), k_n _ k_s, k_s, HX.out⟩
   unfold yfa'
   rw [HD.out.1]
   dsimp only
   rw [HD.out.2]
   unfold ydb'
   dsimp only
   rw [if_neg (by decide), if_neg (by decide), if_neg (by decide), if_pos rfl]
  by_cases g5 : k0 = 5
  ·subst g5
   clear g1 g2 g3 g4
   obtain ⟨⟨sl, d4⟩, h4⟩ : ∃ x, sh5R d2 = x := ⟨_, rfl⟩
   have H34 := Lib.hid h4
   clear h4
   go_wp2_with (first | refine u0 ?_ | (refine uS ?_; clear HX; intro w HX) | (refine tWA ?_; clear HX; (first | (have hq := b3; clear hq; intro w b4 HX) | (have hq := b2; clear hq; intro w b3 HX) | (have hq := b; clear hq; intro w b2 HX) | intro w b HX); simp only [Act.put, k_a, k_b, k_c]))
   refine (yd5' HX.out.up1.up2.up1).mono ?_
   rw [H34.out]
   rintro e w ⟨vs, P2, rfl, hP2, hvs, hx⟩
   replace HX := Lib.hid hx
   clear hx
   obtain ⟨sa, sn, sc, rfl⟩ := yal' HX.out.up1 hvs
   have HQ := Lib.hid (show _ ∧ _ from ⟨hP2, hvs⟩)
   clear hP2 hvs
   go_wp2_with (first | refine u0 ?_ | (refine uS ?_; clear HX; intro w HX) | (refine tWA ?_; clear HX; (first | (have hq := b3; clear hq; intro w b4 HX) | (have hq := b2; clear hq; intro w b3 HX) | (have hq := b; clear hq; intro w b2 HX) | intro w b HX); simp only [Act.put, k_a, k_b, k_c]))
   go_meet
   refine ⟨⟨5, id, 0, 0, 0, [], sl, 0, false⟩, d4, true, .slice none 0 0, .slice sa sn sc, _, rfl, ?_, fun z hz => HQ.out.1 _ (k_n _ (k_n _ hz)), HQ.out.1 _ (k_n _ k_s), HQ.out.2, HX.out⟩
   unfold yfa'
   rw [HD.out.1]
   dsimp only
   rw [HD.out.2]
   unfold ydb'
   dsimp only
   rw [if_neg (by decide), if_neg (by decide), if_neg (by decide), if_neg (by decide), if_pos rfl, H34.out]
  by_cases g6 : k0 = 6
  ·subst g6
   clear g1 g2 g3 g4 g5
   go_wp2_with (first | refine u0 ?_ | (refine uS ?_; clear HX; intro w HX) | (refine tWA ?_; clear HX; (first | (have hq := b3; clear hq; intro w b4 HX) | (have hq := b2; clear hq; intro w b3 HX) | (have hq := b; clear hq; intro w b2 HX) | intro w b HX); simp only [Act.put, k_a, k_b, k_c]))
   refine (ydz' HX.out.up1.up2.up1 3).mono ?_
   rintro e w ⟨rfl, hx⟩
   replace HX := Lib.hid hx
   clear hx
   go_wp2_with (first | refine u0 ?_ | (refine uS ?_; clear HX; intro w HX) | (refine tWA ?_; clear HX; (first | (have hq := b3; clear hq; intro w b4 HX) | (have hq := b2; clear hq; intro w b3 HX) | (have hq := b; clear hq; intro w b2 HX) | intro w b HX); simp only [Act.put, k_a, k_b, k_c]))
   refine (ydz' HX.out 1).mono ?_
   rintro e w ⟨rfl, hx⟩
   replace HX := Lib.hid hx
   clear hx
   go_wp2_with (first | refine u0 ?_ | (refine uS ?_; clear HX; intro w HX) | (refine tWA ?_; clear HX; (first | (have hq := b3; clear hq; intro w b4 HX) | (have hq := b2; clear hq; intro w b3 HX) | (have hq := b; clear hq; intro w b2 HX) | intro w b HX); simp only [Act.put, k_a, k_b, k_c]))
   go_meet
   refine ⟨⟨6, id, 0, 0, 0, [], [], (cntR 3 d2).1, (cntR 1 (cntR 3 d2).2).1 == 1⟩, _, true, .slice none 0 0, .slice none 0 0, _, rfl, ?_, fun z hz => k_n _ (k_n _ hz), k_n _ k_s, k_s, HX.out⟩
   unfold yfa'
   rw [HD.out.1]
   dsimp only
   rw [HD.out.2]
   unfold ydb'
   dsimp only
   rw [if_neg (by decide), if_neg (by decide), if_neg (by decide), if_neg (by decide), if_neg (by decide), if_pos rfl]
  by_cases g7 : k0 = 7
  ·subst g7
   clear g1 g2 g3 g4 g5 g6
   go_wp2_with (first | refine u0 ?_ | (refine uS ?_; clear HX; intro w HX) | (refine tWA ?_; clear HX; (first | (have hq := b3; clear hq; intro w b4 HX) | (have hq := b2; clear hq; intro w b3 HX) | (have hq := b; clear hq; intro w b2 HX) | intro w b HX); simp only [Act.put, k_a, k_b, k_c]))
   refine (ydz' HX.out.up1.up2.up1 3).mono ?_
   rintro e w ⟨rfl, hx⟩
   replace HX := Lib.hid hx
   clear hx
   go_wp2_with (first | refine u0 ?_ | (refine uS ?_; clear HX; intro w HX) | (refine tWA ?_; clear HX; (first | (have hq := b3; clear hq; intro w b4 HX) | (have hq := b2; clear hq; intro w b3 HX) | (have hq := b; clear hq; intro w b2 HX) | intro w b HX); simp only [Act.put, k_a, k_b, k_c]))
   go_meet
   refine ⟨⟨7, id, 0, 0, 0, [], [], (cntR 3 d2).1, false⟩, _, true, .slice none 0 0, .slice none 0 0, _, rfl, ?_, fun z hz => k_n _ (k_n _ hz), k_n _ k_s, k_s, HX.out⟩
   unfold yfa'
   rw [HD.out.1]
   dsimp only
   rw [HD.out.2]
   unfold ydb'
   dsimp only
   rw [if_neg (by decide), if_neg (by decide), if_neg (by decide), if_neg (by decide), if_neg (by decide), if_neg (by decide), if_pos rfl]
  by_cases g8 : k0 = 8
  ·subst g8
   clear g1 g2 g3 g4 g5 g6 g7
   go_wp2_with (first | refine u0 ?_ | (refine uS ?_; clear HX; intro w HX) | (refine tWA ?_; clear HX; (first | (have hq := b3; clear hq; intro w b4 HX) | (have hq := b2; clear hq; intro w b3 HX) | (have hq := b; clear hq; intro w b2 HX) | intro w b HX); simp only [Act.put, k_a, k_b, k_c]))
   go_meet
   refine ⟨⟨8, id, 0, 0, 0, [], [], 0, false⟩, _, true, .slice none 0 0, .slice none 0 0, _, rfl, ?_, fun z hz => k_n _ (k_n _ hz), k_n _ k_s, k_s, HX.out.up1.up2.up1⟩
   unfold yfa'
   rw [HD.out.1]
   dsimp only
   rw [HD.out.2]
   unfold ydb'
   dsimp only
   rw [if_neg (by decide), if_neg (by decide), if_neg (by decide), if_neg (by decide), if_neg (by decide), if_neg (by decide), if_neg (by decide), if_pos rfl]
  have f1 : (k0 == 1) = false := by rw [beq_eq_false_iff_ne]; exact g1
  have f2 : (k0 == 2) = false := by rw [beq_eq_false_iff_ne]; exact g2
  have f3 : (k0 == 3) = false := by rw [beq_eq_false_iff_ne]; exact g3
  have f4 : (k0 == 4) = false := by rw [beq_eq_false_iff_ne]; exact g4
  have f5 : (k0 == 5) = false := by rw [beq_eq_false_iff_ne]; exact g5
  have f6 : (k0 == 6) = false := by rw [beq_eq_false_iff_ne]; exact g6
  have f7 : (k0 == 7) = false := by rw [beq_eq_false_iff_ne]; exact g7
  have f8 : (k0 == 8) = false := by rw [beq_eq_false_iff_ne]; exact g8
  have HG := Lib.hid (show _ ∧ _ ∧ _ ∧ _ ∧ _ ∧ _ ∧ _ ∧ _ from ⟨g1, g2, g3, g4, g5, g6, g7, g8⟩)
  clear g1 g2 g3 g4 g5 g6 g7 g8
  go_wp2_with (first | refine u0 ?_ | (refine uS ?_; clear HX; intro w HX) | (refine tWA ?_; clear HX; (first | (have hq := b3; clear hq; intro w b4 HX) | (have hq := b2; clear hq; intro w b3 HX) | (have hq := b; clear hq; intro w b2 HX) | intro w b HX); simp only [Act.put, k_a, k_b, k_c]))
  go_meet
  refine ⟨⟨k0, id, 0, 0, 0, [], [], 0, false⟩, _, false, .slice none 0 0, .slice none 0 0, _, rfl, ?_, fun z hz => k_n _ (k_n _ hz), k_n _ k_s, k_s, HX.out.up1.up2.up1⟩
  unfold yfa'
  rw [HD.out.1]
  dsimp only
  rw [HD.out.2]
  unfold ydb'
  dsimp only
  obtain ⟨g1, g2, g3, g4, g5, g6, g7, g8⟩ := HG.out
  rw [if_neg g1, if_neg g2, if_neg g3, if_neg g4, if_neg g5, if_neg g6, if_neg g7, if_neg g8]
 case rest =>
  obtain ⟨⟨k, i2, se, rs, rn, ops, shs, sd, ys⟩, d, ok, vo, vs, P', rfl, hr, hPP, hvo, hvs, hS⟩ := hcut
  obtain ⟨va, vn, vc, rfl⟩ := yal' hS.up1 hvo
  obtain ⟨sa, sn, sc, rfl⟩ := yal' hS.up1 hvs
  have HR := Lib.hid hr
  have HPP := Lib.hid (show _ ∧ _ ∧ _ from ⟨hPP, hvo, hvs⟩)
  clear HX hr hPP hvo hvs
  rename World => w
  have HX := Lib.hid hS
  clear hS
  unfold cmdV ydt' at HX
  dsimp only at HX HPP
  cases ok with
  | false =>
   obtain rfl : o = none := by
    rw [← HO.out]
    unfold yhv'
    rw [HR.out, if_neg]
    rintro ⟨h1, h2⟩
    cases h1
   go_wp2_with (first | refine u0 ?_ | (refine uS ?_; clear HX; intro w HX) | (refine tWA ?_; clear HX; (first | (have hq := b3; clear hq; intro w b4 HX) | (have hq := b2; clear hq; intro w b3 HX) | (have hq := b; clear hq; intro w b2 HX) | intro w b HX); simp only [Act.put, k_a, k_b, k_c]))
   refine ybp' HX rfl rfl (by (repeat (first | (with_reducible exact k_s) | (with_reducible apply k_m)))) (by kernel_rfl) ?_
   exact ⟨.slice none 0 0, .slice none 0 0, _, rfl, fun z hz => k_n _ (k_n _ (HPP.out.1 z hz)), k_n _ k_s, k_s, ((HX.out.drop.cut1.cut1).poolNil 5).poolNil 1⟩
  | true =>
   go_wp2_with (first | refine u0 ?_ | (refine uS ?_; clear HX; intro w HX) | (refine tWA ?_; clear HX; (first | (have hq := b3; clear hq; intro w b4 HX) | (have hq := b2; clear hq; intro w b3 HX) | (have hq := b; clear hq; intro w b2 HX) | intro w b HX); simp only [Act.put, k_a, k_b, k_c]))
   refine (yrt' HX.out).mono ?_
   obtain ⟨ze, hze⟩ : ∃ z, endR d = z := ⟨_, rfl⟩
   have hze2 : (!d.2 && d.1.isEmpty) = ze := hze
   rw [hze2]
   rintro e w ⟨rfl, hx⟩
   clear hze2
   replace HX := Lib.hid hx
   clear hx
   have HZ := Lib.hid hze
   clear hze
   cases ze with
   | false =>
    obtain rfl : o = none := by
     rw [← HO.out]
     unfold yhv'
     rw [HR.out, if_neg]
     rintro ⟨h1, h2⟩
     (rw [HZ.out] at h2; cases h2)
    go_wp2_with (first | refine u0 ?_ | (refine uS ?_; clear HX; intro w HX) | (refine tWA ?_; clear HX; (first | (have hq := b3; clear hq; intro w b4 HX) | (have hq := b2; clear hq; intro w b3 HX) | (have hq := b; clear hq; intro w b2 HX) | intro w b HX); simp only [Act.put, k_a, k_b, k_c]))
    refine ybp' HX rfl rfl (by (repeat (first | (with_reducible exact k_s) | (with_reducible apply k_m)))) (by kernel_rfl) ?_
    exact ⟨.slice none 0 0, .slice none 0 0, _, rfl, fun z hz => k_n _ (k_n _ (HPP.out.1 z hz)), k_n _ k_s, k_s, ((HX.out.drop.cut1.cut1).poolNil 5).poolNil 1⟩
   | true =>
    obtain rfl : o = some ⟨k, i2, se, rs, rn, ops, shs, sd, ys⟩ := by
     rw [← HO.out]
     unfold yhv'
     rw [HR.out, if_pos ⟨rfl, HZ.out⟩]
    go_wp2_with (first | ((with_reducible apply ykl' HX); (· rfl); (· rfl); (· exact yvr'); (· (repeat (first | (with_reducible exact k_s) | (with_reducible apply k_m)))); (· rfl); simp only [Act.put, k_a, k_b, k_c, k_d, k_e, k_f, k_g, k_h]) | refine u0 ?_ | (refine uS ?_; clear HX; intro w HX) | (refine tWA ?_; clear HX; (first | (have hq := b3; clear hq; intro w b4 HX) | (have hq := b2; clear hq; intro w b3 HX) | (have hq := b; clear hq; intro w b2 HX) | intro w b HX); simp only [Act.put, k_a, k_b, k_c]))
    refine ybp' HX rfl rfl (by (repeat (first | (with_reducible exact k_s) | (with_reducible apply k_m)))) (by kernel_rfl) ?_
    exact ⟨.slice va vn vc, .slice sa sn sc, _, rfl, HPP.out.1, HPP.out.2.1, HPP.out.2.2, HX.out.drop.cut1.cut1⟩
end
end Go.Proofs.YtcnkifbjlihaoaaGreatDoor

namespace Go.Proofs.YtcnkifbjlihaoaaGreatDoor
open Go.RowKit Go.Av
section
variable {w0 w : World} {P P' : List PRow} {R : List Thing} {rows : List (Value × Bs)}
set_option maxRecDepth 100000 in
set_option maxHeartbeats 4000000 in
theorem yrx' (h : Sep w0 w (yab' w0 P :: R) rows) (s m : Int) (ops : List OpS) (va vb : Value) (ha : (5, va, ops.flatMap OpS.cells) ∈ P) (hb : (5, vb, ops.flatMap OpS.cells) ∈ P) (hn : ops.length ≤ 100000) :
  Calls Tryz.prog 127 #[.agg #[.int .i64 s, .int .i64 m, va], .agg #[.int .i64 s, .int .i64 m, vb]] w fun e w' => e = .returned (.bool true) ∧ Sep w0 w' (yab' w0 P :: R) rows := by
 obtain ⟨E, hE⟩ := h.poolGet ha
 obtain ⟨a1, n1, c1, rfl, hl1, -, -, he1⟩ := ReadRow.some hE
 obtain ⟨E2, hE2⟩ := h.poolGet hb
 obtain ⟨a2, n2, c2, rfl, hl2, -, -, he2⟩ := ReadRow.some hE2
 rw [yar' yai'] at hl1 hl2
 obtain rfl : ops.length = n1 := by omega
 obtain rfl : ops.length = n2 := by omega
 have HA := Lib.hid ha
 have HB := Lib.hid hb
 have HE1 := Lib.hid he1
 have HE2 := Lib.hid he2
 have HX := Lib.hid h
 have q5 : (((ops.length : Nat) : Int) != ((ops.length : Nat) : Int)) = false := by simp
 have q6 : (s == s) = true := by simp
 have q7 : (m == m) = true := by simp
 clear h ha hb hE hE2 he1 he2 hl1 hl2
 go_enter Tryz.func127, Tryz.ntmps127
 go_wp2_with (first | refine u0 ?_ | (refine uS ?_; clear HX; intro w HX) | (refine uA ?_; clear HX; (first | (have hq := b2; clear hq; intro w b3 HX) | (have hq := b; clear hq; intro w b2 HX) | intro w b HX)))
 have HST := Lib.hid (show Sep w0 w (yac' b2 (.cells #[.int .i64 s, .int .i64 m, .slice a2 ops.length c2] 44 (0, 0)) :: yac' b (.cells #[.int .i64 s, .int .i64 m, .slice a1 ops.length c1] 44 (0, 0)) :: yab' w0 P :: R) rows from HX.out)
 clear HX
 go_loopg [5] ops.length (fun k v wr => ∃ i : Nat, i + k = ops.length ∧ v = .int .i64 (i : Int) ∧ Sep w0 wr (yac' b2 (.cells #[.int .i64 s, .int .i64 m, .slice a2 ops.length c2] 44 (0, 0)) :: yac' b (.cells #[.int .i64 s, .int .i64 m, .slice a1 ops.length c1] 44 (0, 0)) :: yab' w0 P :: R) rows)
 case atStart => exact ⟨0, by simp, rfl, HST.out⟩
 case round =>
  rename World => w
  obtain ⟨i, hik, rfl, hS⟩ := hrel
  clear HST
  have HX := Lib.hid hS
  clear hS
  by_cases hlt : i < ops.length
  case neg =>
   obtain rfl : i = ops.length := by omega
   clear hlt hik
   go_wp2_with (first | refine u0 ?_ | (refine uS ?_; clear HX; intro w HX) | (refine uA ?_; clear HX; (first | (have hq := b2; clear hq; intro w b3 HX) | (have hq := b; clear hq; intro w b2 HX) | intro w b HX)))
   go_ret
   exact ⟨rfl, HX.out.drop.drop⟩
  case pos =>
   obtain ⟨g1, o1, rfl⟩ := HE1.out (by intro e; have := congrArg List.length e; rw [yar' yai'] at this; simp at this; omega)
   obtain ⟨g2, o2, rfl⟩ := HE2.out (by intro e; have := congrArg List.length e; rw [yar' yai'] at this; simp at this; omega)
   have q0 : decide (i < ops.length) = true := decide_eq_true hlt
   have q9 : (i < ops.length) = True := eq_true hlt
   obtain ⟨o, ho⟩ : ∃ o, ops[i] = o := ⟨_, rfl⟩
   obtain ⟨k1, p1, d1, v1, f1⟩ := o
   go_wp2_with (first | refine u0 ?_ | (refine uS ?_; clear HX; intro w HX) | (refine uA ?_; clear HX; (first | (have hq := b2; clear hq; intro w b3 HX) | (have hq := b; clear hq; intro w b2 HX) | intro w b HX)))
   refine yan' (fun W => W = w.drew) 11 (by kernel_rfl) ?_
   replace HX := Lib.hid HX.out.drew
   generalize w.drew = w at HX ⊢
   obtain ⟨E, hE⟩ := HX.out.up2.poolGet HA.out
   have hl := yc2' (P := Tryz.prog) (f := OpS.cells) (i := i) hE yai' sn_op hlt
   obtain ⟨E2, hE2⟩ := HX.out.up2.poolGet HB.out
   have hl2 := yc2' (P := Tryz.prog) (f := OpS.cells) (i := i) hE2 yai' sn_op hlt
   rw [ho] at hl hl2
   simp only [OpS.cells] at hl hl2
   clear hE hE2 ho
   refine rT [(0, false), (1, true), (2, false), (3, false), (4, true), (5, false), (6, true), (7, false), (8, false), (9, true), (10, false)] 0 ?_
   apply Exists.intro; refine ⟨?_, rfl, ?_⟩
   ·iterate 11 (refine xD ?_)
    exact rfl
   refine yah' (by kernel_rfl) ?_ _
   clear hl hl2
   go_wp2_with (first | refine u0 ?_ | (refine uS ?_; clear HX; intro w HX) | (refine uA ?_; clear HX; (first | (have hq := b2; clear hq; intro w b3 HX) | (have hq := b; clear hq; intro w b2 HX) | intro w b HX)))
   go_roundg (ops.length - (i + 1))
   case rel => exact ⟨i + 1, by omega, by go_num, HX.out⟩
   case measure => omega
set_option maxRecDepth 100000 in
set_option maxHeartbeats 4000000 in
theorem ye7' (h : Sep w0 w (yab' w0 P :: R) rows) (c : CmdS) (va vb vs vt : Value) (ha : (5, va, c.ops.flatMap OpS.cells) ∈ P) (hb : (5, vb, c.ops.flatMap OpS.cells) ∈ P) (hs : (1, vs, c.shards.map ivn) ∈ P) (ht : (1, vt, c.shards.map ivn) ∈ P) (hn : c.ops.length ≤ 100000) (hm : c.shards.length ≤ 100000) :
  Calls Tryz.prog 44 #[.agg (cmdV c va vs), .agg (cmdV c vb vt)] w fun e w' => e = .returned (.bool true) ∧ Sep w0 w' (yab' w0 P :: R) rows := by
 obtain ⟨E3, hE3⟩ := h.poolGet ha
 obtain ⟨a3, n3, c3, rfl, -⟩ := _root_.id hE3
 obtain ⟨E4, hE4⟩ := h.poolGet hb
 obtain ⟨a4, n4, c4, rfl, -⟩ := _root_.id hE4
 obtain ⟨E, hE⟩ := h.poolGet hs
 obtain ⟨a1, n1, c1, rfl, hl1, -, -, he1⟩ := ReadRow.some hE
 obtain ⟨E2, hE2⟩ := h.poolGet ht
 obtain ⟨a2, n2, c2, rfl, hl2, -, -, he2⟩ := ReadRow.some hE2
 rw [List.length_map, Nat.mul_one] at hl1 hl2
 subst hl1
 subst hl2
 have HA := Lib.hid (show _ ∧ _ ∧ _ from ⟨ha, hb, hn⟩)
 have HB := Lib.hid (show _ ∧ _ ∧ _ from ⟨hs, ht, hm⟩)
 have HE1 := Lib.hid he1
 have HE2 := Lib.hid he2
 have HX := Lib.hid h
 clear h ha hb hs ht hn hm hE hE2 hE3 hE4 he1 he2
 obtain ⟨k0, id, s, rs, rn, ops, shards, shard, yes⟩ := c
 unfold cmdV
 dsimp only at HA HB HE1 HE2 HX ⊢
 have q1 : (k0 == k0) = true := by simp
 have q2 : (id == id) = true := by simp
 have q3 : (s == s) = true := by simp
 have q4 : (shard == shard) = true := by simp
 have q5 : (((shards.length : Nat) : Int) != ((shards.length : Nat) : Int)) = false := by simp
 have q6 : (yes == yes) = true := by simp
 go_enter Tryz.func44, Tryz.ntmps44
 go_wp2_with (first | refine u0 ?_ | (refine uS ?_; clear HX; intro w HX) | (refine uA ?_; clear HX; (first | (have hq := b2; clear hq; intro w b3 HX) | (have hq := b; clear hq; intro w b2 HX) | intro w b HX)))
 refine (yrx' HX.out.up2 rs rn ops _ _ HA.out.1 HA.out.2.1 HA.out.2.2).mono ?_
 rintro e w ⟨rfl, hx⟩
 have hx := hx.up1.up2
 replace HX := Lib.hid hx
 clear hx
 go_wp2_with (first | refine u0 ?_ | (refine uS ?_; clear HX; intro w HX) | (refine uA ?_; clear HX; (first | (have hq := b2; clear hq; intro w b3 HX) | (have hq := b; clear hq; intro w b2 HX) | intro w b HX)))
 have HST := Lib.hid (show Sep w0 w (yac' b2 (.cells #[.int .i64 k0, .int .i64 id, .int .i64 s, .int .i64 rs, .int .i64 rn, .slice a4 n4 c4, .slice a2 shards.length c2, .int .i64 shard, .bool yes] 76 (0, 0)) :: yac' b (.cells #[.int .i64 k0, .int .i64 id, .int .i64 s, .int .i64 rs, .int .i64 rn, .slice a3 n3 c3, .slice a1 shards.length c1, .int .i64 shard, .bool yes] 76 (0, 0)) :: yab' w0 P :: R) rows from HX.out.up1)
 clear HX
 go_loopg [5] shards.length (fun k v wr => ∃ i : Nat, i + k = shards.length ∧ v = .int .i64 (i : Int) ∧ Sep w0 wr (yac' b2 (.cells #[.int .i64 k0, .int .i64 id, .int .i64 s, .int .i64 rs, .int .i64 rn, .slice a4 n4 c4, .slice a2 shards.length c2, .int .i64 shard, .bool yes] 76 (0, 0)) :: yac' b (.cells #[.int .i64 k0, .int .i64 id, .int .i64 s, .int .i64 rs, .int .i64 rn, .slice a3 n3 c3, .slice a1 shards.length c1, .int .i64 shard, .bool yes] 76 (0, 0)) :: yab' w0 P :: R) rows)
 case atStart => exact ⟨0, by simp, rfl, HST.out⟩
 case round =>
  rename World => w
  obtain ⟨i, hik, rfl, hS⟩ := hrel
  clear HST
  have HX := Lib.hid hS
  clear hS
  by_cases hlt : i < shards.length
  case neg =>
   obtain rfl : i = shards.length := by omega
   clear hlt hik
   go_wp2_with (first | refine u0 ?_ | (refine uS ?_; clear HX; intro w HX) | (refine uA ?_; clear HX; (first | (have hq := b2; clear hq; intro w b3 HX) | (have hq := b; clear hq; intro w b2 HX) | intro w b HX)))
   go_ret
   exact ⟨rfl, HX.out.drop.drop⟩
  case pos =>
   obtain ⟨g1, o1, rfl⟩ := HE1.out (by intro e; have := congrArg List.length e; simp at this; rw [this] at hlt; simp at hlt)
   obtain ⟨g2, o2, rfl⟩ := HE2.out (by intro e; have := congrArg List.length e; simp at this; rw [this] at hlt; simp at hlt)
   have q0 : decide (i < shards.length) = true := decide_eq_true hlt
   have q9 : (i < shards.length) = True := eq_true hlt
   have q10 : i < 100000 := by have := HB.out.2.2; omega
   obtain ⟨o, ho⟩ : ∃ o, shards[i] = o := ⟨_, rfl⟩
   have q8 : (o == o) = true := by simp
   have q7 : (o != o) = false := by simp
   go_wp2_with (first | refine u0 ?_ | (refine uS ?_; clear HX; intro w HX) | (refine uA ?_; clear HX; (first | (have hq := b2; clear hq; intro w b3 HX) | (have hq := b; clear hq; intro w b2 HX) | intro w b HX)))
   refine yan' (fun W => W = w.drew) 11 (by kernel_rfl) ?_
   replace HX := Lib.hid HX.out.drew
   generalize w.drew = w at HX ⊢
   obtain ⟨E, hE⟩ := HX.out.up2.poolGet HB.out.1
   have hl := yee' (P := Tryz.prog) (ty := 3) (i := i) (v := .int .i64 shards[i]) hE (by kernel_rfl) (by rw [List.getElem?_map, List.getElem?_eq_getElem hlt]; rfl)
   obtain ⟨E2, hE2⟩ := HX.out.up2.poolGet HB.out.2.1
   have hl2 := yee' (P := Tryz.prog) (ty := 3) (i := i) (v := .int .i64 shards[i]) hE2 (by kernel_rfl) (by rw [List.getElem?_map, List.getElem?_eq_getElem hlt]; rfl)
   rw [ho] at hl hl2
   clear hE hE2 ho
   refine rT [(0, false), (1, true), (2, false), (3, false), (4, true), (5, false), (6, true), (7, false), (8, false), (9, true), (10, false)] 0 ?_
   apply Exists.intro; refine ⟨?_, rfl, ?_⟩
   ·iterate 11 (refine xD ?_)
    exact rfl
   refine yah' (by kernel_rfl) ?_ _
   clear hl hl2
   go_wp2_with (first | refine u0 ?_ | (refine uS ?_; clear HX; intro w HX) | (refine uA ?_; clear HX; (first | (have hq := b2; clear hq; intro w b3 HX) | (have hq := b; clear hq; intro w b2 HX) | intro w b HX)))
   go_roundg (shards.length - (i + 1))
   case rel => exact ⟨i + 1, by omega, by go_num, HX.out⟩
   case measure => omega
end
end Go.Proofs.YtcnkifbjlihaoaaGreatDoor

namespace Go.Av
section
variable {P : Program} {ops : Array Oper} {Q : Exit → Act → World → Prop} {md : Region.Mode} {S S' : World → Prop}
theorem ydr' {N : Nat} (hS : ∀ W, S' W → S W) (hN : ops.size ≤ N) : ∀ {fuel : Nat} {listed : Array Bool} {a : Act} {w : World}, S' w → ybh' P md ops Q S' N fuel listed a w → ybh' P md ops Q S N fuel listed a w
 | 0, _, _, _, _, h => h
 | fuel + 1, _, _, _, hw, h => ⟨h.1, fun i hi => wpOp_mono (fun a' w' h' => by
   obtain ⟨-, oj, hoj, -⟩ := mem_ready.1 hi
   have hlt : i < N := Nat.lt_of_lt_of_le (Array.getElem?_eq_some_iff.1 hoj).1 hN
   have h1 := h'.1 hlt hw
   exact ⟨fun _ _ => hS _ h1, ydr' hS hN h1 h'.2⟩) (h.2 i hi)⟩
end
end Go.Av

namespace Go.Proofs.YtcnkifbjlihaoaaGreatDoor
open Go.RowKit Go.Av
theorem sl_x3 : SliceN Tryz.prog 90 93 11 120 := .of Tryz.underlying90 (by kernel_rfl)
theorem sl_x4 : SliceN Tryz.prog 101 71 1 24 := .of Tryz.underlying101 (by kernel_rfl)
section
variable {w0 w : World} {b : Nat} {S : ShardS} {P P' : List PRow} {R : List Thing} {rows : List (Value × Bs)}
inductive OutL (P : List PRow) : List OutS → List Value → Prop
 | nil : OutL P [] []
 | cons {o : OutS} {v1 v2 : Value} {os : List OutS} {xs : List Value} : OutIn P o v1 v2 → OutL P os xs → OutL P (o :: os) ((outV o v1 v2).toList ++ xs)
theorem OutL.mono {os : List OutS} {xs : List Value} (h : OutL P os xs) (hP : ∀ r ∈ P, r ∈ P') : OutL P' os xs := by
 induction h with
 | nil => exact .nil
 | cons h1 _ ih => exact .cons (h1.mono hP) ih
theorem OutL.snoc {os : List OutS} {xs : List Value} {o : OutS} {v1 v2 : Value} (h : OutL P os xs) (ho : OutIn P o v1 v2) : OutL P (os ++ [o]) (xs ++ (outV o v1 v2).toList) := by
 induction h with
 | nil => simpa using OutL.cons ho OutL.nil
 | cons h1 _ ih =>
  rw [List.cons_append, List.append_assoc]
  exact .cons h1 ih
theorem OutL.len {os : List OutS} {xs : List Value} (h : OutL P os xs) : xs.length = os.length * 11 := by
 induction h with
 | nil => rfl
 | cons _ _ ih => simp only [List.length_append, List.length_cons, ih]; simp [outV]; omega
theorem OutL.at {os : List OutS} {xs : List Value} (h : OutL P os xs) : ∀ {i : Nat} (hi : i < os.length), ∃ v1 v2, OutIn P os[i] v1 v2 ∧ ∀ j v, (outV os[i] v1 v2).toList[j]? = some v → xs[i * 11 + j]? = some v := by
 induction h with
 | nil => intro i hi; cases hi
 | @cons o v1 v2 os xs h1 h2 ih =>
  intro i hi
  cases i with
  | zero =>
   refine ⟨v1, v2, h1, fun j v hv => ?_⟩
   have hv : (outV o v1 v2).toList[j]? = some v := hv
   have hj := (List.getElem?_eq_some_iff.1 hv).1
   rw [Nat.zero_mul, Nat.zero_add, List.getElem?_append_left hj]
   exact hv
  | succ i =>
   obtain ⟨u1, u2, h3, h4⟩ := ih (i := i) (by simpa using hi)
   refine ⟨u1, u2, h3, fun j v hv => ?_⟩
   have hl : (outV o v1 v2).toList.length = 11 := rfl
   rw [List.getElem?_append_right (by omega), hl, show (i + 1) * 11 + j - 11 = i * 11 + j by omega]
   exact h4 j v hv
inductive RecL (P : List PRow) : List Bs → List Value → Prop
 | nil : RecL P [] []
 | cons {l : Bs} {v : Value} {ls : List Bs} {vs : List Value} : (1, v, l.map bv) ∈ P → RecL P ls vs → RecL P (l :: ls) (v :: vs)
theorem RecL.len {ls : List Bs} {vs : List Value} (h : RecL P ls vs) : vs.length = ls.length := by
 induction h with
 | nil => rfl
 | cons _ _ ih => simp [ih]
theorem RecL.mono {ls : List Bs} {vs : List Value} (h : RecL P ls vs) (hP : ∀ r ∈ P, r ∈ P') : RecL P' ls vs := by
 induction h with
 | nil => exact .nil
 | cons h1 _ ih => exact .cons (hP _ h1) ih
theorem RecL.snoc {ls : List Bs} {vs : List Value} {l : Bs} {v : Value} (h : RecL P ls vs) (hv : (1, v, l.map bv) ∈ P) : RecL P (ls ++ [l]) (vs ++ [v]) := by
 induction h with
 | nil => exact .cons hv .nil
 | cons h1 _ ih => exact .cons h1 ih
theorem RecL.at {ls : List Bs} {vs : List Value} (h : RecL P ls vs) : ∀ {i : Nat} (hi : i < ls.length), ∃ v, vs[i]? = some v ∧ (1, v, ls[i].map bv) ∈ P := by
 induction h with
 | nil => intro i hi; cases hi
 | @cons l v ls vs h1 h2 ih =>
  intro i hi
  cases i with
  | zero => exact ⟨v, rfl, h1⟩
  | succ i => exact ih (i := i) (by simpa using hi)
def ypx' (w0 : World) (b : Nat) (P : List PRow) (R : List Thing) (rows : List (Value × Bs)) (m : List OutS × ShardS) (e : Ending) (w' : World) : Prop :=
 ∃ v xs P', e = .returned v ∧ (∀ q ∈ P, q ∈ P') ∧ OutL P' m.1 xs ∧ (11, v, xs) ∈ P' ∧ Sep w0 w' (yab' w0 P' :: ycs' b m.2 P' :: R) rows
def ynk' (w0 : World) (b : Nat) (S : ShardS) (ls : List Bs) (P : List PRow) (R : List Thing) (rows : List (Value × Bs)) (k : Nat) (v5 v10 : Value) (w : World) : Prop :=
 ∃ (i : Nat) (ys : List Value) (a : Option Addr) (n c : Nat) (P' : List PRow), i + k = ls.length ∧ v5 = .slice a n c ∧ v10 = .int .i64 (i : Int) ∧ (∀ q ∈ P, q ∈ P') ∧ OutL P' (ycq' (ls.take i) S).1 ys ∧
  Sep w0 w (ybc' 11 (.slice a n c) ys :: yab' w0 P' :: ycs' b (ycq' (ls.take i) S).2 P' :: R) rows
set_option maxRecDepth 100000 in
theorem ypj' {p : Nat} {c n m : Value} (h : Sep w0 w (yac' b (.cells #[.pointer (some ⟨p, 0, none⟩), c, n, m] 204 (0, 0)) :: R) rows) :
  Calls Tryz.prog 49 #[.pointer (some ⟨b, 0, none⟩)] w fun e w' => e = .returned (.pointer (some ⟨p, 0, none⟩)) ∧ w' = w := by
 have HX := Lib.hid h
 clear h
 go_enter Tryz.func49, Tryz.ntmps49
 go_wp2_with (first | refine u0 ?_ | (refine uS ?_; clear HX; intro w HX) | (refine uA ?_; clear HX; (first | (have hq := b; clear hq; intro w b2 HX) | intro w b HX)))
 go_ret
 exact ⟨rfl, rfl⟩
set_option maxRecDepth 100000 in
theorem yl2' {p c : Nat} {z : Int} {m : Value} (h : Sep w0 w (yac' b (.cells #[.pointer (some ⟨p, 0, none⟩), .pointer (some ⟨c, 0, none⟩), .int .i64 z, m] 204 (0, 0)) :: R) rows) :
  Calls Tryz.prog 100 #[.pointer (some ⟨b, 0, none⟩)] w fun e w' => e = .returned (.int .i64 z) ∧ w' = w := by
 have HX := Lib.hid h
 clear h
 go_enter Tryz.func100, Tryz.ntmps100
 go_wp2_with (first | refine u0 ?_ | (refine uS ?_; clear HX; intro w HX) | (refine uA ?_; clear HX; (first | (have hq := b; clear hq; intro w b2 HX) | intro w b HX)))
 go_ret
 exact ⟨rfl, rfl⟩
end
end Go.Proofs.YtcnkifbjlihaoaaGreatDoor

namespace Go.Proofs.YtcnkifbjlihaoaaGreatDoor
open Go.RowKit Go.Av
section
variable {w0 w : World} {b c : Nat} {S T : ShardS} {P P' Q : List PRow} {R : List Thing} {rows : List (Value × Bs)}
theorem yna' (h : Sep w0 w (yab' w0 P' :: ycs' b S P :: R) rows) (hP : ∀ r ∈ P, r ∈ P') : Sep w0 w (yab' w0 P' :: ycs' b S P' :: R) rows := (yr0' h.up1 hP).up1
set_option maxRecDepth 100000 in
theorem ymt' (h : Sep w0 w R rows) (id : Int) (ops : List OpS) (a : Option Addr) (n m : Nat) :
  Calls Tryz.prog 47 #[.int .i64 id, .slice a n m] w fun e w' => e = .returned (.agg (cmdV (locC id ops) (.slice a n m) (.slice none 0 0))) ∧ Sep w0 w' R rows := by
 have HX := Lib.hid h
 clear h
 go_enter Tryz.func47, Tryz.ntmps47
 go_wp2_with (first | refine u0 ?_ | (refine uS ?_; clear HX; intro w HX) | (refine uA ?_; clear HX; (first | (have hq := b; clear hq; intro w b2 HX) | intro w b HX)))
 refine ybd' HX rfl rfl (by (repeat (first | (with_reducible exact k_s) | (with_reducible apply k_m)))) (by kernel_rfl) ?_
 exact ⟨rfl, HX.out.drop⟩
def awT1 : ShardS := (yc5' (yg7' 10) (putC (locC 1 [opA]))).2
set_option maxRecDepth 100000 in
theorem aw25 : ∃ rs, ycq' [putC (locC 1 [opA])] (yg7' 10) = ([⟨1, 1, ⟨1, 1, 0, -1, rs⟩, 0, 0, [], false⟩], awT1) ∧ awT1.p.t.l.length = 1 ∧ awT1.played = 1 := by
 have hf : ∀ o ∈ [opA], FitO o := fun o ho => by rw [List.mem_singleton] at ho; subst ho; exact ⟨by decide, by decide⟩
 have h := yua' (S := yg7' 10) (id := 1) (by omega) (by omega) hf (fun e he => by cases he)
 have hm : mayS 1 1 [opA] = 0 := by kernel_rfl
 rw [if_pos hm] at h
 have h1 : yb0' (yg7' 10).p 1 1 [opA] = (⟨1, 1, 0, -1, (yb0' (newP 10) 1 1 [opA]).1.rs⟩, (yb0' (newP 10) 1 1 [opA]).2) := by kernel_rfl
 have e : awT1 = _ := congrArg Prod.snd h
 refine ⟨(yb0' (newP 10) 1 1 [opA]).1.rs, ?_, ?_, ?_⟩
 ·show ([(yc5' (yg7' 10) (putC (locC 1 [opA]))).1], (yc5' (yg7' 10) (putC (locC 1 [opA]))).2) = _
  rw [h, h1]
  unfold awT1
  rw [h, h1]
 ·rw [e]
  kernel_rfl
 ·rw [e]
  kernel_rfl
theorem yyp' : ShB 1 awT1 := (yvl' (yq3' 10 (by omega)) (by omega) _).2
end
end Go.Proofs.YtcnkifbjlihaoaaGreatDoor

namespace Go.Av
open Go.RowKit
end Go.Av
namespace Go.Proofs.YtcnkifbjlihaoaaGreatDoor
open Go.RowKit Go.Av
def KnA (S : ShardS) (Q : Int → Int → Prop) : Prop := ∀ e ∈ S.known, ∃ c, getC (putC c) = some c ∧ e.1 = putC c ∧ Q c.kind c.id
theorem KnA.add {S S' : ShardS} {Q Q' : Int → Int → Prop} (h : KnA S Q) (hq : ∀ k i, Q k i → Q' k i) {c : CmdS} {o : OutS} (hc : getC (putC c) = some c) (h1 : Q' c.kind c.id) (h2 : S'.known = S.known ++ [(putC c, o)]) : KnA S' Q' := by
 intro e he
 rw [h2] at he
 rcases List.mem_append.1 he with he | he
 ·obtain ⟨x, x1, x2, x3⟩ := h e he
  exact ⟨x, x1, x2, hq _ _ x3⟩
 ·rw [List.mem_singleton] at he
  exact ⟨c, hc, by rw [he], h1⟩
theorem KnA.mono {S S' : ShardS} {Q Q' : Int → Int → Prop} (h : KnA S Q) (hq : ∀ k i, Q k i → Q' k i) (h2 : S'.known = S.known) : KnA S' Q' := by
 intro e he
 rw [h2] at he
 obtain ⟨x, x1, x2, x3⟩ := h e he
 exact ⟨x, x1, x2, hq _ _ x3⟩
structure Loc (n : Nat) (S : ShardS) : Prop where
 kn : KnA S (fun k id => k = 1 ∧ 100 ≤ id ∧ id < 100 + n)
 held : S.p.held = []
 wait : S.p.wait = []
 closed : S.p.closed = []
 dec : S.p.decided = []
 zx : 0 ≤ S.p.zxid
structure RelN (m : Nat) (S T : ShardS) : Prop where
 like : Like S.p T.p
 zs : 0 ≤ S.p.zxid
 zt : 0 ≤ T.p.zxid
 held : S.p.held = []
 ks : KnA S (fun k id => k ≠ 1 ∨ id < 200 + m)
 kt : KnA T (fun k id => k ≠ 1 ∨ id < 200 + m)
theorem FitO.nil : ∀ o ∈ ([] : List OpS), FitO o := fun o h => by cases h
end Go.Proofs.YtcnkifbjlihaoaaGreatDoor

namespace Go.Av
open Go.RowKit
end Go.Av
namespace Go.Proofs.YtcnkifbjlihaoaaGreatDoor
open Go.RowKit Go.Av Go.ChangeShapes Go.WideShapes
end Go.Proofs.YtcnkifbjlihaoaaGreatDoor

namespace Go.Proofs.YtcnkifbjlihaoaaGreatDoor
open Go.RowKit Go.Av
section
variable {w0 w : World} {b t : Nat} {S : TreeS} {P P' : List PRow} {R : List Thing} {rows : List (Value × Bs)}
set_option maxRecDepth 100000 in
set_option maxHeartbeats 2000000 in
theorem ytv' (h : Sep w0 w (yab' w0 P :: R) rows) (l : List OpS) (v : Value) (hv : (5, v, l.flatMap OpS.cells) ∈ P) :
  Calls Tryz.prog 45 #[v] w fun e w' => e = .returned (.bool (yg6' l)) ∧ Sep w0 w' (yab' w0 P :: R) rows := by
 obtain ⟨E, hE⟩ := h.poolGet hv
 obtain ⟨a1, n1, c1, rfl, hl1, hn1, hc1, hne1⟩ := ReadRow.some hE
 rw [yar' yai'] at hl1
 obtain rfl : l.length = n1 := by omega
 have HV := Lib.hid hv
 have HN := Lib.hid hne1
 have HX := Lib.hid h
 clear h hv hE hne1 hn1 hc1 hl1
 by_cases h20 : 20 < l.length
 ·have HE := Lib.hid (show yg6' l = true by unfold yg6'; rw [decide_eq_true h20]; rfl)
  have q1 : decide (20 < l.length) = true := decide_eq_true h20
  have q2 : decide (20 < (l.length : Int)) = true := decide_eq_true (by omega)
  clear h20
  go_enter Tryz.func45, Tryz.ntmps45
  go_wp2_with (first | refine v1 ?_ | (refine vS ?_; clear HX; intro w HX) | (refine vA ?_; clear HX; (first | (have hq := b; clear hq; intro w b2 HX) | intro w b HX)))
  go_ret
  rw [HE.out]
  exact ⟨rfl, HX.out⟩
 have HE := Lib.hid (show yg6' l = l.any fun o => decide (300 < o.path.size) || decide (1100 < o.data.size) by unfold yg6'; rw [decide_eq_false h20]; rfl)
 have HL := Lib.hid (show l.length ≤ 20 by omega)
 have q1 : decide (20 < l.length) = false := decide_eq_false h20
 have q2 : decide (20 < (l.length : Int)) = false := decide_eq_false (by omega)
 clear h20
 go_enter Tryz.func45, Tryz.ntmps45
 go_wp2_with (first | refine v1 ?_ | (refine vS ?_; clear HX; intro w HX) | (refine vA ?_; clear HX; (first | (have hq := b; clear hq; intro w b2 HX) | intro w b HX)))
 go_loopg [3] l.length (fun k v3 wr => ∃ i : Nat, i + k = l.length ∧ v3 = .int .i64 (i : Int) ∧ ((l.take i).any fun o => decide (300 < o.path.size) || decide (1100 < o.data.size)) = false ∧ Sep w0 wr (yab' w0 P :: R) rows)
 case atStart => exact ⟨0, by omega, rfl, rfl, HX.out⟩
 case round =>
  rename World => w
  obtain ⟨i, hik, rfl, hno, hS⟩ := hrel
  replace HX := Lib.hid hS
  clear hS
  by_cases hlt : i < l.length
  case neg =>
   obtain rfl : i = l.length := by omega
   rw [List.take_length] at hno
   have HE2 := Lib.hid (HE.out.trans hno)
   clear hlt hik hno
   go_wp2_with (first | refine v1 ?_ | (refine vS ?_; clear HX; intro w HX) | (refine vA ?_; clear HX; (first | (have hq := b; clear hq; intro w b2 HX) | intro w b HX)))
   go_ret
   rw [HE2.out]
   exact ⟨rfl, HX.out⟩
  case pos =>
   obtain ⟨g1, o1, rfl⟩ := HN.out (by intro e; have := congrArg List.length e; rw [yar' yai'] at this; simp at this; omega)
   obtain ⟨E, hE⟩ := HX.out.poolGet HV.out
   have hx : ∀ j v, (OpS.cells l[i])[j]? = some v → (l.flatMap OpS.cells)[i * 5 + j]? = some v := fun j v hj => by
    rw [ye5' yai' l hlt (by have := (List.getElem?_eq_some_iff.1 hj).1; exact this)]
    exact hj
   have hl := ym5' (P := Tryz.prog) (ty := 9) hE (by kernel_rfl) (hx 1 _ rfl)
   have hl2 := ym5' (P := Tryz.prog) (ty := 9) hE (by kernel_rfl) (hx 2 _ rfl)
   have HT := Lib.hid (show l.take (i + 1) = l.take i ++ [l[i]] from List.take_succ_eq_append_getElem hlt)
   have HM := Lib.hid (List.getElem_mem hlt)
   obtain ⟨o, ho⟩ : ∃ o, l[i] = o := ⟨_, rfl⟩
   rw [ho] at hl hl2 HT HM
   have HNO := Lib.hid hno
   have q0 : decide (i < l.length) = true := decide_eq_true hlt
   have q9 : i ≤ 20 := by have := HL.out; omega
   clear hE hx ho hno
   obtain ⟨z1, h1⟩ : ∃ z, decide (300 < o.path.size) = z := ⟨_, rfl⟩
   obtain ⟨z2, h2⟩ : ∃ z, decide (1100 < o.data.size) = z := ⟨_, rfl⟩
   have h1' : decide (300 < (o.path.size : Int)) = z1 := by rw [← h1]; exact decide_eq_decide.2 (by omega)
   have h2' : decide (1100 < (o.data.size : Int)) = z2 := by rw [← h2]; exact decide_eq_decide.2 (by omega)
   by_cases hz : z1 = true ∨ z2 = true
   ·have HE2 := Lib.hid (show yg6' l = true by
     rw [HE.out]
     refine List.any_eq_true.2 ⟨o, HM.out, ?_⟩
     rw [h1, h2]
     rcases hz with h | h <;> simp [h])
    cases z1 <;> cases z2
    case false.false => exact absurd hz (by simp)
    all_goals
     clear hz
     go_wp2_with (first | refine v1 ?_ | (refine vS ?_; clear HX; intro w HX) | (refine vA ?_; clear HX; (first | (have hq := b; clear hq; intro w b2 HX) | intro w b HX)) | ((with_reducible apply yau' hl); (· rfl); (· rfl); simp only [Act.put, k_a, k_b, k_c]) | ((with_reducible apply yau' hl2); (· rfl); (· rfl); simp only [Act.put, k_a, k_b, k_c]))
     go_ret
     rw [HE2.out]
     exact ⟨rfl, HX.out⟩
   ·have HN2 := Lib.hid (show ((l.take (i + 1)).any fun o => decide (300 < o.path.size) || decide (1100 < o.data.size)) = false by
     rw [HT.out, List.any_append, HNO.out]
     simp only [List.any_cons, List.any_nil, Bool.or_false, Bool.false_or]
     rw [h1, h2]
     cases z1 <;> cases z2 <;> simp_all)
    obtain rfl : z1 = false := by cases z1 <;> simp_all
    obtain rfl : z2 = false := by cases z2 <;> simp_all
    clear hz
    go_wp2_with (first | refine v1 ?_ | (refine vS ?_; clear HX; intro w HX) | (refine vA ?_; clear HX; (first | (have hq := b; clear hq; intro w b2 HX) | intro w b HX)) | ((with_reducible apply yau' hl); (· rfl); (· rfl); simp only [Act.put, k_a, k_b, k_c]) | ((with_reducible apply yau' hl2); (· rfl); (· rfl); simp only [Act.put, k_a, k_b, k_c]))
    go_roundg (l.length - (i + 1))
    case rel => exact ⟨i + 1, by omega, by go_num, HN2.out, HX.out⟩
    case measure => omega
end
end Go.Proofs.YtcnkifbjlihaoaaGreatDoor

namespace Go.Av
open Go.RowKit
section
variable {P : Program} {ops : Array Oper} {Q : Exit → Act → World → Prop} {a : Act} {w w0 : World} {rest : List Oper} {Ts : List Thing} {rows : List (Value × Bs)} {dst : Option Tmp} {t e tyy : TypeId} {y0 y1 : Operand} {pos : String} {aft : Array Edge} {v0 v1 : Value}
end
end Go.Av
namespace Go.Proofs.YtcnkifbjlihaoaaGreatDoor
open Go.RowKit Go.Av
end Go.Proofs.YtcnkifbjlihaoaaGreatDoor
namespace Go.Proofs.YtcnkifbjlihaoaaGreatDoor
open Go.RowKit Go.Av
section
variable {w0 w : World} {b c d n K : Nat} {S T : ShardS} {P P' Q : List PRow} {R : List Thing} {rows : List (Value × Bs)}
end
end Go.Proofs.YtcnkifbjlihaoaaGreatDoor

namespace Go.Proofs.YtcnkifbjlihaoaaGreatDoor
open Go.RowKit Go.Av
theorem sn_x8 : StructN Tryz.prog 104 11 := ⟨by kernel_rfl⟩
theorem z_x8 : yco' Tryz.prog 104 #[.int .i64 0, .int .i64 0, .int .i64 0, .int .i64 0, .int .i64 0, .int .i64 0, .slice none 0 0, .int .i64 0, .int .i64 0, .slice none 0 0, .bool false] := by unfold yco'; kernel_rfl
section
variable {w0 w : World} {P P' : List PRow} {R : List Thing} {rows : List (Value × Bs)}
set_option maxRecDepth 100000 in
theorem yqi' (h : Sep w0 w (yab' w0 P :: R) rows) (c : CmdS) (vo vs : Value) (hvo : (5, vo, c.ops.flatMap OpS.cells) ∈ P) (hvs : (1, vs, c.shards.map ivn) ∈ P) :
  Calls Tryz.prog 38 #[.agg (cmdV c vo vs)] w fun e w' => e = .returned (.bool (yg6' c.ops || decide (6 < (c.shards.length : Int)))) ∧ Sep w0 w' (yab' w0 P :: R) rows := by
 obtain ⟨oa, on, oc, rfl⟩ := yal' h hvo
 obtain ⟨E, hE⟩ := h.poolGet hvs
 obtain ⟨sa, sn, sc, rfl, hl, -⟩ := ReadRow.some hE
 rw [List.length_map, Nat.mul_one] at hl
 subst hl
 have HV := Lib.hid hvo
 have HX := Lib.hid h
 obtain ⟨k0, id, sess, rs, rn, ops, shards, shard, yes⟩ := c
 clear h hE hvo hvs
 unfold cmdV
 dsimp only at HV ⊢
 obtain ⟨z2, hz2⟩ : ∃ z, decide (6 < (shards.length : Int)) = z := ⟨_, rfl⟩
 obtain ⟨z, hz⟩ : ∃ z, yg6' ops = z := ⟨_, rfl⟩
 rw [hz2, hz]
 have HZ := Lib.hid (show _ ∧ _ from ⟨hz, hz2⟩)
 clear hz
 go_enter Tryz.func38, Tryz.ntmps38
 go_wp2_with (first | refine u0 ?_ | (refine uS ?_; clear HX; intro w HX) | (refine uA ?_; clear HX; (first | (have hq := b; clear hq; intro w b2 HX) | intro w b HX)))
 have hm := ytv' HX.out.up1 ops _ HV.out
 rw [HZ.out.1] at hm
 refine hm.mono ?_
 clear hm
 rintro e w ⟨rfl, hx⟩
 replace HX := Lib.hid hx
 clear hx
 have q1 : decide (6 < shards.length) = z2 := by rw [← hz2]; exact decide_eq_decide.2 (by omega)
 cases z with
 | true =>
  go_wp2_with (first | refine u0 ?_ | (refine uS ?_; clear HX; intro w HX) | (refine uA ?_; clear HX; (first | (have hq := b; clear hq; intro w b2 HX) | intro w b HX)))
  go_ret
  exact ⟨rfl, HX.out.cut1⟩
 | false =>
  go_wp2_with (first | refine u0 ?_ | (refine uS ?_; clear HX; intro w HX) | (refine uA ?_; clear HX; (first | (have hq := b; clear hq; intro w b2 HX) | intro w b HX)))
  go_ret
  exact ⟨by simp, HX.out.cut1⟩
end
end Go.Proofs.YtcnkifbjlihaoaaGreatDoor

namespace Go.Av
open Go.RowKit
def IsIntsJ (w : World) (a : Option Addr) (len cap : Nat) (zs : List Int) : Prop :=
 (a = none ∧ len = 0 ∧ cap = 0 ∧ zs = []) ∨
 ∃ x, a = some x ∧ len ≤ cap ∧ cap ≤ maxLen ∧ zs.length = cap ∧ (∀ i, i < zs.length → w.cell? (x.add i) = some (.int .i64 (zs.getD i 0))) ∧ ∀ n ∈ zs, (Lit.int .i64 n).wf = true
theorem IsIntsJ.read {w : World} {a : Option Addr} {len cap : Nat} {zs : List Int} (h : IsIntsJ w a len cap zs) : ∃ (l : List Int) (E : List Nat), l.length = len ∧ ReadRow w 1 (.slice a len cap) (l.map fun z => Value.int .i64 z) E := by
 rcases h with ⟨rfl, rfl, rfl, rfl⟩ | ⟨x, rfl, h1, h2, h3, h4, h5⟩
 ·exact ⟨[], [], rfl, none, 0, 0, rfl, rfl, Nat.le_refl _, by decide, fun _ => rfl, .inl ⟨rfl, rfl⟩⟩
 ·refine ⟨zs.take len, if len = 0 then [] else [x.block], by simp; omega, some x, len, cap, rfl, by simp; omega, h1, h2, by simp, ?_⟩
  by_cases h0 : len = 0
  ·subst h0; exact .inl ⟨by simp, by simp⟩
  ·refine .inr ?_
   have hc0 := h4 0 (by omega)
   have hsp : x.spot = none := by
    cases hs : x.spot with
    | none => rfl
    | some _ =>
     have : x.add 0 = x := by simp [Addr.add]
     rw [this] at hc0
     unfold World.cell? at hc0
     split at hc0 <;> simp [hs] at hc0
   obtain ⟨b, o, sp⟩ := x
   simp only at hsp
   subst hsp
   refine ⟨b, o, rfl, by simp [h0], ?_, fun i u hu => ?_⟩
   ·have := World.block_lt_of_cell? w _ hc0
    simpa [Addr.add_lit] using this
   ·rw [List.getElem?_map, List.getElem?_take] at hu
    split at hu
    ·rename_i hi
     cases hz : zs[i]? with
     | none => rw [hz] at hu; cases hu
     | some z =>
      rw [hz] at hu
      cases hu
      have := h4 i (by omega)
      rw [Addr.add_lit] at this
      rw [this, List.getD_eq_getElem?_getD, hz]
      rfl
    ·cases hu
end Go.Av

namespace Go.Av
open Go.RowKit
end Go.Av
namespace Go.Proofs.YtcnkifbjlihaoaaGreatDoor
open Go.RowKit Go.Av Go.ChangeShapes Go.WideShapes
structure CmdG where
 c : CmdS
 vo : Value
 vs : Value
def CmdG.cells (g : CmdG) : List Value := (cmdV g.c g.vo g.vs).toList
instance : Inhabited CmdG := ⟨⟨⟨0, 0, 0, 0, 0, [], [], 0, false⟩, .bool false, .bool false⟩⟩
def CmdOk (w : World) (g : CmdG) : Prop := (∃ E, ReadRow w 5 g.vo (g.c.ops.flatMap OpS.cells) E) ∧ ∃ E, ReadRow w 1 g.vs (g.c.shards.map ivn) E
theorem cmdCells : Tryz.prog.cellsOf 70 = 9 ∧ Tryz.prog.cellsOf 3 = 1 ∧ Tryz.prog.cellsOf 2 = 1 ∧ Tryz.prog.cellsOf 30 = 1 ∧ Tryz.prog.cellsOf 4 = 1 ∧ Tryz.prog.cellsOf 68 = 1 ∧ Tryz.prog.cellsOf 42 = 3 := by
 refine ⟨?_, ?_, ?_, ?_, ?_, ?_, ?_⟩ <;> kernel_rfl
theorem yo5' {H : Type} {enc : TypeId × Value → H} {w : World} {base : Nat} {held : Bool} {fuel : Nat} {c : Value} {x : DataW H × List MemPlace}
  (h : DataW.trod enc Tryz.prog w base (fun _ => true) held fuel 68 [c] = some x) : ∃ (l : List Int) (E : List Nat), ReadRow w 1 c (l.map ivn) E := by
 rcases open_ints Tryz.underlying68 Tryz.underlying3 (by kernel_rfl) h with ⟨hcs, _⟩ | ⟨a, len, cap, zs, hcs, _, hl, hm, hz, _, hcell, hwz⟩
 ·cases hcs
  exact ⟨[], [], none, 0, 0, rfl, rfl, Nat.le_refl _, by decide, fun _ => rfl, .inl ⟨rfl, rfl⟩⟩
 ·cases hcs
  obtain ⟨l, E, -, hE⟩ := IsIntsJ.read (w := w) (a := some a) (len := len) (cap := cap) (zs := zs) (.inr ⟨a, rfl, hl, hm, by simpa using hz, hcell, hwz⟩)
  exact ⟨l, E, hE⟩
end Go.Proofs.YtcnkifbjlihaoaaGreatDoor

namespace Go.Proofs.YtcnkifbjlihaoaaGreatDoor
open Go.RowKit Go.Av Go.ChangeShapes Go.WideShapes
set_option maxRecDepth 100000 in
theorem cmd1_of {H : Type} {enc : TypeId × Value → H} {w : World} {base : Nat} {held : Bool} {fuel : Nat} {cs : List Value} {x : DataW H × List MemPlace}
  (ht : DataW.trod enc Tryz.prog w base (fun _ => true) held fuel 70 cs = some x) (hcl : cs.length = 9) : ∃ g : CmdG, CmdOk w g ∧ cs = (cmdV g.c g.vo g.vs).toList := by
 obtain ⟨c9, c1, c2, c3, c4, c5, c6⟩ := cmdCells
 obtain ⟨ys, n', -, -, -, hyl, hf⟩ := DataW.trod_struct Tryz.underlying70 ht
 match cs, hcl with
 | [k0, k1, k2, k3, k4, k5, k6, k7, k8], _ =>
  have f0 : DataW.trod enc Tryz.prog w base (fun _ => true) held n' 3 (List.take (Tryz.prog.cellsOf 3) (List.drop 0 [k0, k1, k2, k3, k4, k5, k6, k7, k8])) = ys[0]? := hf 0 _ rfl
  have f1 : DataW.trod enc Tryz.prog w base (fun _ => true) held n' 2 (List.take (Tryz.prog.cellsOf 2) (List.drop 1 [k0, k1, k2, k3, k4, k5, k6, k7, k8])) = ys[1]? := hf 1 _ rfl
  have f2 : DataW.trod enc Tryz.prog w base (fun _ => true) held n' 2 (List.take (Tryz.prog.cellsOf 2) (List.drop 2 [k0, k1, k2, k3, k4, k5, k6, k7, k8])) = ys[2]? := hf 2 _ rfl
  have f3 : DataW.trod enc Tryz.prog w base (fun _ => true) held n' 42 (List.take (Tryz.prog.cellsOf 42) (List.drop 3 [k0, k1, k2, k3, k4, k5, k6, k7, k8])) = ys[3]? := hf 3 _ rfl
  have f4 : DataW.trod enc Tryz.prog w base (fun _ => true) held n' 68 (List.take (Tryz.prog.cellsOf 68) (List.drop 6 [k0, k1, k2, k3, k4, k5, k6, k7, k8])) = ys[4]? := hf 4 _ rfl
  have f5 : DataW.trod enc Tryz.prog w base (fun _ => true) held n' 3 (List.take (Tryz.prog.cellsOf 3) (List.drop 7 [k0, k1, k2, k3, k4, k5, k6, k7, k8])) = ys[5]? := hf 5 _ rfl
  have f6 : DataW.trod enc Tryz.prog w base (fun _ => true) held n' 4 (List.take (Tryz.prog.cellsOf 4) (List.drop 8 [k0, k1, k2, k3, k4, k5, k6, k7, k8])) = ys[6]? := hf 6 _ rfl
  rw [c1] at f0 f5
  rw [c2] at f1 f2
  rw [c6] at f3
  rw [c5] at f4
  rw [c4] at f6
  have hy : ∀ j, j < 7 → ∃ y, ys[j]? = some y := fun j hj => ⟨ys[j]'(by rw [hyl]; exact hj), List.getElem?_eq_getElem _⟩
  obtain ⟨y0, e0⟩ := hy 0 (by omega)
  obtain ⟨y1, e1⟩ := hy 1 (by omega)
  obtain ⟨y2, e2⟩ := hy 2 (by omega)
  obtain ⟨y3, e3⟩ := hy 3 (by omega)
  obtain ⟨y4, e4⟩ := hy 4 (by omega)
  obtain ⟨y5, e5⟩ := hy 5 (by omega)
  obtain ⟨y6, e6⟩ := hy 6 (by omega)
  obtain ⟨n0, g0, -, -⟩ := DataW.trod_int Tryz.underlying3 (f0.trans e0)
  obtain ⟨n1, g1, -, -⟩ := DataW.trod_int Tryz.underlying2 (f1.trans e1)
  obtain ⟨n2, g2, -, -⟩ := DataW.trod_int Tryz.underlying2 (f2.trans e2)
  obtain ⟨zs, m', -, -, -, hzl, hg⟩ := DataW.trod_struct Tryz.underlying42 (f3.trans e3)
  have r0 : DataW.trod enc Tryz.prog w base (fun _ => true) held m' 2 (List.take (Tryz.prog.cellsOf 2) (List.drop 0 [k3, k4, k5])) = zs[0]? := hg 0 _ rfl
  have r1 : DataW.trod enc Tryz.prog w base (fun _ => true) held m' 2 (List.take (Tryz.prog.cellsOf 2) (List.drop 1 [k3, k4, k5])) = zs[1]? := hg 1 _ rfl
  have r2 : DataW.trod enc Tryz.prog w base (fun _ => true) held m' 30 (List.take (Tryz.prog.cellsOf 30) (List.drop 2 [k3, k4, k5])) = zs[2]? := hg 2 _ rfl
  rw [c2] at r0 r1
  rw [c3] at r2
  have hz : ∀ j, j < 3 → ∃ y, zs[j]? = some y := fun j hj => ⟨zs[j]'(by rw [hzl]; exact hj), List.getElem?_eq_getElem _⟩
  obtain ⟨x0, d0⟩ := hz 0 (by omega)
  obtain ⟨x1, d1⟩ := hz 1 (by omega)
  obtain ⟨x2, d2⟩ := hz 2 (by omega)
  obtain ⟨n3, g3, -, -⟩ := DataW.trod_int Tryz.underlying2 (r0.trans d0)
  obtain ⟨n4, g4, -, -⟩ := DataW.trod_int Tryz.underlying2 (r1.trans d1)
  have g5 : DataW.trod enc Tryz.prog w base (fun _ => true) held m' 30 [k5] = some x2 := r2.trans d2
  have g6 : DataW.trod enc Tryz.prog w base (fun _ => true) held n' 68 [k6] = some y4 := f4.trans e4
  obtain ⟨n7, g7, -, -⟩ := DataW.trod_int Tryz.underlying3 (f5.trans e5)
  obtain ⟨n8, g8, -⟩ := DataW.trod_bool Tryz.underlying4 (f6.trans e6)
  obtain ⟨ops, E, hE⟩ := yq8' g5
  obtain ⟨sh, E2, hE2⟩ := yo5' g6
  simp at g0 g1 g2 g3 g4 g7 g8
  subst g0 g1 g2 g3 g4 g7 g8
  exact ⟨⟨⟨n0, n1, n2, n3, n4, ops, sh, n7, n8⟩, k5, k6⟩, ⟨⟨E, hE⟩, ⟨E2, hE2⟩⟩, rfl⟩
end Go.Proofs.YtcnkifbjlihaoaaGreatDoor

namespace Go.Proofs.YtcnkifbjlihaoaaGreatDoor
open Go.RowKit Go.Av
section
variable {w0 w : World} {b : Nat} {S : ShardS} {P P' : List PRow} {R : List Thing} {rows : List (Value × Bs)}
set_option maxRecDepth 100000 in
set_option maxHeartbeats 16000000 in
theorem yr1' {K : Nat} (h : Sep w0 w (yab' w0 P :: ycs' b S P :: R) rows) (hd : DoorN w0) (hB : PartC K S.p) (hK : K ≤ 100) (c : CmdS) (vo vs : Value) (hvo : (5, vo, c.ops.flatMap OpS.cells) ∈ P) (hvs : (1, vs, c.shards.map ivn) ∈ P) (hp : ∀ o ∈ c.ops, o.path.size ≤ 100000) (hk : 1 ≤ c.kind ∧ c.kind ≤ 8) (hid : c.id ≤ 9223372036854775807) (hk1 : c.kind = 1) :
  Calls Tryz.prog 170 #[.pointer (some ⟨b, 0, none⟩), .agg (cmdV c vo vs)] w (yps' w0 b P R rows (doC S c)) := by
 obtain ⟨oa, on, oc, rfl⟩ := yal' h hvo
 obtain ⟨sa, sn, sc, rfl⟩ := yal' h hvs
 obtain ⟨p, c2, mk, gs, hgs, hgo, hS⟩ := yie' h.up1
 have HG := Lib.hid (show _ ∧ _ from ⟨hgs, hgo⟩)
 have HV := Lib.hid (show _ ∧ _ ∧ _ ∧ _ from ⟨hvo, hvs, hp, hid⟩)
 have HB := Lib.hid (show _ ∧ _ from ⟨hB, hK⟩)
 have HX := Lib.hid hS
 obtain ⟨k0, id, sess, rs, rn, ops, shards, shard, yes⟩ := c
 have HK := Lib.hid hk
 obtain ⟨rr, hrr⟩ : ∃ rr, doC S ⟨k0, id, sess, rs, rn, ops, shards, shard, yes⟩ = rr := ⟨_, rfl⟩
 rw [hrr]
 have HRR := Lib.hid hrr
 clear h hS hgs hgo hvo hvs hp hid hB hK hk hrr
 dsimp only at HV HK hk1
 subst hk1
 unfold cmdV
 dsimp only
 go_enter Tryz.func170, Tryz.ntmps170
 go_wp2_with (first | refine u0 ?_ | (refine uS ?_; clear HX; intro w HX) | (refine uA ?_; clear HX; (first | (have hq := b2; clear hq; intro w b3 HX) | (have hq := b; clear hq; intro w b2 HX) | intro w b HX)))
 refine rM (fun W => DoS w0 b #[.pointer (some ⟨p, 0, none⟩), .pointer (some ⟨c2, 0, none⟩), .int .i64 S.played, .map (some mk)] b2 #[.int .i64 1, .int .i64 id, .int .i64 sess, .int .i64 rs, .int .i64 rn, .slice oa on oc, .slice sa sn sc, .int .i64 shard, .bool yes] rows W) 7 ?_
 intro KEEPX
 replace HX := Lib.hid HX.out.drew
 have hl := fun V (hV : DoS w0 b #[.pointer (some ⟨p, 0, none⟩), .pointer (some ⟨c2, 0, none⟩), .int .i64 S.played, .map (some mk)] b2 #[.int .i64 1, .int .i64 id, .int .i64 sess, .int .i64 rs, .int .i64 rn, .slice oa on oc, .slice sa sn sc, .int .i64 shard, .bool yes] rows V) => hV.l1 (ty := 24) 0 (by kernel_rfl) rfl
 have hl2 := fun V (hV : DoS w0 b #[.pointer (some ⟨p, 0, none⟩), .pointer (some ⟨c2, 0, none⟩), .int .i64 S.played, .map (some mk)] b2 #[.int .i64 1, .int .i64 id, .int .i64 sess, .int .i64 rs, .int .i64 rn, .slice oa on oc, .slice sa sn sc, .int .i64 shard, .bool yes] rows V) => hV.l3 (by simp)
 simp only [k_e, k_d, k_f, k_g, k_h] at hl2
 refine rT [(0, false), (1, false), (2, false), (3, true), (4, false), (5, true)] 3 ?_
 apply Exists.intro; refine ⟨?_, (DoS.of HX.out.up2.up3), ?_⟩
 ·iterate 6 (refine xE ?_)
  exact rfl
 clear hl hl2
 refine r1 2 6 fun K hK => ?_
 go_wp2_with fail
 obtain ⟨⟨⟨n1, z1, e1, t1, rs1⟩, S2⟩, hm1⟩ : ∃ m1, yb0' S.p rs rn ops = m1 := ⟨_, rfl⟩
 have hm := yqr' HX.out.up4.up7 hd HB.out.1.b (by have := HB.out.2; omega) rs rn ops _ HV.out.1 HV.out.2.2.1
 rw [hm1] at hm
 refine hm.mono ?_
 obtain rfl : rr = (⟨1, id, ⟨n1, z1, e1, t1, rs1⟩, 0, 0, [], false⟩, { S with p := S2 }) := by rw [← HRR.out]; unfold doC; dsimp only; rw [if_pos rfl, hm1]
 clear hm hm1
 rintro e w ⟨_, P2, rfl, hP2, ⟨a1, n2, c1, xs1, rfl, hr1, hmem1⟩, hx⟩
 dsimp only at hx hr1 ⊢
 have HP1 := Lib.hid hP2
 have HQ := Lib.hid (show _ ∧ _ from ⟨hr1, hmem1⟩)
 clear hP2 hr1 hmem1
 replace HX := Lib.hid hx
 clear hx
 go_wp2_with fail
 refine hK _ _ (DoS.of HX.out.up4.up5) ?_
 clear hK
 refine rL [7, 8] 0 ?_
 simp only [List.filterMap_cons, List.filterMap_nil, k_i, k_j, k_k]
 go_step
 rename_i xk
 refine xk _ _ ?_
 clear xk
 refine tWS ?_
 clear HX
 intro w HX
 simp only [Act.put, k_a, k_b, k_c, yci', Nat.reduceAdd] at HX ⊢
 go_wp2_with (first | refine u0 ?_ | (refine uS ?_; clear HX; intro w HX) | (refine uA ?_; clear HX; (first | (have hq := b2; clear hq; intro w b3 HX) | (have hq := b; clear hq; intro w b2 HX) | intro w b HX)))
 refine ybd' HX rfl rfl (by (repeat (first | (with_reducible exact k_s) | (with_reducible apply k_m)))) (by kernel_rfl) ?_
 have h3 := (HX.out.cut2.cut2.cut2.poolNil 11).up1
 have hq : ∀ q ∈ P2, q ∈ (11, Value.slice none 0 0, []) :: P2 := fun q hq => k_n _ hq
 have h4 := yeo' h3 hq
 refine ⟨_, _, _, rfl, fun q hh => hq q (HP1.out q hh), ⟨⟨xs1, HQ.out.1.mono hq, hq _ HQ.out.2⟩, yrw'⟩, ?_⟩
 exact (yfk' (b := b) (S := { S with p := S2 }) (p := p) (c := c2) (mk := mk) (gs := gs) (R := yab' w0 ((11, Value.slice none 0 0, []) :: P2) :: R) (h4.pm 5 [2, 0, 3, 4, 1] rfl rfl) HG.out.1 (fun g hg => (HG.out.2 g hg).mono (fun q hh => hq q (HP1.out q hh)))).up1
end
end Go.Proofs.YtcnkifbjlihaoaaGreatDoor

namespace Go.Proofs.YtcnkifbjlihaoaaGreatDoor
open Go.RowKit Go.Av
section
variable {w0 w : World} {b : Nat} {S : ShardS} {P P' : List PRow} {R : List Thing} {rows : List (Value × Bs)}
set_option maxRecDepth 100000 in
set_option maxHeartbeats 16000000 in
theorem ynb' {K : Nat} (h : Sep w0 w (yab' w0 P :: ycs' b S P :: R) rows) (hd : DoorN w0) (hB : ShB K S) (hK : K ≤ 100) (v : Value) (l : Bs) (hv : (1, v, l.map bv) ∈ P) (hl : l.length ≤ 1000000) (hk1 : ∀ c, getC l = some c → c.kind = 1) :
  Calls Tryz.prog 129 #[.pointer (some ⟨b, 0, none⟩), v] w (yps' w0 b P R rows (yc5' S l)) := by
 obtain ⟨p, c2, mk, gs, hgs, hgo, hS⟩ := yie' h.up1
 have HV := Lib.hid (show _ ∧ _ from ⟨hv, hl⟩)
 have HK1 := Lib.hid hk1
 have HB := Lib.hid (show _ ∧ _ from ⟨hB, hK⟩)
 have HX := Lib.hid hS
 have q8 : 0 ≤ S.played := hB.played.1
 have q9 : S.played ≤ 1000 := by have := hB.played.2; omega
 obtain ⟨rr, hrr⟩ : ∃ rr, yc5' S l = rr := ⟨_, rfl⟩
 rw [hrr]
 have HRR := Lib.hid hrr
 have HG := Lib.hid (show _ ∧ _ from ⟨hgs, hgo⟩)
 clear h hS hgs hgo hv hl hB hK hrr hk1
 go_enter Tryz.func129, Tryz.ntmps129
 go_wp2_with (first | refine u0 ?_ | (refine uS ?_; clear HX; intro w HX) | (refine uA ?_; clear HX; (first | (have hq := b5; clear hq; intro w b6 HX) | (have hq := b4; clear hq; intro w b5 HX) | (have hq := b3; clear hq; intro w b4 HX) | (have hq := b2; clear hq; intro w b3 HX) | (have hq := b; clear hq; intro w b2 HX) | intro w b HX)))
 refine (yf9' HX.out.up5 hd v l HV.out.1 HV.out.2).mono ?_
 obtain ⟨o, ho⟩ : ∃ o, getC l = o := ⟨_, rfl⟩
 rw [ho]
 rintro e w ⟨vo, vs, P1, rfl, hP1, hvo, hvs, hx⟩
 obtain ⟨oa, on, oc, rfl⟩ := yal' hx hvo
 obtain ⟨sa, sn, sc, rfl⟩ := yal' hx hvs
 have hx := (yeo' hx.up3 hP1).up3
 replace HX := Lib.hid hx
 clear hx
 have HP1 := Lib.hid hP1
 have HC := Lib.hid (show _ ∧ _ ∧ _ from ⟨ho, hvo, hvs⟩)
 clear hP1 ho hvo hvs
 cases o with
 | none =>
  obtain rfl : rr = (badO, { S with played := S.played + 1 }) := by
   rw [← HRR.out]
   unfold yc5'
   rw [HC.out.1]
  unfold ydt' cmdV
  dsimp only [Option.getD, Option.isSome]
  go_wp2_with (first | refine u0 ?_ | (refine uS ?_; clear HX; intro w HX) | (refine uA ?_; clear HX; (first | (have hq := b5; clear hq; intro w b6 HX) | (have hq := b4; clear hq; intro w b5 HX) | (have hq := b3; clear hq; intro w b4 HX) | (have hq := b2; clear hq; intro w b3 HX) | (have hq := b; clear hq; intro w b2 HX) | intro w b HX)))
  refine ybd' HX rfl rfl (by (repeat (first | (with_reducible exact k_s) | (with_reducible apply k_m)))) (by kernel_rfl) ?_
  exact yx2' (p := p) (c := c2) (mk := mk) (gs := gs) (S := { S with played := S.played + 1 }) rfl rfl HP1.out HG.out.1 HG.out.2 (HX.out.drop.pm 6 [2, 0, 1, 4, 5] rfl rfl)
 | some c =>
  have HCO := Lib.hid (ywq' HC.out.1)
  obtain ⟨k0, id, sess, rs, rn, ops, shards, shard, yes⟩ := c
  unfold cmdV at HX ⊢
  dsimp only [Option.getD, Option.isSome] at HC HX ⊢
  cases hlk : ylf' l S.known with
  | some o =>
   obtain ⟨g, hg, rfl, rfl⟩ : ∃ g ∈ gs, g.b = l ∧ g.o = o := by
    have h1 := yh0' hlk
    rw [← HG.out.1] at h1
    obtain ⟨g, hg, e⟩ := List.mem_map.1 h1
    exact ⟨g, hg, congrArg Prod.fst e, congrArg Prod.snd e⟩
   obtain rfl : rr = (g.o, { S with played := S.played + 1 }) := by
    rw [← HRR.out]
    unfold yc5'
    rw [HC.out.1]
    dsimp only
    rw [hlk]
   have hok := HB.out.1.known _ (yh0' hlk)
   have hin := (HG.out.2 g hg).mono HP1.out
   obtain ⟨gb, ⟨gk, gi, ⟨num, zx, er, gat, rs1⟩, e2, at2, rs2, gy⟩, v1, v2⟩ := g
   obtain ⟨a1, n1, c1, rfl⟩ := yb1' HX.out.up2 hin.1
   obtain ⟨a2, n2, c3, rfl⟩ := yb1' HX.out.up2 hin.2
   have HL := Lib.hid (show _ ∧ _ ∧ _ from ⟨hg, hok, hin⟩)
   clear hg hlk hok hin
   dsimp only at HL HV HC ⊢
   go_upto_region 5 with (first | refine u0 ?_ | (refine uS ?_; clear HX; intro w HX) | (refine uA ?_; clear HX; (first | (have hq := b5; clear hq; intro w b6 HX) | (have hq := b4; clear hq; intro w b5 HX) | (have hq := b3; clear hq; intro w b4 HX) | (have hq := b2; clear hq; intro w b3 HX) | (have hq := b; clear hq; intro w b2 HX) | intro w b HX)))
   refine rM (fun W => PlS w0 b #[.pointer (some ⟨p, 0, none⟩), .pointer (some ⟨c2, 0, none⟩), .int .i64 (S.played + 1), .map (some mk)] mk (gs.map KnG.kv) P1 rows W) 11 ?_
   intro KEEPX
   replace HX := Lib.hid HX.out.drew
   have hl := fun V (hV : PlS w0 b #[.pointer (some ⟨p, 0, none⟩), .pointer (some ⟨c2, 0, none⟩), .int .i64 (S.played + 1), .map (some mk)] mk (gs.map KnG.kv) P1 rows V) => hV.l1 (ty := 202) 3 (by kernel_rfl) rfl
   have hcv := fun V (hV : PlS w0 b #[.pointer (some ⟨p, 0, none⟩), .pointer (some ⟨c2, 0, none⟩), .int .i64 (S.played + 1), .map (some mk)] mk (gs.map KnG.kv) P1 rows V) => hV.l2 (HP1.out _ HV.out.1)
   have hkd := fun V (hV : PlS w0 b #[.pointer (some ⟨p, 0, none⟩), .pointer (some ⟨c2, 0, none⟩), .int .i64 (S.played + 1), .map (some mk)] mk (gs.map KnG.kv) P1 rows V) => hV.l3 HL.out.1
   unfold outV at hkd
   dsimp only at hkd
   refine rT [(0, false), (1, false), (2, false), (3, true), (4, false), (5, true), (6, true), (7, false), (8, false), (9, false)] 3 ?_
   apply Exists.intro; refine ⟨?_, ⟨_, HX.out.up3.up6.up3⟩, ?_⟩
   ·iterate 10 (first | refine xE ?_ | ((apply ybx' hcv); (· (simp only [k_i, k_j, k_k]; try rfl)); (· rfl); (· rfl); (· rfl)) | ((apply yir' hkd); (· (simp only [k_i, k_j, k_k]; try rfl)); (· rfl); (· rfl); (· rfl); (· rfl)))
    exact rfl
   clear hl hcv hkd
   refine r1 2 10 fun K hK => ?_
   refine tWA ?_
   clear HX
   intro w b4 HX
   simp only [Act.put, k_a, k_b, k_c]
   refine hK _ _ ⟨_, HX.out.up4.up7.up4⟩ ?_
   clear hK
   refine rL [11, 12] 0 ?_
   simp only [List.filterMap_cons, List.filterMap_nil, k_i, k_j, k_k]
   refine tWS ?_
   clear HX
   intro w HX
   simp only [Act.put, k_a, k_b, k_c, yci', Nat.reduceAdd] at HX ⊢
   go_wp2_with (first | refine u0 ?_ | (refine uS ?_; clear HX; intro w HX) | (refine uA ?_; clear HX; (first | (have hq := b5; clear hq; intro w b6 HX) | (have hq := b4; clear hq; intro w b5 HX) | (have hq := b3; clear hq; intro w b4 HX) | (have hq := b2; clear hq; intro w b3 HX) | (have hq := b; clear hq; intro w b2 HX) | intro w b HX)))
   refine (yg1' HX.out.up4 ⟨gk, gi, ⟨num, zx, er, gat, rs1⟩, e2, at2, rs2, gy⟩ _ _ HL.out.2.2 HL.out.2.1).mono ?_
   rintro e w ⟨y1, y2, P9, rfl, hP9, hin9, hx⟩
   obtain ⟨a5, n5, c5, rfl⟩ := yb1' hx hin9.1
   obtain ⟨a6, n6, c6, rfl⟩ := yb1' hx hin9.2
   replace HX := Lib.hid hx
   clear hx
   have H9 := Lib.hid (show _ ∧ _ from ⟨hP9, hin9⟩)
   clear hP9 hin9
   unfold outV
   dsimp only
   go_wp2_with (first | refine u0 ?_ | (refine uS ?_; clear HX; intro w HX) | (refine uA ?_; clear HX; (first | (have hq := b5; clear hq; intro w b6 HX) | (have hq := b4; clear hq; intro w b5 HX) | (have hq := b3; clear hq; intro w b4 HX) | (have hq := b2; clear hq; intro w b3 HX) | (have hq := b; clear hq; intro w b2 HX) | intro w b HX)))
   refine ybd' HX rfl rfl (by (repeat (first | (with_reducible exact k_s) | (with_reducible apply k_m)))) (by kernel_rfl) ?_
   have h4 := yeo' HX.out.cut1.cut1.cut3.up2 H9.out.1
   exact ⟨_, _, _, rfl, fun q hq => H9.out.1 q (HP1.out q hq), H9.out.2, (yfk' (b := b) (S := { S with played := S.played + 1 }) (p := p) (c := c2) (mk := mk) (gs := gs) (R := yab' w0 P9 :: R) (h4.pm 5 [2, 0, 3, 4, 1] rfl rfl) HG.out.1 (fun g hg => (HG.out.2 g hg).mono (fun q hq => H9.out.1 q (HP1.out q hq)))).up1⟩
  | none =>
   have hn : ∀ g ∈ gs, g.b ≠ l := fun g hg e => by
    unfold ylf' at hlk
    rw [Option.map_eq_none_iff, List.find?_eq_none] at hlk
    exact hlk (g.b, g.o) (by rw [← HG.out.1]; exact List.mem_map.2 ⟨g, hg, rfl⟩) (by simpa using e)
   have HL := Lib.hid (show _ ∧ _ from ⟨hn, hlk⟩)
   clear hn hlk
   go_upto_region 5 with (first | refine u0 ?_ | (refine uS ?_; clear HX; intro w HX) | (refine uA ?_; clear HX; (first | (have hq := b5; clear hq; intro w b6 HX) | (have hq := b4; clear hq; intro w b5 HX) | (have hq := b3; clear hq; intro w b4 HX) | (have hq := b2; clear hq; intro w b3 HX) | (have hq := b; clear hq; intro w b2 HX) | intro w b HX)))
   refine rM (fun W => PlS w0 b #[.pointer (some ⟨p, 0, none⟩), .pointer (some ⟨c2, 0, none⟩), .int .i64 (S.played + 1), .map (some mk)] mk (gs.map KnG.kv) P1 rows W) 11 ?_
   intro KEEPX
   replace HX := Lib.hid HX.out.drew
   have hl := fun V (hV : PlS w0 b #[.pointer (some ⟨p, 0, none⟩), .pointer (some ⟨c2, 0, none⟩), .int .i64 (S.played + 1), .map (some mk)] mk (gs.map KnG.kv) P1 rows V) => hV.l1 (ty := 202) 3 (by kernel_rfl) rfl
   have hcv := fun V (hV : PlS w0 b #[.pointer (some ⟨p, 0, none⟩), .pointer (some ⟨c2, 0, none⟩), .int .i64 (S.played + 1), .map (some mk)] mk (gs.map KnG.kv) P1 rows V) => hV.l2 (HP1.out _ HV.out.1)
   have hkd := fun V (hV : PlS w0 b #[.pointer (some ⟨p, 0, none⟩), .pointer (some ⟨c2, 0, none⟩), .int .i64 (S.played + 1), .map (some mk)] mk (gs.map KnG.kv) P1 rows V) => hV.l4 l HL.out.1
   refine rT [(0, false), (1, false), (2, false), (3, true), (4, false), (5, true), (6, true), (7, false), (8, false), (9, false)] 3 ?_
   apply Exists.intro; refine ⟨?_, ⟨_, HX.out.up3.up6.up3⟩, ?_⟩
   ·iterate 10 (first | refine xE ?_ | ((apply ybx' hcv); (· (simp only [k_i, k_j, k_k]; try rfl)); (· rfl); (· rfl); (· rfl)) | ((apply yir' hkd); (· (simp only [k_i, k_j, k_k]; try rfl)); (· rfl); (· rfl); (· rfl); (· rfl)))
    exact rfl
   clear hl hcv hkd
   refine r1 2 10 fun K hK => ?_
   refine tWA ?_
   clear HX
   intro w b4 HX
   simp only [Act.put, k_a, k_b, k_c]
   refine hK _ _ ⟨_, HX.out.up4.up7.up4⟩ ?_
   clear hK
   refine rL [11, 12] 0 ?_
   simp only [List.filterMap_cons, List.filterMap_nil, k_i, k_j, k_k]
   refine tWS ?_
   clear HX
   intro w HX
   simp only [Act.put, k_a, k_b, k_c, yci', Nat.reduceAdd] at HX ⊢
   go_wp2_with (first | refine u0 ?_ | (refine uS ?_; clear HX; intro w HX) | (refine uA ?_; clear HX; (first | (have hq := b5; clear hq; intro w b6 HX) | (have hq := b4; clear hq; intro w b5 HX) | (have hq := b3; clear hq; intro w b4 HX) | (have hq := b2; clear hq; intro w b3 HX) | (have hq := b; clear hq; intro w b2 HX) | intro w b HX)))
   have hsh := (yfk' (b := b) (S := { S with played := S.played + 1 }) (p := p) (c := c2) (mk := mk) (gs := gs) (P := P1) (HX.out.up7.up7.up5.up5) HG.out.1 (fun g hg => (HG.out.2 g hg).mono HP1.out)).up3
   obtain ⟨⟨⟨gk, gi, ⟨num, zx, er, gat, rs1⟩, e2, at2, rs2, gy⟩, S2⟩, hm1⟩ : ∃ m1, doC { S with played := S.played + 1 } ⟨k0, id, sess, rs, rn, ops, shards, shard, yes⟩ = m1 := ⟨_, rfl⟩
   have hm := yr1' hsh hd HB.out.1.p HB.out.2 ⟨k0, id, sess, rs, rn, ops, shards, shard, yes⟩ _ _ HC.out.2.1 HC.out.2.2 HCO.out.1 HCO.out.2.1 HCO.out.2.2 (HK1.out _ HC.out.1)
   have hdb := yx0' (S := { S with played := S.played + 1 }) HB.out.1.p HB.out.1.c (by have := HB.out.2; omega) ⟨k0, id, sess, rs, rn, ops, shards, shard, yes⟩
   rw [hm1] at hm hdb
   obtain rfl : rr = (⟨gk, gi, ⟨num, zx, er, gat, rs1⟩, e2, at2, rs2, gy⟩, { S2 with known := S.known ++ [(l, ⟨gk, gi, ⟨num, zx, er, gat, rs1⟩, e2, at2, rs2, gy⟩)] }) := by
    rw [← HRR.out]
    unfold yc5'
    rw [HC.out.1]
    dsimp only
    rw [HL.out.2, hm1]
   have HDB := Lib.hid (show _ ∧ _ from ⟨hdb.1, hdb.2.2.2.1⟩)
   refine hm.mono ?_
   clear hm hm1 hdb hsh
   rintro e w ⟨y1, y2, P2, rfl, hP2, hin, hx⟩
   obtain ⟨a1, n1, c1, rfl⟩ := yb1' hx hin.1
   obtain ⟨a2, n2, c3, rfl⟩ := yb1' hx hin.2
   replace HX := Lib.hid hx
   clear hx
   have HP2 := Lib.hid (show _ ∧ _ from ⟨hP2, hin⟩)
   clear hP2 hin
   unfold outV
   dsimp only at HX ⊢
   go_upto_region 9 with (first | refine u0 ?_ | (refine uS ?_; clear HX; intro w HX) | (refine uA ?_; clear HX; (first | (have hq := b5; clear hq; intro w b6 HX) | (have hq := b4; clear hq; intro w b5 HX) | (have hq := b3; clear hq; intro w b4 HX) | (have hq := b2; clear hq; intro w b3 HX) | (have hq := b; clear hq; intro w b2 HX) | intro w b HX)))
   obtain ⟨p3, c4, mk3, gs3, hgs3, hgo3, hS⟩ := yie' HX.out.up2
   have HG3 := Lib.hid (show _ ∧ _ from ⟨hgs3, hgo3⟩)
   clear hgs3 hgo3 HX
   have HX := Lib.hid hS
   clear hS
   refine rM (fun W => PlT w0 b #[.pointer (some ⟨p3, 0, none⟩), .pointer (some ⟨c4, 0, none⟩), .int .i64 S2.played, .map (some mk3)] b5 #[.int .i64 gk, .int .i64 gi, .int .i64 num, .int .i64 zx, .int .i64 er, .int .i64 gat, .slice a1 n1 c1, .int .i64 e2, .int .i64 at2, .slice a2 n2 c3, .bool gy] (1, v, l.map bv) rows W) 9 ?_
   intro KEEPX
   replace HX := Lib.hid HX.out.drew
   have hl := fun V (hV : PlT w0 b #[.pointer (some ⟨p3, 0, none⟩), .pointer (some ⟨c4, 0, none⟩), .int .i64 S2.played, .map (some mk3)] b5 #[.int .i64 gk, .int .i64 gi, .int .i64 num, .int .i64 zx, .int .i64 er, .int .i64 gat, .slice a1 n1 c1, .int .i64 e2, .int .i64 at2, .slice a2 n2 c3, .bool gy] (1, v, l.map bv) rows V) => hV.l1 (ty := 202) 3 (by kernel_rfl) rfl
   have hcv := fun V (hV : PlT w0 b #[.pointer (some ⟨p3, 0, none⟩), .pointer (some ⟨c4, 0, none⟩), .int .i64 S2.played, .map (some mk3)] b5 #[.int .i64 gk, .int .i64 gi, .int .i64 num, .int .i64 zx, .int .i64 er, .int .i64 gat, .slice a1 n1 c1, .int .i64 e2, .int .i64 at2, .slice a2 n2 c3, .bool gy] (1, v, l.map bv) rows V) => hV.l2
   have hl2 := fun V (hV : PlT w0 b #[.pointer (some ⟨p3, 0, none⟩), .pointer (some ⟨c4, 0, none⟩), .int .i64 S2.played, .map (some mk3)] b5 #[.int .i64 gk, .int .i64 gi, .int .i64 num, .int .i64 zx, .int .i64 er, .int .i64 gat, .slice a1 n1 c1, .int .i64 e2, .int .i64 at2, .slice a2 n2 c3, .bool gy] (1, v, l.map bv) rows V) => hV.l3 (by simp)
   simp only [k_d, k_f, k_g, k_h] at hl2
   refine rT [(0, false), (1, false), (2, false), (3, true), (4, false), (5, true), (6, true)] 2 ?_
   apply Exists.intro; refine ⟨?_, ⟨_, _, HP2.out.1 _ (HP1.out _ HV.out.1), HX.out.up5.up5.up2⟩, ?_⟩
   ·iterate 7 (first | refine xE ?_ | ((apply ybx' hcv); (· (simp only [k_i, k_j, k_k]; try rfl)); (· rfl); (· rfl); (· rfl)))
    exact rfl
   clear hl hl2 hcv
   refine r1 1 7 fun K hK => ?_
   go_wp2_with fail
   refine (yg1' HX.out.up5 ⟨gk, gi, ⟨num, zx, er, gat, rs1⟩, e2, at2, rs2, gy⟩ _ _ HP2.out.2 HDB.out.1).mono ?_
   rintro e w ⟨y1, y2, P9, rfl, hP9, hin9, hx⟩
   obtain ⟨a5, n5, c5, rfl⟩ := yb1' hx hin9.1
   obtain ⟨a6, n6, c6, rfl⟩ := yb1' hx hin9.2
   replace HX := Lib.hid hx
   clear hx
   have H9 := Lib.hid (show _ ∧ _ from ⟨hP9, hin9⟩)
   clear hP9 hin9
   unfold outV
   dsimp only
   go_wp2_with fail
   refine hK _ _ ⟨_, _, H9.out.1 _ (HP2.out.1 _ (HP1.out _ HV.out.1)), HX.out.up5.up2⟩ ?_
   clear hK
   obtain ⟨w9, hrun, h9⟩ := Sep.mapAdd (P := Tryz.prog) (key := .string ⟨l.toArray⟩) (v := .agg #[.int .i64 gk, .int .i64 gi, .int .i64 num, .int .i64 zx, .int .i64 er, .int .i64 gat, .slice a5 n5 c5, .int .i64 e2, .int .i64 at2, .slice a6 n6 c6, .bool gy]) HX.out.up4 Tryz.underlying202 Tryz.underlying9 (by first | trivial | rfl | exact ⟨_, rfl⟩) (fun q hq e => by
    obtain ⟨g, hg, rfl⟩ := List.mem_map.1 hq
    have h1 : (g.b, g.o) ∈ S.known := by
     rw [← HDB.out.2, ← HG3.out.1]
     exact List.mem_map.2 ⟨g, hg, rfl⟩
    rw [← HG.out.1] at h1
    obtain ⟨g2, hg2, e2⟩ := List.mem_map.1 h1
    exact HL.out.1 g2 hg2 ((congrArg Prod.fst e2).trans (yii' e)))
   have H9 := Lib.hid (show _ ∧ _ from ⟨h9, H9.out⟩)
   clear h9
   refine r1 0 8 fun K hK => ?_
   go_wp2_with fail
   refine hK _ _ ⟨_, _, H9.out.2.1 _ (HP2.out.1 _ (HP1.out _ HV.out.1)), H9.out.1.up1.up5.up3⟩ ?_
   clear hK
   refine yah' (by kernel_rfl) ?_ _
   replace HX := Lib.hid H9.out.1
   rename World => w
   go_wp2_with (first | refine u0 ?_ | (refine uS ?_; clear HX; intro w HX) | (refine uA ?_; clear HX; (first | (have hq := b5; clear hq; intro w b6 HX) | (have hq := b4; clear hq; intro w b5 HX) | (have hq := b3; clear hq; intro w b4 HX) | (have hq := b2; clear hq; intro w b3 HX) | (have hq := b; clear hq; intro w b2 HX) | intro w b HX)))
   refine ybd' HX rfl rfl (by (repeat (first | (with_reducible exact k_s) | (with_reducible apply k_m)))) (by kernel_rfl) ?_
   obtain ⟨-, hP9, hin9⟩ := H9.out
   have h4 := yeo' HX.out.cut5.cut5.cut5.cut5.up3 hP9
   refine ⟨_, _, _, rfl, fun q hq => hP9 q (HP2.out.1 q (HP1.out q hq)), HP2.out.2.mono hP9, ?_⟩
   refine (yfk' (b := b) (S := { S2 with known := S.known ++ [(l, ⟨gk, gi, ⟨num, zx, er, gat, rs1⟩, e2, at2, rs2, gy⟩)] }) (p := p3) (c := c4) (mk := mk3) (gs := gs3 ++ [⟨l, ⟨gk, gi, ⟨num, zx, er, gat, rs1⟩, e2, at2, rs2, gy⟩, .slice a5 n5 c5, .slice a6 n6 c6⟩]) (P := P9) (R := yab' w0 P9 :: R) ?_ ?_ ?_).up1
   ·rw [List.map_append]
    exact h4.pm 5 [3, 0, 4, 1, 2] rfl rfl
   ·rw [List.map_append, HG3.out.1, HDB.out.2]
    rfl
   ·intro g hg
    rcases List.mem_append.1 hg with hg | hg
    ·exact (HG3.out.2 g hg).mono hP9
    ·rw [List.mem_singleton] at hg
     rw [hg]
     exact hin9
end
end Go.Proofs.YtcnkifbjlihaoaaGreatDoor
