/-
  Texts of this claim, laid together.
-/
import Derived.Test.YtcnkifbjlihaoaaGreatDoorMb2
import Derived.Deep.DeepCutAuto
import Derived.Lib.ItoaWalk
set_option linter.unusedVariables false
set_option linter.unusedSimpArgs false

namespace Go.Av
open Go.RowKit
def atUp (p : Bs) (f : NodeS → NodeS) (l : NoL) : NoL := match yap' p with
 | none => l
 | some up => match yak' up l with
  | none => l
  | some m => setT up (f m) l
def layT (p : Bs) (n : NodeS) (l : NoL) : NoL := atUp p (fun m => addS m (yeu' p)) (insT p n l)
def remT (p : Bs) (l : NoL) : NoL := atUp p (fun m => remS m (yeu' p)) (delT p l)
end Go.Av
namespace Go.Proofs.YtcnkifbjlihaoaaGreatDoor
open Go.RowKit Go.Av
def ynl' (w0 : World) (t : Nat) (S : TreeS) (P : List PRow) (R : List Thing) (rows : List (Value × Bs)) (v : Value) (e : Ending) (w' : World) : Prop :=
 e = .returned v ∧ ∃ P', (∀ r ∈ P, r ∈ P') ∧ Sep w0 w' (yab' w0 P' :: yaq' t S P' :: R) rows
section
variable {w0 w : World} {t : Nat} {S : TreeS} {P P' : List PRow} {R : List Thing} {rows : List (Value × Bs)}
theorem ygc' (h : Sep w0 w (yab' w0 P :: yaq' t S P :: R) rows) : ∃ m, w.cell? ⟨t, 1, none⟩ = some (.map (some m)) ∧ ∀ s : ByteArray, yak' s.data.toList S.l = none → ∀ W : World, W.heap = w.heap → (Instr.lookup 210 (.map (some m)) (.string s) false).run Tryz.prog W = .ok (.pointer none) W := by
 obtain ⟨m, -, h1, h2, -, -⟩ := ydi' (h.perm (List.Perm.swap _ _ _))
 exact ⟨m, h1, h2⟩
set_option maxRecDepth 100000 in
set_option maxHeartbeats 4000000 in
theorem yqo' (h : Sep w0 w (yab' w0 P :: yaq' t S P :: R) rows) (hd : DoorN w0) (s : ByteArray) (hs : s.size ≤ 100000) (n : NodeS) (nv : Value) (hnv : (1, nv, n.names.map sv) ∈ P) (hl : yak' s.data.toList S.l = none) (hok : ∀ e ∈ insT s.data.toList n S.l, NodeOk e.2) :
  Calls Tryz.prog 262 #[.pointer (some ⟨t, 0, none⟩), .string s, n.val nv] w (ynl' w0 t { S with l := layT s.data.toList n S.l } P R rows (.tuple #[])) := by
 have h1 := h.newCell (.cells (n.cells nv) 172 (0, 0))
 obtain ⟨m, w2, hc1, hrun, h2⟩ := yuv' h1 hnv s hl
 obtain ⟨m', hc2, hno⟩ := ygc' h2
 have HL := Lib.hid (show layT s.data.toList n S.l = atUp s.data.toList (fun m => addS m (yeu' s.data.toList)) (insT s.data.toList n S.l) from rfl)
 obtain ⟨L, hL⟩ : ∃ L, insT s.data.toList n S.l = L := ⟨_, rfl⟩
 rw [hL] at h2 hno hok HL
 have HPA := Lib.hid (ydh' s w2 (hd.sep h2).1 (by unfold maxLen; omega))
 have HNA := Lib.hid (fun w hd => ylk' s w hd (by unfold maxLen; omega))
 have H2 := Lib.hid h2
 have HNO := Lib.hid hno
 have HD := Lib.hid hd
 unfold atUp at HL
 obtain ⟨S', hS'⟩ : ∃ S', ({ S with l := layT s.data.toList n S.l } : TreeS) = S' := ⟨_, rfl⟩
 have HS' := Lib.hid hS'
 rw [hS']
 obtain ⟨made, changed, ver, kids, owner, dat, next, names⟩ := n
 unfold NodeS.val NodeS.cells
 unfold NodeS.cells at hc1 hrun
 dsimp only at hc1 hrun ⊢
 clear h h1 hnv hl h2 hno hd hL hS'
 cases hpp : yap' s.data.toList with
 | none =>
  rw [hpp] at HL HPA
  have HE := Lib.hid (show S' = { S with l := L } by rw [← HS'.out, HL.out])
  clear hpp HL HS'
  go_enter Tryz.func262, Tryz.ntmps262
  go_wp2_with fail
  refine HPA.out.mono ?_
  rintro e w3 ⟨rfl, hu3⟩
  have H3 := Lib.hid (H2.out.keep hu3)
  clear hu3
  go_wp2_with fail
  go_end0
  rw [HE.out]
  exact ⟨rfl, P, fun _ h => h, H3.out⟩
 | some up =>
  rw [hpp] at HL HPA
  obtain ⟨us, hus⟩ : ∃ us : ByteArray, us = ⟨up.toArray⟩ := ⟨_, rfl⟩
  have hup : us.data.toList = up := by rw [hus]
  have HPA := Lib.hid (show Calls Tryz.prog _ _ _ (fun e w' => e = .returned (.tuple #[.string us, .bool true]) ∧ _) from by rw [hus]; exact HPA.out)
  have HUP := Lib.hid hup
  have HL := Lib.hid (show _ = (match yak' up L with | none => L | some m => setT up _ L) from HL.out)
  clear hpp hus hup
  go_enter Tryz.func262, Tryz.ntmps262
  go_wp2_with fail
  refine HPA.out.mono ?_
  rintro e w3 ⟨rfl, hu3⟩
  have H3 := Lib.hid (H2.out.keep hu3)
  clear hu3 HPA
  cases hlu : yak' up L with
  | none =>
   have HE := Lib.hid (show S' = { S with l := L } by rw [← HS'.out, HL.out]; simp only [hlu])
   obtain ⟨m3, hm3, hno3⟩ := ygc' H3.out
   have hk := hno3 us (by rw [HUP.out]; exact hlu) w3 rfl
   clear hlu HL HS' hno3
   go_wp2_with fail
   go_end0
   rw [HE.out]
   exact ⟨rfl, P, fun _ h => h, H3.out⟩
  | some k =>
   have HE := Lib.hid (show S' = { S with l := setT up (addS k (yeu' s.data.toList)) L } by rw [← HS'.out, HL.out]; simp only [hlu])
   obtain ⟨x, kv, X, m3, hkv, hSx, ⟨hm3, hlk⟩, back⟩ := yjk' H3.out hlu
   have HOK := Lib.hid (hok _ ((ybj' (ye0' (H3.out.perm (List.Perm.swap _ _ _)))).1 hlu))
   have hk := hlk w3 _ (Upd.refl w3 []) us HUP.out
   have hk' := hlk w3.drew _ (Upd.refl w3 []).drew us HUP.out
   have HB := Lib.hid (show _ ∧ _ ∧ _ from ⟨hkv, hlk, back⟩)
   have HX := Lib.hid hSx.drew
   have HNA2 := Lib.hid (HNA.out w3.drew ((HD.out.sep H3.out).upd ((Upd.refl w3 []).drew)).1)
   clear hlu HL HS' hkv hlk back hSx
   go_wp2_with fail
   refine yan' (fun W => W.cell? ⟨t, 1, none⟩ = some (.map (some m3)) ∧ (Instr.lookup 210 (.map (some m3)) (.string us) false).run Tryz.prog W = .ok (.pointer (some ⟨x, 0, none⟩)) W) 9 (by kernel_rfl) ?_
   refine rT [(0, false), (1, false), (2, false), (3, true), (4, false), (5, true), (6, false)] 2 ?_
   apply Exists.intro; refine ⟨?_, ⟨hm3, hk'⟩, ?_⟩
   ·iterate 7 ((first | (apply ybm'; (· (simp only [k_i, k_j, k_k]; try rfl)); (· rfl)) | ((first | apply yav' | apply yas'); (· (simp only [k_i, k_j, k_k]; try rfl)); (· rfl); (· (intros; go_simp; try with_reducible rfl)))); (· (simp only [Act.put, k_a, k_b, k_c]; try rfl)))
    exact rfl
   refine ybb' (fuel := 1) (i := 7) (by kernel_rfl) (by rfl) (fun K hK => ?_)
   go_wp2_with fail
   refine HNA2.out.mono ?_
   rintro e w4 ⟨rfl, hu4⟩
   have HX4 := Lib.hid (HX.out.keep hu4)
   have hm4 := ya2' hu4 hm3
   have hk4 := HB.out.2.1 w4 _ ((Upd.refl w3 []).drew.trans hu4) us HUP.out
   clear hm3 hk hk' hu4 HNA2 HX
   go_wp2_with fail
   refine hK _ _ ⟨hm4, hk4⟩ ?_
   clear hK
   refine ybb' (fuel := 0) (i := 8) (by kernel_rfl) (by rfl) (fun K hK => ?_)
   go_wp2_with fail
   refine (yv6' HX4.out ⟨(yeu' s.data.toList).toArray⟩ HOK.out HB.out.1).mono ?_
   rintro e w5 ⟨rfl, nv5, P5, hP5, hnv5, hS5⟩
   obtain ⟨h5, hm5, hlk5⟩ := HB.out.2.2 w5 _ nv5 P5 hP5 hnv5 hS5
   have H5 := Lib.hid h5
   have HP5 := Lib.hid hP5
   have hk5 := hlk5 w5 _ (Upd.refl w5 []) us HUP.out
   clear hS5 hnv5 hP5 h5 hlk5 hm4 hk4
   go_wp2_with fail
   refine hK _ _ ⟨hm5, hk5⟩ ?_
   clear hK
   refine yah' (by kernel_rfl) ?_ _
   go_wp2_with fail
   go_end0
   rw [HE.out]
   exact ⟨rfl, P5, HP5.out, H5.out⟩
theorem ysn' (h : Sep w0 w (yab' w0 P :: yaq' t S P :: R) rows) (s : ByteArray) :
  ∃ m w', w.cell? ⟨t, 1, none⟩ = some (.map (some m)) ∧ (∀ ty, (Builtin.delete_ #[210, 9] ty #[.map (some m), .string s]).run Tryz.prog w = .ok (.tuple #[]) w') ∧ Sep w0 w' (yab' w0 P :: yaq' t { S with l := delT s.data.toList S.l } P :: R) rows := by
 cases hl : yak' s.data.toList S.l with
 | some n0 => exact yuu' h s hl
 | none =>
  rw [yk2' hl]
  exact yso' h s hl
set_option maxRecDepth 100000 in
set_option maxHeartbeats 4000000 in
theorem yiw' (h : Sep w0 w (yab' w0 P :: yaq' t S P :: R) rows) (hd : DoorN w0) (s : ByteArray) (hs : s.size ≤ 100000) (hok : ∀ e ∈ S.l, NodeOk e.2) :
  Calls Tryz.prog 157 #[.pointer (some ⟨t, 0, none⟩), .string s] w (ynl' w0 t { S with l := remT s.data.toList S.l } P R rows (.tuple #[])) := by
 obtain ⟨m, w2, hc1, hrun, h2⟩ := ysn' h s
 obtain ⟨m', hc2, hno⟩ := ygc' h2
 have HL := Lib.hid (show remT s.data.toList S.l = atUp s.data.toList (fun m => remS m (yeu' s.data.toList)) (delT s.data.toList S.l) from rfl)
 have hok : ∀ e ∈ delT s.data.toList S.l, NodeOk e.2 := fun e he => hok e (by unfold delT at he; exact (List.mem_filter.1 he).1)
 obtain ⟨L, hL⟩ : ∃ L, delT s.data.toList S.l = L := ⟨_, rfl⟩
 rw [hL] at h2 hno hok HL
 have HPA := Lib.hid (ydh' s w2 (hd.sep h2).1 (by unfold maxLen; omega))
 have HNA := Lib.hid (fun w hd => ylk' s w hd (by unfold maxLen; omega))
 have H2 := Lib.hid h2
 have HNO := Lib.hid hno
 have HD := Lib.hid hd
 unfold atUp at HL
 obtain ⟨S', hS'⟩ : ∃ S', ({ S with l := remT s.data.toList S.l } : TreeS) = S' := ⟨_, rfl⟩
 have HS' := Lib.hid hS'
 rw [hS']
 clear h h2 hno hd hL hS'
 cases hpp : yap' s.data.toList with
 | none =>
  rw [hpp] at HL HPA
  have HE := Lib.hid (show S' = { S with l := L } by rw [← HS'.out, HL.out])
  clear hpp HL HS'
  go_enter Tryz.func157, Tryz.ntmps157
  go_wp2_with fail
  refine HPA.out.mono ?_
  rintro e w3 ⟨rfl, hu3⟩
  have H3 := Lib.hid (H2.out.keep hu3)
  clear hu3
  go_wp2_with fail
  go_end0
  rw [HE.out]
  exact ⟨rfl, P, fun _ h => h, H3.out⟩
 | some up =>
  rw [hpp] at HL HPA
  obtain ⟨us, hus⟩ : ∃ us : ByteArray, us = ⟨up.toArray⟩ := ⟨_, rfl⟩
  have hup : us.data.toList = up := by rw [hus]
  have HPA := Lib.hid (show Calls Tryz.prog _ _ _ (fun e w' => e = .returned (.tuple #[.string us, .bool true]) ∧ _) from by rw [hus]; exact HPA.out)
  have HUP := Lib.hid hup
  have HL := Lib.hid (show _ = (match yak' up L with | none => L | some m => setT up _ L) from HL.out)
  clear hpp hus hup
  go_enter Tryz.func157, Tryz.ntmps157
  go_wp2_with fail
  refine HPA.out.mono ?_
  rintro e w3 ⟨rfl, hu3⟩
  have H3 := Lib.hid (H2.out.keep hu3)
  clear hu3 HPA
  cases hlu : yak' up L with
  | none =>
   have HE := Lib.hid (show S' = { S with l := L } by rw [← HS'.out, HL.out]; simp only [hlu])
   obtain ⟨m3, hm3, hno3⟩ := ygc' H3.out
   have hk := hno3 us (by rw [HUP.out]; exact hlu) w3 rfl
   clear hlu HL HS' hno3
   go_wp2_with fail
   go_end0
   rw [HE.out]
   exact ⟨rfl, P, fun _ h => h, H3.out⟩
  | some k =>
   have HE := Lib.hid (show S' = { S with l := setT up (remS k (yeu' s.data.toList)) L } by rw [← HS'.out, HL.out]; simp only [hlu])
   obtain ⟨x, kv, X, m3, hkv, hSx, ⟨hm3, hlk⟩, back⟩ := yjk' H3.out hlu
   have HOK := Lib.hid (hok _ ((ybj' (ye0' (H3.out.perm (List.Perm.swap _ _ _)))).1 hlu))
   have hk := hlk w3 _ (Upd.refl w3 []) us HUP.out
   have hk' := hlk w3.drew _ (Upd.refl w3 []).drew us HUP.out
   have HB := Lib.hid (show _ ∧ _ ∧ _ from ⟨hkv, hlk, back⟩)
   have HX := Lib.hid hSx.drew
   have HNA2 := Lib.hid (HNA.out w3.drew ((HD.out.sep H3.out).upd ((Upd.refl w3 []).drew)).1)
   clear hlu HL HS' hkv hlk back hSx
   go_wp2_with fail
   refine yan' (fun W => W.cell? ⟨t, 1, none⟩ = some (.map (some m3)) ∧ (Instr.lookup 210 (.map (some m3)) (.string us) false).run Tryz.prog W = .ok (.pointer (some ⟨x, 0, none⟩)) W) 9 (by kernel_rfl) ?_
   refine rT [(0, false), (1, false), (2, false), (3, true), (4, false), (5, true), (6, false)] 2 ?_
   apply Exists.intro; refine ⟨?_, ⟨hm3, hk'⟩, ?_⟩
   ·iterate 7 ((first | (apply ybm'; (· (simp only [k_i, k_j, k_k]; try rfl)); (· rfl)) | ((first | apply yav' | apply yas'); (· (simp only [k_i, k_j, k_k]; try rfl)); (· rfl); (· (intros; go_simp; try with_reducible rfl)))); (· (simp only [Act.put, k_a, k_b, k_c]; try rfl)))
    exact rfl
   refine ybb' (fuel := 1) (i := 7) (by kernel_rfl) (by rfl) (fun K hK => ?_)
   go_wp2_with fail
   refine HNA2.out.mono ?_
   rintro e w4 ⟨rfl, hu4⟩
   have HX4 := Lib.hid (HX.out.keep hu4)
   have hm4 := ya2' hu4 hm3
   have hk4 := HB.out.2.1 w4 _ ((Upd.refl w3 []).drew.trans hu4) us HUP.out
   clear hm3 hk hk' hu4 HNA2 HX
   go_wp2_with fail
   refine hK _ _ ⟨hm4, hk4⟩ ?_
   clear hK
   refine ybb' (fuel := 0) (i := 8) (by kernel_rfl) (by rfl) (fun K hK => ?_)
   go_wp2_with fail
   refine (ypf' HX4.out ⟨(yeu' s.data.toList).toArray⟩ HOK.out HB.out.1).mono ?_
   rintro e w5 ⟨rfl, nv5, P5, hP5, hnv5, hS5⟩
   obtain ⟨h5, hm5, hlk5⟩ := HB.out.2.2 w5 _ nv5 P5 hP5 hnv5 hS5
   have H5 := Lib.hid h5
   have HP5 := Lib.hid hP5
   have hk5 := hlk5 w5 _ (Upd.refl w5 []) us HUP.out
   clear hS5 hnv5 hP5 h5 hlk5 hm4 hk4
   go_wp2_with fail
   refine hK _ _ ⟨hm5, hk5⟩ ?_
   clear hK
   refine yah' (by kernel_rfl) ?_ _
   go_wp2_with fail
   go_end0
   rw [HE.out]
   exact ⟨rfl, P5, HP5.out, H5.out⟩
end
end Go.Proofs.YtcnkifbjlihaoaaGreatDoor

namespace Go.Av
open Go.RowKit
structure StatS where
 made : Int
 changed : Int
 ver : Int
 kids : Int
 owner : Int
 len : Int
 cnt : Int
def NodeS.st (n : NodeS) : StatS := ⟨n.made, n.changed, n.ver, n.kids, n.owner, (n.data.size : Nat), (n.names.length : Nat)⟩
def noSt : StatS := ⟨0, 0, 0, 0, 0, 0, 0⟩
structure ResS where
 err : Int
 path : ByteArray
 data : ByteArray
 names : List Bs
 st : StatS
def ResS.cells (r : ResS) (nv : Value) : Array Value := #[.int .i64 r.err, .string r.path, .string r.data, nv, .int .i64 r.st.made, .int .i64 r.st.changed, .int .i64 r.st.ver, .int .i64 r.st.kids, .int .i64 r.st.owner, .int .i64 r.st.len, .int .i64 r.st.cnt]
def ybt' (e : Int) : ResS := ⟨e, ⟨#[]⟩, ⟨#[]⟩, [], noSt⟩
def ephF (f : Int) : Bool := f == 1 || f == 3
def ymp' (o : OpS) (sess zxid : Int) : NodeS := newS zxid (if ephF o.flags then sess else 0) o.data
def ybq' (S : TreeS) (o : OpS) (sess zxid : Int) : ResS × TreeS :=
 if (yax' S o).1 ≠ 0 then (ybt' (yax' S o).1, S) else
  (⟨0, ⟨(yax' S o).2.toArray⟩, ⟨#[]⟩, [], (ymp' o sess zxid).st⟩, { S with l := layT (yax' S o).2 (ymp' o sess zxid) S.l })
def yff' (o : OpS) (n : NodeS) : Bool := o.ver != -1 && o.ver != n.ver
theorem ywm' {f : Int} (h0 : 0 ≤ f) (h3 : f ≤ 3) : (bits .and .i64 f 1 != 0) = ephF f := by
 rcases (show f = 0 ∨ f = 1 ∨ f = 2 ∨ f = 3 by omega) with rfl | rfl | rfl | rfl <;> decide
theorem yi8' {S : TreeS} {o : OpS} (h : (yax' S o).1 = 0) : yak' (yax' S o).2 S.l = none ∧ (yax' S o).2.length ≤ max 200 o.path.size := by
 have hend : ∀ p, (endT S p).1 = 0 → endT S p = (0, p) ∧ yak' p S.l = none := fun p h => by
  unfold endT at h ⊢
  split at h
  ·cases h
  ·rename_i h1
   split at h
   ·cases h
   ·rename_i h2
    rw [if_neg h1, if_neg h2]
    refine ⟨rfl, ?_⟩
    cases hl : yak' p S.l with
    | none => rfl
    | some _ => rw [hl] at h1; exact absurd rfl h1
 have hsz : o.p.length = o.path.size := by unfold OpS.p; simp
 unfold yax' at h ⊢
 cases hup : yap' o.p with
 | none =>
  simp only [hup] at h ⊢
  obtain ⟨e1, e2⟩ := hend _ h
  rw [e1]
  exact ⟨e2, by show o.p.length ≤ _; omega⟩
 | some up =>
  simp only [hup] at h ⊢
  cases hn : yak' up S.l with
  | none => simp only [hn] at h; exact absurd h (by decide)
  | some n =>
   simp only [hn] at h ⊢
   by_cases how : n.owner ≠ 0
   ·rw [if_pos how] at h; exact absurd h (by decide)
   rw [if_neg how] at h ⊢
   by_cases hsq : seqF o.flags = true
   ·rw [if_pos hsq] at h ⊢
    cases hq : yba' o.p n.next with
    | none => simp only [hq] at h; exact absurd h (by decide)
    | some q =>
     simp only [hq] at h ⊢
     obtain ⟨e1, e2⟩ := hend _ h
     rw [e1]
     exact ⟨e2, by have := ypa' hq; show q.length ≤ _; omega⟩
   ·rw [if_neg hsq] at h ⊢
    obtain ⟨e1, e2⟩ := hend _ h
    rw [e1]
    exact ⟨e2, by show o.p.length ≤ _; omega⟩
end Go.Av
namespace Go.Proofs.YtcnkifbjlihaoaaGreatDoor
open Go.RowKit Go.Av
set_option maxRecDepth 100000 in
theorem ydv' (x : Int) (w : World) : Calls Tryz.prog 213 #[.int .i64 x] w fun e w' => e = .returned (.agg ((ybt' x).cells (.slice none 0 0))) ∧ Upd w w' [] [] := by
 go_enter Tryz.func213, Tryz.ntmps213
 go_wp2_with fail
 refine bodyPost_ret (ycg' rfl _ rfl (heap_alloc_new w _) Tryz.underlying115 (by kernel_rfl)) rfl ?_
 exact ⟨rfl, Upd.alloc0 _ _ _⟩
set_option maxRecDepth 100000 in
theorem ysy' (o : OpS) (x : Nat) (n : NodeS) (nv : Value) (w : World) (h : w.heap[x]? = some (.cells (n.cells nv) 172 (0, 0))) :
  Calls Tryz.prog 263 #[o.val, .pointer (some ⟨x, 0, none⟩)] w fun e w' => e = .returned (.bool (yff' o n)) ∧ Upd w w' [] [] := by
 have hu0 := Upd.alloc0 w (.cells #[.int .i64 o.kind, .string o.path, .string o.data, .int .i64 o.ver, .int .i64 o.flags] 89) []
 obtain ⟨o0, o1, o2, o3, o4⟩ := yfz' w o (Upd.refl (w.alloc (.cells #[.int .i64 o.kind, .string o.path, .string o.data, .int .i64 o.ver, .int .i64 o.flags] 89)) [])
 have n2 := ya2' hu0 (yaa' h 2 (v := .int .i64 n.ver) rfl)
 have HU := Lib.hid hu0
 obtain ⟨kind, path, data, ver, flags⟩ := o
 unfold OpS.val yff'
 dsimp only at o0 o1 o2 o3 o4 n2 HU ⊢
 obtain ⟨z1, h1⟩ : ∃ z, (ver != -1) = z := ⟨_, rfl⟩
 obtain ⟨z2, h2⟩ : ∃ z, (ver != n.ver) = z := ⟨_, rfl⟩
 rw [h1, h2]
 clear h hu0
 obtain ⟨wb, hwb⟩ : ∃ z, z = w.alloc (.cells #[.int .i64 kind, .string path, .string data, .int .i64 ver, .int .i64 flags] 89) := ⟨_, rfl⟩
 rw [← hwb] at o0 o1 o2 o3 o4 n2 HU
 cases z1
 all_goals
  go_enter Tryz.func263, Tryz.ntmps263
  go_wp2_with fail
  rw [← hwb]
  refine yan' (fun W => W.cell? ⟨w.heap.size, 3, none⟩ = some (.int .i64 ver) ∧ W.cell? ⟨x, 2, none⟩ = some (.int .i64 n.ver)) 14 (by kernel_rfl) ?_
  refine rT [(0, false), (1, true), (2, false), (3, false), (4, false), (5, true), (6, false), (7, false), (8, false), (9, false), (10, true), (11, false), (12, false), (13, false)] 0 ?_
  apply Exists.intro; refine ⟨?_, ⟨o3, n2⟩, ?_⟩
  ·iterate 14 ((first | (apply ybm'; (· (simp only [k_i, k_j, k_k]; try rfl)); (· rfl)) | ((first | apply yav' | apply yas'); (· (simp only [k_i, k_j, k_k]; try rfl)); (· rfl); (· (intros; go_simp; try with_reducible rfl)))); (· (simp only [Act.put, k_a, k_b, k_c]; try rfl)))
   exact rfl
  refine yah' (by kernel_rfl) ?_ _
  go_wp2_with fail
  go_ret
  exact ⟨rfl, HU.out.drew⟩
end Go.Proofs.YtcnkifbjlihaoaaGreatDoor

namespace Go.Proofs.YtcnkifbjlihaoaaGreatDoor
open Go.RowKit Go.Av
def ygf' (w0 : World) (t : Nat) (S : TreeS) (P : List PRow) (R : List Thing) (rows : List (Value × Bs)) (r : ResS) (e : Ending) (w' : World) : Prop :=
 ∃ nv P', e = .returned (.agg (r.cells nv)) ∧ (∀ q ∈ P, q ∈ P') ∧ (1, nv, r.names.map sv) ∈ P' ∧ Sep w0 w' (yab' w0 P' :: yaq' t S P' :: R) rows
abbrev yem' (o : OpS) : Array Value := #[.int .i64 o.kind, .string o.path, .string o.data, .int .i64 o.ver, .int .i64 o.flags]
section
variable {w0 w : World} {t : Nat} {S : TreeS} {P P' : List PRow} {R : List Thing} {rows : List (Value × Bs)}
theorem ygy' (a b p q : Thing) (R : List Thing) : (a :: b :: p :: q :: R).Perm (p :: q :: a :: b :: R) := (List.perm_append_comm (l₁ := [a, b]) (l₂ := [p, q])).append_right R
set_option maxRecDepth 100000 in
set_option maxHeartbeats 4000000 in
theorem yov' (h : Sep w0 w (yab' w0 P :: yaq' t S P :: R) rows) (hd : DoorN w0) (o : OpS) (hp : o.path.size ≤ 100000) (hdt : o.data.size ≤ 100000) (h0 : 0 ≤ o.flags) (h3 : o.flags ≤ 3) (hok : ∀ e ∈ S.l, NodeOk e.2) (sess zxid : Int) (only : Bool) :
  Calls Tryz.prog 214 #[.pointer (some ⟨t, 0, none⟩), o.val, .int .i64 sess, .int .i64 zxid, .bool only] w (ygf' w0 t (if only then S else (ybq' S o sess zxid).2) P R rows (ybq' S o sess zxid).1) := by
 have hA := ((h.newCell (.cells (yem' o) 89)).newCell (.cells ((ybt' 0).cells (.slice none 0 0)) 115)).perm (ygy' _ _ _ _ _)
 have HPL := Lib.hid (yrf' (hA.perm (List.Perm.swap _ _ _)) (hd.sep h |>.upd ((Upd.alloc0 w _ []).trans (Upd.alloc0 _ _ []))) o hp h0 h3 hok)
 have HA := Lib.hid hA
 have HZ := Lib.hid (fun h => yi8' (S := S) (o := o) h)
 obtain ⟨cr, hcr⟩ : ∃ cr, ybq' S o sess zxid = cr := ⟨_, rfl⟩
 have HCR := Lib.hid hcr
 unfold ybq' at HCR
 rw [hcr]
 obtain ⟨S', hS'⟩ : ∃ S', (if only = true then S else cr.2) = S' := ⟨_, rfl⟩
 have HS' := Lib.hid hS'
 rw [hS']
 clear hS'
 obtain ⟨pl, hpl⟩ : ∃ pl, yax' S o = pl := ⟨_, rfl⟩
 rw [hpl] at HPL HCR HZ
 obtain ⟨pe, pp⟩ := pl
 have hlo : ∀ W, Upd (w.alloc (.cells (yem' o) 89)) W [] [] → OpAt W w.heap.size o := fun W hu => yfz' w o hu
 have HB := Lib.hid (show (w.alloc (.cells (yem' o) 89)).heap.size = w.heap.size + 1 by simp)
 obtain ⟨kind, path, data, ver, flags⟩ := o
 unfold OpS.val
 have heb := ywm' h0 h3
 unfold OpAt at hlo
 unfold yem' ResS.cells ybt' noSt at HA HPL
 unfold yem' at hlo HB
 dsimp only at HA HPL HCR HZ hlo HB hp hdt h0 h3 heb ⊢
 rw [HB.out] at HA
 have HLO := Lib.hid hlo
 clear h hA hcr hpl hlo
 go_enter Tryz.func214, Tryz.ntmps214
 obtain ⟨o0, o1, o2, o3, o4⟩ := HLO.out _ (Upd.alloc0 _ (.cells #[.int .i64 0, .string ⟨#[]⟩, .string ⟨#[]⟩, .slice none 0 0, .int .i64 0, .int .i64 0, .int .i64 0, .int .i64 0, .int .i64 0, .int .i64 0, .int .i64 0] 115) [])
 go_wp2_with fail
 refine HPL.out.mono ?_
 rintro e w1 ⟨rfl, hu1⟩
 have H1 := Lib.hid (HA.out.keep hu1)
 clear HPL HA HLO o0 o1 o2 o3 o4 hu1
 obtain ⟨b6, hb6⟩ : ∃ b6, b6 = w.heap.size := ⟨_, rfl⟩
 obtain ⟨b10, hb10⟩ : ∃ b10, b10 = w.heap.size + 1 := ⟨_, rfl⟩
 rw [← hb10, ← hb6] at H1 ⊢
 clear hb6 hb10 HB
 have e10 := H1.out.block (b := b10) (o := .cells #[.int .i64 0, .string ⟨#[]⟩, .string ⟨#[]⟩, .slice none 0 0, .int .i64 0, .int .i64 0, .int .i64 0, .int .i64 0, .int .i64 0, .int .i64 0, .int .i64 0] 115 (0, 0)) (by simp)
 have e6 := H1.out.block (b := b6) (o := .cells #[.int .i64 kind, .string path, .string data, .int .i64 ver, .int .i64 flags] 89 (0, 0)) (by simp)
 by_cases hpe : pe = 0
 case neg =>
  have hq : (pe != 0) = true := by rw [bne_iff_ne]; exact hpe
  have HC := Lib.hid (show cr = (ybt' pe, S) by rw [← HCR.out, if_pos hpe])
  have HFL := Lib.hid (show Calls Tryz.prog _ _ _ (fun e w' => e = .returned (.agg #[.int .i64 pe, .string ⟨#[]⟩, .string ⟨#[]⟩, .slice none 0 0, .int .i64 0, .int .i64 0, .int .i64 0, .int .i64 0, .int .i64 0, .int .i64 0, .int .i64 0]) ∧ _) from ydv' pe w1)
  clear hpe HCR HZ e10
  go_wp2_with fail
  refine HFL.out.mono ?_
  rintro e w2 ⟨rfl, hu2⟩
  have H2 := Lib.hid ((H1.out.keep hu2).pick 2 rfl rfl)
  clear hu2 HFL e6
  have r0 := yaa' H2.out.blk 0 (v := .int .i64 0) rfl
  have g0 := yae' H2.out.blk 0
  have r1 := yaa' H2.out.blk 1 (v := .string ⟨#[]⟩) rfl
  have g1 := yae' H2.out.blk 1
  have r2 := yaa' H2.out.blk 2 (v := .string ⟨#[]⟩) rfl
  have g2 := yae' H2.out.blk 2
  have r3 := yaa' H2.out.blk 3 (v := .slice none 0 0) rfl
  have g3 := yae' H2.out.blk 3
  have r4 := yaa' H2.out.blk 4 (v := .int .i64 0) rfl
  have g4 := yae' H2.out.blk 4
  have r5 := yaa' H2.out.blk 5 (v := .int .i64 0) rfl
  have g5 := yae' H2.out.blk 5
  have r6 := yaa' H2.out.blk 6 (v := .int .i64 0) rfl
  have g6 := yae' H2.out.blk 6
  have r7 := yaa' H2.out.blk 7 (v := .int .i64 0) rfl
  have g7 := yae' H2.out.blk 7
  have r8 := yaa' H2.out.blk 8 (v := .int .i64 0) rfl
  have g8 := yae' H2.out.blk 8
  have r9 := yaa' H2.out.blk 9 (v := .int .i64 0) rfl
  have g9 := yae' H2.out.blk 9
  have r10 := yaa' H2.out.blk 10 (v := .int .i64 0) rfl
  have g10 := yae' H2.out.blk 10
  have HF := Lib.hid (H2.out.setAll [.int .i64 pe, .string ⟨#[]⟩, .string ⟨#[]⟩, .slice none 0 0, .int .i64 0, .int .i64 0, .int .i64 0, .int .i64 0, .int .i64 0, .int .i64 0, .int .i64 0] rfl)
  go_wp2_with fail
  refine bodyPost_ret (ycg' rfl _ rfl HF.out.blk Tryz.underlying115 (by kernel_rfl)) rfl ?_
  have hS := (HF.out.drop.pick 2 rfl rfl).drop
  rw [← HS'.out, HC.out]
  refine ⟨.slice none 0 0, (1, .slice none 0 0, []) :: P, rfl, fun q hq => k_n _ hq, k_s, ?_⟩
  have h5 := (ybi' ((hS.poolNil 1).perm (List.Perm.swap _ _ _)) (P' := (1, .slice none 0 0, []) :: P) (fun q hq => k_n _ hq)).perm (List.Perm.swap _ _ _)
  cases only <;> exact h5
 case pos =>
  subst hpe
  obtain ⟨hlk, hpl⟩ := HZ.out rfl
  obtain ⟨ps, hps⟩ : ∃ ps : ByteArray, ps = ⟨pp.toArray⟩ := ⟨_, rfl⟩
  have hpp : ps.data.toList = pp := by rw [hps]
  have hpz : ps.size ≤ 100000 := by
   rw [hps]
   show pp.toArray.size ≤ _
   rw [List.size_toArray]
   omega
  have HPV := Lib.hid (show sv pp = .string ps by rw [hps]; rfl)
  have HLK := Lib.hid (show yak' ps.data.toList S.l = none by rw [hpp]; exact hlk)
  have HC := Lib.hid (show cr = (⟨0, ps, ⟨#[]⟩, [], (newS zxid (if ephF flags then sess else 0) data).st⟩, { S with l := layT ps.data.toList (newS zxid (if ephF flags then sess else 0) data) S.l }) by
   rw [← HCR.out, if_neg (by simp), hpp, hps]
   rfl)
  rw [HPV.out]
  have HOK := Lib.hid (show ∀ ow, ∀ e ∈ insT ps.data.toList (newS zxid ow data) S.l, NodeOk e.2 from fun ow e he => by
   rcases List.mem_cons.1 ((ydl' _ _ _).mem_iff.1 he) with rfl | he
   ·exact ⟨by simp [newS], by simp [newS], by simp [newS], by simp [newS, yg5'], by simp [newS], hdt⟩
   ·exact hok e he)
  have HD := Lib.hid hd
  clear hlk hpl hps hpp HCR HZ HPV e10 hok hd
  cases hef : ephF flags
  case' false =>
   rw [hef] at heb HC
   have HC := Lib.hid (show cr = (⟨0, ps, ⟨#[]⟩, [], (newS zxid 0 data).st⟩, { S with l := layT ps.data.toList (newS zxid 0 data) S.l }) from HC.out)
   have HNW := Lib.hid (show Calls Tryz.prog _ _ _ (fun e w' => e = .returned (.agg #[.int .i64 zxid, .int .i64 zxid, .int .i64 0, .int .i64 0, .int .i64 0, .int .i64 (data.size : Nat), .int .i64 (0 : Nat), .string data, .int .i64 0, .slice none 0 0]) ∧ _) from yif' zxid 0 data w1 hdt)
  case' true =>
   rw [hef] at heb HC
   have HC := Lib.hid (show cr = (⟨0, ps, ⟨#[]⟩, [], (newS zxid sess data).st⟩, { S with l := layT ps.data.toList (newS zxid sess data) S.l }) from HC.out)
   have HNW := Lib.hid (show Calls Tryz.prog _ _ _ (fun e w' => e = .returned (.agg #[.int .i64 zxid, .int .i64 zxid, .int .i64 0, .int .i64 0, .int .i64 sess, .int .i64 (data.size : Nat), .int .i64 (0 : Nat), .string data, .int .i64 0, .slice none 0 0]) ∧ _) from yif' zxid sess data w1 hdt)
  case false =>
   have o4 := yaa' e6 4 (v := .int .i64 flags) rfl
   have o2 := yaa' e6 2 (v := .string data) rfl
   clear hef
   go_wp2_with fail
   refine HNW.out.mono ?_
   rintro e w2 ⟨rfl, hu2⟩
   have h3' := (H1.out.keep hu2).newCell (.cells #[.int .i64 zxid, .int .i64 zxid, .int .i64 0, .int .i64 0, .int .i64 0, .int .i64 (data.size : Nat), .int .i64 0, .string data, .int .i64 0, .slice none 0 0] 172)
   have h4' := (ybi' (((h3'.pick 1 rfl rfl).poolNil 1).pick 2 rfl rfl) (P' := (1, .slice none 0 0, []) :: P) (fun q hq => k_n _ hq)).perm (List.Perm.swap _ _ _)
   obtain ⟨b14, hb14⟩ : ∃ b14, b14 = w2.heap.size := ⟨_, rfl⟩
   rw [← hb14] at h4'
   have H4 := Lib.hid h4'
   have HB14 := Lib.hid hb14
   clear hu2 HNW o4 o2 e6 h3' h4' hb14
   cases only with
   | true =>
    have HS2 := Lib.hid (show S = S' from HS'.out)
    obtain ⟨PX, hPX⟩ : ∃ PX, PX = (1, .slice none 0 0, []) :: P := ⟨_, rfl⟩
    have HPX := Lib.hid (show ∀ q ∈ P, q ∈ PX from fun q hq => by rw [hPX]; exact k_n _ hq)
    have HNX := Lib.hid (show (1, .slice none 0 0, []) ∈ PX by rw [hPX]; exact k_s)
    rw [← hPX, HS2.out] at H4
    have HX := H4
    have hb := HB14.out
    clear hPX HB14
    subst hb
    have HNB := HX.out.block (b := w2.heap.size) (o := .cells #[.int .i64 zxid, .int .i64 zxid, .int .i64 0, .int .i64 0, .int .i64 0, .int .i64 (data.size : Nat), .int .i64 0, .string data, .int .i64 0, .slice none 0 0] 172 (0, 0)) (by simp)
    have n0 := yaa' HNB 0 (v := .int .i64 zxid) rfl
    have n1 := yaa' HNB 1 (v := .int .i64 zxid) rfl
    have n2 := yaa' HNB 2 (v := .int .i64 0) rfl
    have n3 := yaa' HNB 3 (v := .int .i64 0) rfl
    have n4 := yaa' HNB 4 (v := .int .i64 0) rfl
    have n5 := yaa' HNB 5 (v := .int .i64 (data.size : Nat)) rfl
    have n6 := yaa' HNB 6 (v := .int .i64 0) rfl
    have HY := Lib.hid (HX.out.pick 3 rfl rfl)
    clear HNB
    have r0 := yaa' HY.out.blk 0 (v := .int .i64 0) rfl
    have g0 := yae' HY.out.blk 0
    have r1 := yaa' HY.out.blk 1 (v := .string ⟨#[]⟩) rfl
    have g1 := yae' HY.out.blk 1
    have r2 := yaa' HY.out.blk 2 (v := .string ⟨#[]⟩) rfl
    have g2 := yae' HY.out.blk 2
    have r3 := yaa' HY.out.blk 3 (v := .slice none 0 0) rfl
    have g3 := yae' HY.out.blk 3
    have r4 := yaa' HY.out.blk 4 (v := .int .i64 0) rfl
    have g4 := yae' HY.out.blk 4
    have r5 := yaa' HY.out.blk 5 (v := .int .i64 0) rfl
    have g5 := yae' HY.out.blk 5
    have r6 := yaa' HY.out.blk 6 (v := .int .i64 0) rfl
    have g6 := yae' HY.out.blk 6
    have r7 := yaa' HY.out.blk 7 (v := .int .i64 0) rfl
    have g7 := yae' HY.out.blk 7
    have r8 := yaa' HY.out.blk 8 (v := .int .i64 0) rfl
    have g8 := yae' HY.out.blk 8
    have r9 := yaa' HY.out.blk 9 (v := .int .i64 0) rfl
    have g9 := yae' HY.out.blk 9
    have r10 := yaa' HY.out.blk 10 (v := .int .i64 0) rfl
    have g10 := yae' HY.out.blk 10
    have HF := Lib.hid (HY.out.setAll [.int .i64 0, .string ps, .string ⟨#[]⟩, .slice none 0 0, .int .i64 zxid, .int .i64 zxid, .int .i64 0, .int .i64 0, .int .i64 0, .int .i64 (data.size : Nat), .int .i64 0] rfl)
    go_wp2_with fail
    refine bodyPost_ret (ycg' rfl _ rfl HF.out.blk Tryz.underlying115 (by kernel_rfl)) rfl ?_
    rw [HC.out]
    exact ⟨.slice none 0 0, PX, rfl, HPX.out, HNX.out, ((HF.out.drop.pick 2 rfl rfl).drop.pick 2 rfl rfl).drop⟩
   | false =>
    have HS2 := Lib.hid (show cr.2 = S' from HS'.out)
    have HLY := Lib.hid (yqo' H4.out HD.out ps hpz (newS zxid 0 data) (.slice none 0 0) k_s HLK.out (HOK.out 0))
    go_wp2_with fail
    refine HLY.out.mono ?_
    rintro e w3 ⟨rfl, PX, hPX, hX⟩
    have HX := Lib.hid hX
    have HPX := Lib.hid (show ∀ q ∈ P, q ∈ PX from fun q hq => hPX q (k_n _ hq))
    have HNX := Lib.hid (show (1, .slice none 0 0, []) ∈ PX from hPX _ k_s)
    have HSE := Lib.hid (show S' = { S with l := layT ps.data.toList (newS zxid 0 data) S.l } by rw [← HS2.out]; exact congrArg Prod.snd HC.out)
    rw [← HSE.out] at HX
    rw [← HB14.out]
    clear hX hPX HLY
    have HNB := HX.out.block (b := b14) (o := .cells #[.int .i64 zxid, .int .i64 zxid, .int .i64 0, .int .i64 0, .int .i64 0, .int .i64 (data.size : Nat), .int .i64 0, .string data, .int .i64 0, .slice none 0 0] 172 (0, 0)) (by simp)
    have n0 := yaa' HNB 0 (v := .int .i64 zxid) rfl
    have n1 := yaa' HNB 1 (v := .int .i64 zxid) rfl
    have n2 := yaa' HNB 2 (v := .int .i64 0) rfl
    have n3 := yaa' HNB 3 (v := .int .i64 0) rfl
    have n4 := yaa' HNB 4 (v := .int .i64 0) rfl
    have n5 := yaa' HNB 5 (v := .int .i64 (data.size : Nat)) rfl
    have n6 := yaa' HNB 6 (v := .int .i64 0) rfl
    have HY := Lib.hid (HX.out.pick 3 rfl rfl)
    clear HNB
    have r0 := yaa' HY.out.blk 0 (v := .int .i64 0) rfl
    have g0 := yae' HY.out.blk 0
    have r1 := yaa' HY.out.blk 1 (v := .string ⟨#[]⟩) rfl
    have g1 := yae' HY.out.blk 1
    have r2 := yaa' HY.out.blk 2 (v := .string ⟨#[]⟩) rfl
    have g2 := yae' HY.out.blk 2
    have r3 := yaa' HY.out.blk 3 (v := .slice none 0 0) rfl
    have g3 := yae' HY.out.blk 3
    have r4 := yaa' HY.out.blk 4 (v := .int .i64 0) rfl
    have g4 := yae' HY.out.blk 4
    have r5 := yaa' HY.out.blk 5 (v := .int .i64 0) rfl
    have g5 := yae' HY.out.blk 5
    have r6 := yaa' HY.out.blk 6 (v := .int .i64 0) rfl
    have g6 := yae' HY.out.blk 6
    have r7 := yaa' HY.out.blk 7 (v := .int .i64 0) rfl
    have g7 := yae' HY.out.blk 7
    have r8 := yaa' HY.out.blk 8 (v := .int .i64 0) rfl
    have g8 := yae' HY.out.blk 8
    have r9 := yaa' HY.out.blk 9 (v := .int .i64 0) rfl
    have g9 := yae' HY.out.blk 9
    have r10 := yaa' HY.out.blk 10 (v := .int .i64 0) rfl
    have g10 := yae' HY.out.blk 10
    have HF := Lib.hid (HY.out.setAll [.int .i64 0, .string ps, .string ⟨#[]⟩, .slice none 0 0, .int .i64 zxid, .int .i64 zxid, .int .i64 0, .int .i64 0, .int .i64 0, .int .i64 (data.size : Nat), .int .i64 0] rfl)
    go_wp2_with fail
    refine bodyPost_ret (ycg' rfl _ rfl HF.out.blk Tryz.underlying115 (by kernel_rfl)) rfl ?_
    rw [HC.out]
    exact ⟨.slice none 0 0, PX, rfl, HPX.out, HNX.out, ((HF.out.drop.pick 2 rfl rfl).drop.pick 2 rfl rfl).drop⟩
  case true =>
   have o4 := yaa' e6 4 (v := .int .i64 flags) rfl
   have o2 := yaa' e6 2 (v := .string data) rfl
   clear hef
   go_wp2_with fail
   refine HNW.out.mono ?_
   rintro e w2 ⟨rfl, hu2⟩
   have h3' := (H1.out.keep hu2).newCell (.cells #[.int .i64 zxid, .int .i64 zxid, .int .i64 0, .int .i64 0, .int .i64 sess, .int .i64 (data.size : Nat), .int .i64 0, .string data, .int .i64 0, .slice none 0 0] 172)
   have h4' := (ybi' (((h3'.pick 1 rfl rfl).poolNil 1).pick 2 rfl rfl) (P' := (1, .slice none 0 0, []) :: P) (fun q hq => k_n _ hq)).perm (List.Perm.swap _ _ _)
   obtain ⟨b14, hb14⟩ : ∃ b14, b14 = w2.heap.size := ⟨_, rfl⟩
   rw [← hb14] at h4'
   have H4 := Lib.hid h4'
   have HB14 := Lib.hid hb14
   clear hu2 HNW o4 o2 e6 h3' h4' hb14
   cases only with
   | true =>
    have HS2 := Lib.hid (show S = S' from HS'.out)
    obtain ⟨PX, hPX⟩ : ∃ PX, PX = (1, .slice none 0 0, []) :: P := ⟨_, rfl⟩
    have HPX := Lib.hid (show ∀ q ∈ P, q ∈ PX from fun q hq => by rw [hPX]; exact k_n _ hq)
    have HNX := Lib.hid (show (1, .slice none 0 0, []) ∈ PX by rw [hPX]; exact k_s)
    rw [← hPX, HS2.out] at H4
    have HX := H4
    have hb := HB14.out
    clear hPX HB14
    subst hb
    have HNB := HX.out.block (b := w2.heap.size) (o := .cells #[.int .i64 zxid, .int .i64 zxid, .int .i64 0, .int .i64 0, .int .i64 sess, .int .i64 (data.size : Nat), .int .i64 0, .string data, .int .i64 0, .slice none 0 0] 172 (0, 0)) (by simp)
    have n0 := yaa' HNB 0 (v := .int .i64 zxid) rfl
    have n1 := yaa' HNB 1 (v := .int .i64 zxid) rfl
    have n2 := yaa' HNB 2 (v := .int .i64 0) rfl
    have n3 := yaa' HNB 3 (v := .int .i64 0) rfl
    have n4 := yaa' HNB 4 (v := .int .i64 sess) rfl
    have n5 := yaa' HNB 5 (v := .int .i64 (data.size : Nat)) rfl
    have n6 := yaa' HNB 6 (v := .int .i64 0) rfl
    have HY := Lib.hid (HX.out.pick 3 rfl rfl)
    clear HNB
    have r0 := yaa' HY.out.blk 0 (v := .int .i64 0) rfl
    have g0 := yae' HY.out.blk 0
    have r1 := yaa' HY.out.blk 1 (v := .string ⟨#[]⟩) rfl
    have g1 := yae' HY.out.blk 1
    have r2 := yaa' HY.out.blk 2 (v := .string ⟨#[]⟩) rfl
    have g2 := yae' HY.out.blk 2
    have r3 := yaa' HY.out.blk 3 (v := .slice none 0 0) rfl
    have g3 := yae' HY.out.blk 3
    have r4 := yaa' HY.out.blk 4 (v := .int .i64 0) rfl
    have g4 := yae' HY.out.blk 4
    have r5 := yaa' HY.out.blk 5 (v := .int .i64 0) rfl
    have g5 := yae' HY.out.blk 5
    have r6 := yaa' HY.out.blk 6 (v := .int .i64 0) rfl
    have g6 := yae' HY.out.blk 6
    have r7 := yaa' HY.out.blk 7 (v := .int .i64 0) rfl
    have g7 := yae' HY.out.blk 7
    have r8 := yaa' HY.out.blk 8 (v := .int .i64 0) rfl
    have g8 := yae' HY.out.blk 8
    have r9 := yaa' HY.out.blk 9 (v := .int .i64 0) rfl
    have g9 := yae' HY.out.blk 9
    have r10 := yaa' HY.out.blk 10 (v := .int .i64 0) rfl
    have g10 := yae' HY.out.blk 10
    have HF := Lib.hid (HY.out.setAll [.int .i64 0, .string ps, .string ⟨#[]⟩, .slice none 0 0, .int .i64 zxid, .int .i64 zxid, .int .i64 0, .int .i64 0, .int .i64 sess, .int .i64 (data.size : Nat), .int .i64 0] rfl)
    go_wp2_with fail
    refine bodyPost_ret (ycg' rfl _ rfl HF.out.blk Tryz.underlying115 (by kernel_rfl)) rfl ?_
    rw [HC.out]
    exact ⟨.slice none 0 0, PX, rfl, HPX.out, HNX.out, ((HF.out.drop.pick 2 rfl rfl).drop.pick 2 rfl rfl).drop⟩
   | false =>
    have HS2 := Lib.hid (show cr.2 = S' from HS'.out)
    have HLY := Lib.hid (yqo' H4.out HD.out ps hpz (newS zxid sess data) (.slice none 0 0) k_s HLK.out (HOK.out sess))
    go_wp2_with fail
    refine HLY.out.mono ?_
    rintro e w3 ⟨rfl, PX, hPX, hX⟩
    have HX := Lib.hid hX
    have HPX := Lib.hid (show ∀ q ∈ P, q ∈ PX from fun q hq => hPX q (k_n _ hq))
    have HNX := Lib.hid (show (1, .slice none 0 0, []) ∈ PX from hPX _ k_s)
    have HSE := Lib.hid (show S' = { S with l := layT ps.data.toList (newS zxid sess data) S.l } by rw [← HS2.out]; exact congrArg Prod.snd HC.out)
    rw [← HSE.out] at HX
    rw [← HB14.out]
    clear hX hPX HLY
    have HNB := HX.out.block (b := b14) (o := .cells #[.int .i64 zxid, .int .i64 zxid, .int .i64 0, .int .i64 0, .int .i64 sess, .int .i64 (data.size : Nat), .int .i64 0, .string data, .int .i64 0, .slice none 0 0] 172 (0, 0)) (by simp)
    have n0 := yaa' HNB 0 (v := .int .i64 zxid) rfl
    have n1 := yaa' HNB 1 (v := .int .i64 zxid) rfl
    have n2 := yaa' HNB 2 (v := .int .i64 0) rfl
    have n3 := yaa' HNB 3 (v := .int .i64 0) rfl
    have n4 := yaa' HNB 4 (v := .int .i64 sess) rfl
    have n5 := yaa' HNB 5 (v := .int .i64 (data.size : Nat)) rfl
    have n6 := yaa' HNB 6 (v := .int .i64 0) rfl
    have HY := Lib.hid (HX.out.pick 3 rfl rfl)
    clear HNB
    have r0 := yaa' HY.out.blk 0 (v := .int .i64 0) rfl
    have g0 := yae' HY.out.blk 0
    have r1 := yaa' HY.out.blk 1 (v := .string ⟨#[]⟩) rfl
    have g1 := yae' HY.out.blk 1
    have r2 := yaa' HY.out.blk 2 (v := .string ⟨#[]⟩) rfl
    have g2 := yae' HY.out.blk 2
    have r3 := yaa' HY.out.blk 3 (v := .slice none 0 0) rfl
    have g3 := yae' HY.out.blk 3
    have r4 := yaa' HY.out.blk 4 (v := .int .i64 0) rfl
    have g4 := yae' HY.out.blk 4
    have r5 := yaa' HY.out.blk 5 (v := .int .i64 0) rfl
    have g5 := yae' HY.out.blk 5
    have r6 := yaa' HY.out.blk 6 (v := .int .i64 0) rfl
    have g6 := yae' HY.out.blk 6
    have r7 := yaa' HY.out.blk 7 (v := .int .i64 0) rfl
    have g7 := yae' HY.out.blk 7
    have r8 := yaa' HY.out.blk 8 (v := .int .i64 0) rfl
    have g8 := yae' HY.out.blk 8
    have r9 := yaa' HY.out.blk 9 (v := .int .i64 0) rfl
    have g9 := yae' HY.out.blk 9
    have r10 := yaa' HY.out.blk 10 (v := .int .i64 0) rfl
    have g10 := yae' HY.out.blk 10
    have HF := Lib.hid (HY.out.setAll [.int .i64 0, .string ps, .string ⟨#[]⟩, .slice none 0 0, .int .i64 zxid, .int .i64 zxid, .int .i64 0, .int .i64 0, .int .i64 sess, .int .i64 (data.size : Nat), .int .i64 0] rfl)
    go_wp2_with fail
    refine bodyPost_ret (ycg' rfl _ rfl HF.out.blk Tryz.underlying115 (by kernel_rfl)) rfl ?_
    rw [HC.out]
    exact ⟨.slice none 0 0, PX, rfl, HPX.out, HNX.out, ((HF.out.drop.pick 2 rfl rfl).drop.pick 2 rfl rfl).drop⟩
end
end Go.Proofs.YtcnkifbjlihaoaaGreatDoor

namespace Go.Av
def yh9' (S : TreeS) (o : OpS) : ResS := match yak' o.p S.l with
 | none => ybt' 4
 | some n => ⟨0, o.path, if o.kind == 5 then n.data else ⟨#[]⟩, if o.kind == 7 then n.names else [], n.st⟩
end Go.Av
namespace Go.Proofs.YtcnkifbjlihaoaaGreatDoor
open Go.RowKit Go.Av
theorem yo8' {W : World} {x : Nat} {n : NodeS} {nv : Value} (hb : W.heap[x]? = some (.cells (n.cells nv) 172 (0, 0))) :
  W.cell? ⟨x, 0, none⟩ = some (.int .i64 n.made) ∧ W.cell? ⟨x, 1, none⟩ = some (.int .i64 n.changed) ∧ W.cell? ⟨x, 2, none⟩ = some (.int .i64 n.ver) ∧ W.cell? ⟨x, 3, none⟩ = some (.int .i64 n.kids) ∧ W.cell? ⟨x, 4, none⟩ = some (.int .i64 n.owner) ∧ W.cell? ⟨x, 5, none⟩ = some (.int .i64 (n.data.size : Nat)) ∧ W.cell? ⟨x, 6, none⟩ = some (.int .i64 (n.names.length : Nat)) ∧ W.cell? ⟨x, 7, none⟩ = some (.string n.data) ∧ W.cell? ⟨x, 8, none⟩ = some (.int .i64 n.next) ∧ W.cell? ⟨x, 9, none⟩ = some nv :=
 ⟨yaa' hb 0 rfl, yaa' hb 1 rfl, yaa' hb 2 rfl, yaa' hb 3 rfl, yaa' hb 4 rfl, yaa' hb 5 rfl, yaa' hb 6 rfl, yaa' hb 7 rfl, yaa' hb 8 rfl, yaa' hb 9 rfl⟩
section
variable {w0 w : World} {t : Nat} {S : TreeS} {P P' : List PRow} {R : List Thing} {rows : List (Value × Bs)}
set_option maxRecDepth 100000 in
set_option maxHeartbeats 4000000 in
theorem yuh' (h : Sep w0 w (yab' w0 P :: yaq' t S P :: R) rows) (o : OpS) (hok : ∀ e ∈ S.l, NodeOk e.2) :
  Calls Tryz.prog 216 #[.pointer (some ⟨t, 0, none⟩), o.val] w (ygf' w0 t S P R rows (yh9' S o)) := by
 have hA := ((h.newCell (.cells (yem' o) 89)).newCell (.cells ((ybt' 0).cells (.slice none 0 0)) 115)).perm (ygy' _ _ _ _ _)
 obtain ⟨m, -, hm1, hnone, hsome, -⟩ := ydi' (hA.perm (List.Perm.swap _ _ _))
 have HB := Lib.hid (show (w.alloc (.cells (yem' o) 89)).heap.size = w.heap.size + 1 by simp)
 obtain ⟨rr, hrr⟩ : ∃ rr, yh9' S o = rr := ⟨_, rfl⟩
 have HR := Lib.hid hrr
 unfold yh9' at HR
 rw [hrr]
 have hno := hnone o.path
 have hso := hsome o.path
 have HRI := Lib.hid (ye0' (hA.perm (List.Perm.swap _ _ _)))
 obtain ⟨kind, path, data, ver, flags⟩ := o
 unfold OpS.val
 unfold OpS.p at HR
 unfold yem' ResS.cells ybt' noSt at hA hm1 hno hso
 unfold yem' at HB
 dsimp only at hA hm1 hno hso HB HR ⊢
 rw [HB.out] at hA
 have HA := Lib.hid hA
 clear h hA hrr hnone hsome
 obtain ⟨wA, hwA⟩ : ∃ wA, wA = (w.alloc (.cells #[.int .i64 kind, .string path, .string data, .int .i64 ver, .int .i64 flags] 89)).alloc (.cells #[.int .i64 0, .string ⟨#[]⟩, .string ⟨#[]⟩, .slice none 0 0, .int .i64 0, .int .i64 0, .int .i64 0, .int .i64 0, .int .i64 0, .int .i64 0, .int .i64 0] 115) := ⟨_, rfl⟩
 rw [← hwA] at HA hm1 hno hso
 have HWA := Lib.hid hwA
 clear hwA
 have e3 := HA.out.block (b := w.heap.size) (o := .cells #[.int .i64 kind, .string path, .string data, .int .i64 ver, .int .i64 flags] 89 (0, 0)) (by simp)
 have o1 := yaa' e3 1 (v := .string path) rfl
 have HE3 := Lib.hid e3
 clear e3
 cases hlk : yak' path.data.toList S.l with
 | none =>
  have hk := hno hlk wA rfl
  have hkd := hno hlk wA.drew rfl
  have HC := Lib.hid (show rr = ybt' 4 by rw [← HR.out, hlk])
  have HFL := Lib.hid (show Calls Tryz.prog _ _ _ (fun e w' => e = .returned (.agg #[.int .i64 4, .string ⟨#[]⟩, .string ⟨#[]⟩, .slice none 0 0, .int .i64 0, .int .i64 0, .int .i64 0, .int .i64 0, .int .i64 0, .int .i64 0, .int .i64 0]) ∧ _) from ydv' 4 wA.drew)
  clear hlk HR hno hso
  go_enter Tryz.func216, Tryz.ntmps216
  go_wp2_with fail
  rw [← HWA.out]
  refine yan' (fun W => W.cell? ⟨t, 1, none⟩ = some (.map (some m)) ∧ W.cell? ⟨w.heap.size, 1, none⟩ = some (.string path) ∧ (Instr.lookup 210 (.map (some m)) (.string path) false).run Tryz.prog W = .ok (.pointer none) W) 8 (by kernel_rfl) ?_
  refine rT [(0, false), (1, false), (2, false), (3, true), (4, false), (5, true), (6, true), (7, false)] 0 ?_
  apply Exists.intro; refine ⟨?_, ⟨hm1, o1, hkd⟩, ?_⟩
  ·iterate 8 ((first | (apply ybm'; (· (simp only [k_i, k_j, k_k]; try rfl)); (· rfl)) | ((first | apply yav' | apply yas'); (· (simp only [k_i, k_j, k_k]; try rfl)); (· rfl); (· (intros; go_simp; try with_reducible rfl)))); (· (simp only [Act.put, k_a, k_b, k_c]; try rfl)))
   exact rfl
  refine yah' (by kernel_rfl) ?_ _
  go_wp2_with fail
  refine HFL.out.mono ?_
  rintro e w2 ⟨rfl, hu2⟩
  have H2 := Lib.hid ((HA.out.drew.keep hu2).pick 2 rfl rfl)
  clear hu2 HFL o1 hm1 hk hkd
  have r0 := yaa' H2.out.blk 0 (v := .int .i64 0) rfl
  have g0 := yae' H2.out.blk 0
  have r1 := yaa' H2.out.blk 1 (v := .string ⟨#[]⟩) rfl
  have g1 := yae' H2.out.blk 1
  have r2 := yaa' H2.out.blk 2 (v := .string ⟨#[]⟩) rfl
  have g2 := yae' H2.out.blk 2
  have r3 := yaa' H2.out.blk 3 (v := .slice none 0 0) rfl
  have g3 := yae' H2.out.blk 3
  have r4 := yaa' H2.out.blk 4 (v := .int .i64 0) rfl
  have g4 := yae' H2.out.blk 4
  have r5 := yaa' H2.out.blk 5 (v := .int .i64 0) rfl
  have g5 := yae' H2.out.blk 5
  have r6 := yaa' H2.out.blk 6 (v := .int .i64 0) rfl
  have g6 := yae' H2.out.blk 6
  have r7 := yaa' H2.out.blk 7 (v := .int .i64 0) rfl
  have g7 := yae' H2.out.blk 7
  have r8 := yaa' H2.out.blk 8 (v := .int .i64 0) rfl
  have g8 := yae' H2.out.blk 8
  have r9 := yaa' H2.out.blk 9 (v := .int .i64 0) rfl
  have g9 := yae' H2.out.blk 9
  have r10 := yaa' H2.out.blk 10 (v := .int .i64 0) rfl
  have g10 := yae' H2.out.blk 10
  have HF := Lib.hid (H2.out.setAll [.int .i64 4, .string ⟨#[]⟩, .string ⟨#[]⟩, .slice none 0 0, .int .i64 0, .int .i64 0, .int .i64 0, .int .i64 0, .int .i64 0, .int .i64 0, .int .i64 0] rfl)
  go_wp2_with fail
  refine bodyPost_ret (ycg' rfl _ rfl HF.out.blk Tryz.underlying115 (by kernel_rfl)) rfl ?_
  have hS := (HF.out.drop.pick 2 rfl rfl).drop
  rw [HC.out]
  exact ⟨.slice none 0 0, (1, .slice none 0 0, []) :: P, rfl, fun q hq => k_n _ hq, k_s, (ybi' ((hS.poolNil 1).perm (List.Perm.swap _ _ _)) (P' := (1, .slice none 0 0, []) :: P) (fun q hq => k_n _ hq)).perm (List.Perm.swap _ _ _)⟩
 | some n =>
  obtain ⟨x, nv, hnv, hb, hk0⟩ := hso n hlk
  have hkd := hk0 wA.drew rfl
  have HNC := Lib.hid (yo8' (W := wA.drew) hb)
  obtain ⟨n0, n1, n2, n3, n4, n5, n6, n7, n8, n9⟩ := HNC.out
  have HC := Lib.hid (show (⟨0, path, if kind == 5 then n.data else ⟨#[]⟩, if kind == 7 then n.names else [], n.st⟩ : ResS) = rr by rw [← HR.out, hlk])
  have HOK := Lib.hid (hok _ ((ybj' HRI.out).1 hlk))
  have HNV := Lib.hid hnv
  have HBN := Lib.hid hb
  clear hlk HR hno hso hk0 hnv hb
  go_enter Tryz.func216, Tryz.ntmps216
  go_wp2_with fail
  rw [← HWA.out]
  refine yan' (fun W => W.cell? ⟨t, 1, none⟩ = some (.map (some m)) ∧ W.cell? ⟨w.heap.size, 1, none⟩ = some (.string path) ∧ (Instr.lookup 210 (.map (some m)) (.string path) false).run Tryz.prog W = .ok (.pointer (some ⟨x, 0, none⟩)) W) 8 (by kernel_rfl) ?_
  refine rT [(0, false), (1, false), (2, false), (3, true), (4, false), (5, true), (6, true), (7, false)] 0 ?_
  apply Exists.intro; refine ⟨?_, ⟨hm1, o1, hkd⟩, ?_⟩
  ·iterate 8 ((first | (apply ybm'; (· (simp only [k_i, k_j, k_k]; try rfl)); (· rfl)) | ((first | apply yav' | apply yas'); (· (simp only [k_i, k_j, k_k]; try rfl)); (· rfl); (· (intros; go_simp; try with_reducible rfl)))); (· (simp only [Act.put, k_a, k_b, k_c]; try rfl)))
   exact rfl
  refine yah' (by kernel_rfl) ?_ _
  go_wp2_with fail
  refine yan' (fun W => W.cell? ⟨w.heap.size, 1, none⟩ = some (.string path) ∧ W.cell? ⟨x, 0, none⟩ = some (.int .i64 n.made) ∧ W.cell? ⟨x, 1, none⟩ = some (.int .i64 n.changed) ∧ W.cell? ⟨x, 2, none⟩ = some (.int .i64 n.ver) ∧ W.cell? ⟨x, 3, none⟩ = some (.int .i64 n.kids) ∧ W.cell? ⟨x, 4, none⟩ = some (.int .i64 n.owner) ∧ W.cell? ⟨x, 5, none⟩ = some (.int .i64 (n.data.size : Nat)) ∧ W.cell? ⟨x, 6, none⟩ = some (.int .i64 (n.names.length : Nat))) 8 (by kernel_rfl) ?_
  refine rT [(0, false), (1, true), (2, false), (3, false), (4, false), (5, true), (6, false)] 2 ?_
  apply Exists.intro; refine ⟨?_, ⟨o1, n0, n1, n2, n3, n4, n5, n6⟩, ?_⟩
  ·iterate 7 ((first | (apply ybm'; (· (simp only [k_i, k_j, k_k]; try rfl)); (· rfl)) | ((first | apply yav' | apply yas'); (· (simp only [k_i, k_j, k_k]; try rfl)); (· rfl); (· (intros; go_simp; try with_reducible rfl)))); (· (simp only [Act.put, k_a, k_b, k_c]; try rfl)))
   exact rfl
  refine ybb' (fuel := 1) (i := 7) (by kernel_rfl) (by rfl) (fun K hK => ?_)    -- alloc
  go_wp2_with fail
  have hu6 := ((Upd.alloc0 wA (.cells #[.int .i64 0, .string ⟨#[]⟩, .string ⟨#[]⟩, .slice none 0 0, .int .i64 0, .int .i64 0, .int .i64 0, .int .i64 0, .int .i64 0, .int .i64 0, .int .i64 0] 115) []).drew).drew
  have h6 := ((HA.out.newCell (.cells #[.int .i64 0, .string ⟨#[]⟩, .string ⟨#[]⟩, .slice none 0 0, .int .i64 0, .int .i64 0, .int .i64 0, .int .i64 0, .int .i64 0, .int .i64 0, .int .i64 0] 115)).drew).drew
  obtain ⟨b6, hb6⟩ : ∃ b6, b6 = wA.heap.size := ⟨_, rfl⟩
  obtain ⟨w6, hw6⟩ : ∃ w6, w6 = ((wA.alloc (.cells #[.int .i64 0, .string ⟨#[]⟩, .string ⟨#[]⟩, .slice none 0 0, .int .i64 0, .int .i64 0, .int .i64 0, .int .i64 0, .int .i64 0, .int .i64 0, .int .i64 0] 115)).drew).drew := ⟨_, rfl⟩
  have HLT := Lib.hid (show x < b6 by rw [hb6]; exact ya6' HBN.out)
  have HLT10 := Lib.hid (show w.heap.size + 1 < b6 by rw [hb6]; exact ya6' (HA.out.block (b := w.heap.size + 1) (o := .cells #[.int .i64 0, .string ⟨#[]⟩, .string ⟨#[]⟩, .slice none 0 0, .int .i64 0, .int .i64 0, .int .i64 0, .int .i64 0, .int .i64 0, .int .i64 0, .int .i64 0] 115 (0, 0)) (by simp)))
  have HSZ := Lib.hid (show b6 < w6.heap.size by rw [hw6, hb6]; show _ < (wA.alloc _).heap.size; simp)
  rw [← hw6] at hu6 h6 ⊢
  rw [← hb6] at h6 ⊢
  refine hK _ _ ⟨ya2' hu6 o1, ya2' hu6 n0, ya2' hu6 n1, ya2' hu6 n2, ya2' hu6 n3, ya2' hu6 n4, ya2' hu6 n5, ya2' hu6 n6⟩ ?_
  clear hK
  have c0 := ya2' hu6 (yaa' HE3.out 0 (v := .int .i64 kind) rfl)
  have c7 := ya2' hu6 n7
  have c9 := ya2' hu6 n9
  have H6 := Lib.hid h6
  clear hw6 hb6 hu6 h6 hkd hm1 o1 n0 n1 n2 n3 n4 n5 n6 n7 n8 n9 HNC HBN
  have r0 := yaa' H6.out.blk 0 (v := .int .i64 0) rfl
  have g0 := yae' H6.out.blk 0
  have r1 := yaa' H6.out.blk 1 (v := .string ⟨#[]⟩) rfl
  have g1 := yae' H6.out.blk 1
  have r2 := yaa' H6.out.blk 2 (v := .string ⟨#[]⟩) rfl
  have g2 := yae' H6.out.blk 2
  have r3 := yaa' H6.out.blk 3 (v := .slice none 0 0) rfl
  have g3 := yae' H6.out.blk 3
  have r4 := yaa' H6.out.blk 4 (v := .int .i64 0) rfl
  have g4 := yae' H6.out.blk 4
  have r5 := yaa' H6.out.blk 5 (v := .int .i64 0) rfl
  have g5 := yae' H6.out.blk 5
  have r6 := yaa' H6.out.blk 6 (v := .int .i64 0) rfl
  have g6 := yae' H6.out.blk 6
  have r7 := yaa' H6.out.blk 7 (v := .int .i64 0) rfl
  have g7 := yae' H6.out.blk 7
  have r8 := yaa' H6.out.blk 8 (v := .int .i64 0) rfl
  have g8 := yae' H6.out.blk 8
  have r9 := yaa' H6.out.blk 9 (v := .int .i64 0) rfl
  have g9 := yae' H6.out.blk 9
  have r10 := yaa' H6.out.blk 10 (v := .int .i64 0) rfl
  have g10 := yae' H6.out.blk 10
  have H7 := Lib.hid (H6.out.setAll [.int .i64 0, .string path, .string ⟨#[]⟩, .slice none 0 0, .int .i64 n.made, .int .i64 n.changed, .int .i64 n.ver, .int .i64 n.kids, .int .i64 n.owner, .int .i64 (n.data.size : Nat), .int .i64 (n.names.length : Nat)] rfl)
  have HU7 := Lib.hid (yb5' w6 b6 0 [.int .i64 0, .string path, .string ⟨#[]⟩, .slice none 0 0, .int .i64 n.made, .int .i64 n.changed, .int .i64 n.ver, .int .i64 n.kids, .int .i64 n.owner, .int .i64 (n.data.size : Nat), .int .i64 (n.names.length : Nat)])
  refine rL [8] 0 ?_
  simp only [List.filterMap_cons, List.filterMap_nil, k_i, k_j, k_k]
  go_upto_region 5 with fail
  go_name_world w7 hw7
  have H7 := Lib.hid (show Sep w0 w7 _ rows from by rw [← hw7]; exact H7.out)
  have HU7 := Lib.hid (show Upd w6 w7 [b6] [b6] from by rw [← hw7]; exact HU7.out)
  have c7 := (World.cell?_of_block (w := w6) (w' := w7) (a := ⟨x, 7, none⟩) (HU7.out.keep x (Nat.lt_trans HLT.out HSZ.out) (by have := HLT.out; simp; omega))).trans c7
  have c9 := (World.cell?_of_block (w := w6) (w' := w7) (a := ⟨x, 9, none⟩) (HU7.out.keep x (Nat.lt_trans HLT.out HSZ.out) (by have := HLT.out; simp; omega))).trans c9
  clear hw7 c0 r0 r1 r2 r3 r4 r5 r6 r7 r8 r9 r10 g0 g1 g2 g3 g4 g5 g6 g7 g8 g9 g10
  have e3 := H7.out.block (b := w.heap.size) (o := .cells #[.int .i64 kind, .string path, .string data, .int .i64 ver, .int .i64 flags] 89 (0, 0)) (by simp)
  have c0 := yaa' e3 0 (v := .int .i64 kind) rfl
  clear e3
  have r0 := yaa' H7.out.blk 0 (v := .int .i64 0) rfl
  have r1 := yaa' H7.out.blk 1 (v := .string path) rfl
  have r2 := yaa' H7.out.blk 2 (v := .string ⟨#[]⟩) rfl
  have r3 := yaa' H7.out.blk 3 (v := .slice none 0 0) rfl
  have r4 := yaa' H7.out.blk 4 (v := .int .i64 n.made) rfl
  have r5 := yaa' H7.out.blk 5 (v := .int .i64 n.changed) rfl
  have r6 := yaa' H7.out.blk 6 (v := .int .i64 n.ver) rfl
  have r7 := yaa' H7.out.blk 7 (v := .int .i64 n.kids) rfl
  have r8 := yaa' H7.out.blk 8 (v := .int .i64 n.owner) rfl
  have r9 := yaa' H7.out.blk 9 (v := .int .i64 (n.data.size : Nat)) rfl
  have r10 := yaa' H7.out.blk 10 (v := .int .i64 (n.names.length : Nat)) rfl
  by_cases hk5 : kind = 5
  ·subst hk5
   have g2 := yae' H7.out.blk 2
   have HX := H7
   have HY := Lib.hid (H7.out.set 2 (.string n.data))
   have HBT := (HX.out.pick 3 rfl rfl).blk
   have hne1 : w.heap.size + 1 ≠ b6 := by have := HLT10.out; omega
   have hne2 : b6 ≠ w.heap.size + 1 := by have := HLT10.out; omega
   have s0 := yaa' HBT 0 (v := .int .i64 0) rfl
   have t0 := yae' HBT 0
   have s1 := yaa' HBT 1 (v := .string ⟨#[]⟩) rfl
   have t1 := yae' HBT 1
   have s2 := yaa' HBT 2 (v := .string ⟨#[]⟩) rfl
   have t2 := yae' HBT 2
   have s3 := yaa' HBT 3 (v := .slice none 0 0) rfl
   have t3 := yae' HBT 3
   have s4 := yaa' HBT 4 (v := .int .i64 0) rfl
   have t4 := yae' HBT 4
   have s5 := yaa' HBT 5 (v := .int .i64 0) rfl
   have t5 := yae' HBT 5
   have s6 := yaa' HBT 6 (v := .int .i64 0) rfl
   have t6 := yae' HBT 6
   have s7 := yaa' HBT 7 (v := .int .i64 0) rfl
   have t7 := yae' HBT 7
   have s8 := yaa' HBT 8 (v := .int .i64 0) rfl
   have t8 := yae' HBT 8
   have s9 := yaa' HBT 9 (v := .int .i64 0) rfl
   have t9 := yae' HBT 9
   have s10 := yaa' HBT 10 (v := .int .i64 0) rfl
   have t10 := yae' HBT 10
   have HF := Lib.hid ((HY.out.pick 3 rfl rfl).setAll [.int .i64 0, .string path, .string n.data, (.slice none 0 0), .int .i64 n.made, .int .i64 n.changed, .int .i64 n.ver, .int .i64 n.kids, .int .i64 n.owner, .int .i64 (n.data.size : Nat), .int .i64 (n.names.length : Nat)] rfl)
   clear HBT
   go_wp2_with fail
   refine bodyPost_ret (ycg' rfl _ rfl HF.out.blk Tryz.underlying115 (by kernel_rfl)) rfl ?_
   have hS := (HF.out.drop.drop.pick 2 rfl rfl).drop
   rw [← HC.out]
   exact ⟨.slice none 0 0, (1, .slice none 0 0, []) :: P, rfl, fun q hq => k_n _ hq, k_s, (ybi' ((hS.poolNil 1).perm (List.Perm.swap _ _ _)) (P' := (1, .slice none 0 0, []) :: P) (fun q hq => k_n _ hq)).perm (List.Perm.swap _ _ _)⟩
  by_cases hk7 : kind = 7
  ·subst hk7
   have HC := Lib.hid (show (⟨0, path, ⟨#[]⟩, n.names, n.st⟩ : ResS) = rr from HC.out)
   obtain ⟨E, hE⟩ := (H7.out.pick 1 rfl rfl).poolGet HNV.out
   obtain ⟨na, nn, nc, rfl, -⟩ := id hE
   have HCL := Lib.hid (yd9' _ n.names E w7 hE (by have := HOK.out.few; omega))
   clear hE
   go_wp2_with fail
   refine HCL.out.mono ?_
   rintro e w8 ⟨v2, D2, rfl, ho2, hu2⟩
   obtain ⟨a2, n2, k2, rfl, -⟩ := id ho2
   have h8 := ((((H7.out.addRow ho2 hu2).pick 2 rfl rfl).perm (List.Perm.swap _ _ _)).poolRow).pick 2 rfl rfl
   have HX := Lib.hid ((ybi' h8 (P' := (1, .slice a2 n2 k2, n.names.map sv) :: P) (fun q hq => k_n _ hq)).perm ((List.Perm.cons _ (List.Perm.swap _ _ _)).trans (List.perm_middle (l₁ := [_, _])).symm))
   clear r0 r1 r2 r3 r4 r5 r6 r7 r8 r9 r10 c0 c7 c9 h8 ho2 hu2 HCL
   have r0 := yaa' HX.out.blk 0 (v := .int .i64 0) rfl
   have r1 := yaa' HX.out.blk 1 (v := .string path) rfl
   have r2 := yaa' HX.out.blk 2 (v := .string ⟨#[]⟩) rfl
   have r3 := yaa' HX.out.blk 3 (v := .slice none 0 0) rfl
   have r4 := yaa' HX.out.blk 4 (v := .int .i64 n.made) rfl
   have r5 := yaa' HX.out.blk 5 (v := .int .i64 n.changed) rfl
   have r6 := yaa' HX.out.blk 6 (v := .int .i64 n.ver) rfl
   have r7 := yaa' HX.out.blk 7 (v := .int .i64 n.kids) rfl
   have r8 := yaa' HX.out.blk 8 (v := .int .i64 n.owner) rfl
   have r9 := yaa' HX.out.blk 9 (v := .int .i64 (n.data.size : Nat)) rfl
   have r10 := yaa' HX.out.blk 10 (v := .int .i64 (n.names.length : Nat)) rfl
   have g3 := yae' HX.out.blk 3
   have HY := Lib.hid (HX.out.set 3 (.slice a2 n2 k2))
   have HBT := (HX.out.pick 3 rfl rfl).blk
   have hne1 : w.heap.size + 1 ≠ b6 := by have := HLT10.out; omega
   have hne2 : b6 ≠ w.heap.size + 1 := by have := HLT10.out; omega
   have s0 := yaa' HBT 0 (v := .int .i64 0) rfl
   have t0 := yae' HBT 0
   have s1 := yaa' HBT 1 (v := .string ⟨#[]⟩) rfl
   have t1 := yae' HBT 1
   have s2 := yaa' HBT 2 (v := .string ⟨#[]⟩) rfl
   have t2 := yae' HBT 2
   have s3 := yaa' HBT 3 (v := .slice none 0 0) rfl
   have t3 := yae' HBT 3
   have s4 := yaa' HBT 4 (v := .int .i64 0) rfl
   have t4 := yae' HBT 4
   have s5 := yaa' HBT 5 (v := .int .i64 0) rfl
   have t5 := yae' HBT 5
   have s6 := yaa' HBT 6 (v := .int .i64 0) rfl
   have t6 := yae' HBT 6
   have s7 := yaa' HBT 7 (v := .int .i64 0) rfl
   have t7 := yae' HBT 7
   have s8 := yaa' HBT 8 (v := .int .i64 0) rfl
   have t8 := yae' HBT 8
   have s9 := yaa' HBT 9 (v := .int .i64 0) rfl
   have t9 := yae' HBT 9
   have s10 := yaa' HBT 10 (v := .int .i64 0) rfl
   have t10 := yae' HBT 10
   have HF := Lib.hid ((HY.out.pick 3 rfl rfl).setAll [.int .i64 0, .string path, .string ⟨#[]⟩, (.slice a2 n2 k2), .int .i64 n.made, .int .i64 n.changed, .int .i64 n.ver, .int .i64 n.kids, .int .i64 n.owner, .int .i64 (n.data.size : Nat), .int .i64 (n.names.length : Nat)] rfl)
   clear HBT
   go_wp2_with fail
   refine bodyPost_ret (ycg' rfl _ rfl HF.out.blk Tryz.underlying115 (by kernel_rfl)) rfl ?_
   have hS := (HF.out.drop.drop.pick 2 rfl rfl).drop
   rw [← HC.out]
   exact ⟨.slice a2 n2 k2, _, rfl, fun q hq => k_n _ hq, k_s, hS⟩
  have q5 : (kind == 5) = false := by rw [beq_eq_false_iff_ne]; exact hk5
  have q7 : (kind == 7) = false := by rw [beq_eq_false_iff_ne]; exact hk7
  have HX := H7
  have HY := H7
  have HC := Lib.hid (show (⟨0, path, ⟨#[]⟩, [], n.st⟩ : ResS) = rr by have := HC.out; rw [q5, q7] at this; exact this)
  have HBT := (HX.out.pick 3 rfl rfl).blk
  have hne1 : w.heap.size + 1 ≠ b6 := by have := HLT10.out; omega
  have hne2 : b6 ≠ w.heap.size + 1 := by have := HLT10.out; omega
  have s0 := yaa' HBT 0 (v := .int .i64 0) rfl
  have t0 := yae' HBT 0
  have s1 := yaa' HBT 1 (v := .string ⟨#[]⟩) rfl
  have t1 := yae' HBT 1
  have s2 := yaa' HBT 2 (v := .string ⟨#[]⟩) rfl
  have t2 := yae' HBT 2
  have s3 := yaa' HBT 3 (v := .slice none 0 0) rfl
  have t3 := yae' HBT 3
  have s4 := yaa' HBT 4 (v := .int .i64 0) rfl
  have t4 := yae' HBT 4
  have s5 := yaa' HBT 5 (v := .int .i64 0) rfl
  have t5 := yae' HBT 5
  have s6 := yaa' HBT 6 (v := .int .i64 0) rfl
  have t6 := yae' HBT 6
  have s7 := yaa' HBT 7 (v := .int .i64 0) rfl
  have t7 := yae' HBT 7
  have s8 := yaa' HBT 8 (v := .int .i64 0) rfl
  have t8 := yae' HBT 8
  have s9 := yaa' HBT 9 (v := .int .i64 0) rfl
  have t9 := yae' HBT 9
  have s10 := yaa' HBT 10 (v := .int .i64 0) rfl
  have t10 := yae' HBT 10
  have HF := Lib.hid ((HY.out.pick 3 rfl rfl).setAll [.int .i64 0, .string path, .string ⟨#[]⟩, (.slice none 0 0), .int .i64 n.made, .int .i64 n.changed, .int .i64 n.ver, .int .i64 n.kids, .int .i64 n.owner, .int .i64 (n.data.size : Nat), .int .i64 (n.names.length : Nat)] rfl)
  clear HBT
  go_wp2_with fail
  refine bodyPost_ret (ycg' rfl _ rfl HF.out.blk Tryz.underlying115 (by kernel_rfl)) rfl ?_
  have hS := (HF.out.drop.drop.pick 2 rfl rfl).drop
  rw [← HC.out]
  exact ⟨.slice none 0 0, (1, .slice none 0 0, []) :: P, rfl, fun q hq => k_n _ hq, k_s, (ybi' ((hS.poolNil 1).perm (List.Perm.swap _ _ _)) (P' := (1, .slice none 0 0, []) :: P) (fun q hq => k_n _ hq)).perm (List.Perm.swap _ _ _)⟩
end
end Go.Proofs.YtcnkifbjlihaoaaGreatDoor

namespace Go.Av
open Go.RowKit
def ThL (N : List Thing) : Thing := Bun (fun L => L = N)
section
variable {w0 w : World} {R N : List Thing} {rows : List (Value × Bs)}
theorem Sep.opensL (h : Sep w0 w (ThL N :: R) rows) : Sep w0 w (N ++ R) rows := by
 obtain ⟨L, hL, h'⟩ := h.opens
 subst hL
 exact h'
theorem Sep.shutL (h : Sep w0 w (N ++ R) rows) : Sep w0 w (ThL N :: R) rows := Sep.shut (O := fun L => L = N) rfl h
end
theorem ye6' (A N R : List Thing) : (A ++ (N ++ R)).Perm (N ++ (A ++ R)) := by
 rw [← List.append_assoc, ← List.append_assoc]
 exact List.perm_append_comm.append_right R
theorem yrz' {p : Bs} {n : NodeS} {l : NoL} (hn : (l.map (·.1)).Nodup) (h : yak' p l = some n) : setT p n l = l := by
 unfold setT
 conv => rhs; rw [← List.map_id l]
 apply List.map_congr_left
 intro e he
 by_cases hp : e.1 = p
 ·rw [if_pos hp]
  have h1 : (p, e.2) ∈ l := by rw [← hp]; exact he
  have h2 := (ybj' hn).2 h1
  rw [h] at h2
  injection h2 with h2
  subst h2
  rfl
 ·rw [if_neg hp]; rfl
end Go.Av
namespace Go.Proofs.YtcnkifbjlihaoaaGreatDoor
open Go.RowKit Go.Av
section
variable {w0 w : World} {t : Nat} {S : TreeS} {P P' : List PRow} {R : List Thing} {rows : List (Value × Bs)}
abbrev ydd' (t m : Nat) (room : Int) : Thing := yac' t (.cells #[.int .i64 room, .map (some m)] 213 (0, 0))
abbrev ymc' (x : Nat) (n : NodeS) (nv : Value) : Thing := yac' x (.cells (n.cells nv) 172 (0, 0))
theorem yxt' (h : Sep w0 w (yaq' t S P :: R) rows) {p : Bs} {n : NodeS} (hl : yak' p S.l = some n) :
  ∃ m x nv kvs N, (1, nv, n.names.map sv) ∈ P ∧ (sv p, Value.pointer (some ⟨x, 0, none⟩)) ∈ kvs ∧ Sep w0 w (ymc' x n nv :: ydd' t m S.room :: yay' .string m kvs :: ThL N :: R) rows ∧
   ∀ w' n' nv' P' R', (∀ r ∈ P, r ∈ P') → (1, nv', n'.names.map sv) ∈ P' → Sep w0 w' (ymc' x n' nv' :: ydd' t m S.room :: yay' .string m kvs :: ThL N :: R') rows → Sep w0 w' (yaq' t { S with l := setT p n' S.l } P' :: R') rows := by
 obtain ⟨L, ⟨m, gs, rfl, h1, h2, h3⟩, hS⟩ := h.opens
 have hm := (ybj' (ya9' h2)).1 hl
 obtain ⟨g, hg, he⟩ := List.mem_map.1 (h1.mem_iff.2 hm)
 obtain ⟨l1, l2, rfl⟩ := List.append_of_mem hg
 obtain ⟨hk1, hk2⟩ := Prod.mk.inj he
 have hk1 : g.key = p := hk1
 have hk2 : g.n = n := hk2
 subst hk1 hk2
 have hnd := yeb' h1 h2
 have e : ∀ (g : NodeG) (R : List Thing), (NodeG.th g :: ydd' t m S.room :: yay' .string m ((l1 ++ g :: l2).map NodeG.kv) :: ((l1 ++ l2).map NodeG.th ++ R)).Perm (trTh t m S.room (l1 ++ g :: l2) ++ R) := fun g R => by
  unfold trTh
  exact (yf0' [ydd' t m S.room, yay' .string m ((l1 ++ g :: l2).map NodeG.kv)] l1 l2 g R).symm
 refine ⟨m, g.blk, g.nv, (l1 ++ g :: l2).map NodeG.kv, (l1 ++ l2).map NodeG.th, h3 g hg, List.mem_map.2 ⟨g, hg, rfl⟩, ?_, fun w' n' nv' P' R' hP hnv hS' => ?_⟩
 ·have h5 := hS.perm (e g R).symm
  exact (Sep.shutL (N := (l1 ++ l2).map NodeG.th) (h5.perm (ye6' [NodeG.th g, ydd' t m S.room, yay' .string m ((l1 ++ g :: l2).map NodeG.kv)] _ R))).perm (List.perm_middle (l₁ := [_, _, _])).symm
 ·refine Sep.shut (O := TrO t { S with l := setT g.key n' S.l } P') (L := trTh t m S.room (l1 ++ ⟨g.blk, g.key, n', nv'⟩ :: l2)) ⟨m, _, rfl, ?_, yf8' h2, fun x hx => ?_⟩ ?_
  ·rw [ym7' (g := g) (g' := ⟨g.blk, g.key, n', nv'⟩) rfl hnd]
   exact h1.map _
  ·rcases List.mem_append.1 hx with hx | hx
   ·exact hP _ (h3 x (by simp [hx]))
   ·rcases List.mem_cons.1 hx with rfl | hx
    ·exact hnv
    ·exact hP _ (h3 x (by simp [hx]))
  ·have h6 := (hS'.perm (List.perm_middle (l₁ := [_, _, _]))).opensL
   have h7 : Sep w0 w' (ymc' g.blk n' nv' :: ydd' t m S.room :: yay' .string m ((l1 ++ g :: l2).map NodeG.kv) :: ((l1 ++ l2).map NodeG.th ++ R')) rows := h6.perm (ye6' [_, _, _] _ R').symm
   have hkv : (l1 ++ (⟨g.blk, g.key, n', nv'⟩ : NodeG) :: l2).map NodeG.kv = (l1 ++ g :: l2).map NodeG.kv := by simp [NodeG.kv]
   have h9 := e ⟨g.blk, g.key, n', nv'⟩ R'
   rw [hkv] at h9
   exact h7.perm h9
theorem yux' (h : Sep w0 w (yaq' t S P :: R) rows) {p : Bs} (hl : yak' p S.l = none) :
  ∃ m kvs N, (∀ e ∈ kvs, e.1 ≠ sv p) ∧ Sep w0 w (ydd' t m S.room :: yay' .string m kvs :: ThL N :: R) rows ∧
   ∀ w' P' R', (∀ r ∈ P, r ∈ P') → Sep w0 w' (ydd' t m S.room :: yay' .string m kvs :: ThL N :: R') rows → Sep w0 w' (yaq' t S P' :: R') rows := by
 obtain ⟨L, ⟨m, gs, rfl, h1, h2, h3⟩, hS⟩ := h.opens
 refine ⟨m, gs.map NodeG.kv, gs.map NodeG.th, fun q hq e => ?_, ?_, fun w' P' R' hP hS' => ?_⟩
 ·obtain ⟨g, hg, rfl⟩ := List.mem_map.1 hq
  exact yde'.1 hl g.ent (h1.mem_iff.1 (List.mem_map_of_mem hg)) (yii' e)
 ·refine (Sep.shutL (N := gs.map NodeG.th) (R := ydd' t m S.room :: yay' .string m (gs.map NodeG.kv) :: R) (hS.perm ?_)).perm (List.perm_middle (l₁ := [_, _])).symm
  exact ye6' [_, _] _ R
 ·refine Sep.shut (O := TrO t S P') (L := trTh t m S.room gs) ⟨m, gs, rfl, h1, h2, fun g hg => hP _ (h3 g hg)⟩ ?_
  have h6 := (hS'.perm (List.perm_middle (l₁ := [_, _]))).opensL
  exact h6.perm (ye6' [_, _] _ R').symm
theorem ytx' {Ts : List Thing} {m x : Nat} {kvs : List (Value × Value)} (H : Hid (Sep w0 w Ts rows)) (s : ByteArray) (hm : yay' .string m kvs ∈ Ts) (hk : (sv s.data.toList, Value.pointer (some ⟨x, 0, none⟩)) ∈ kvs) :
  (Instr.lookup 210 (.map (some m)) (.string s) false).run Tryz.prog w = .ok (.pointer (some ⟨x, 0, none⟩)) w := by
 obtain ⟨E, hM, -⟩ := H.out.has hm
 exact yh3' hM Tryz.underlying210 Tryz.underlying9 (key := .string s) trivial hk false
theorem yqu' {Ts : List Thing} {m : Nat} {kvs : List (Value × Value)} (H : Hid (Sep w0 w Ts rows)) (s : ByteArray) (hm : yay' .string m kvs ∈ Ts) (hk : ∀ e ∈ kvs, e.1 ≠ sv s.data.toList) :
  (Instr.lookup 210 (.map (some m)) (.string s) false).run Tryz.prog w = .ok (.pointer none) w := by
 obtain ⟨E, hM, -⟩ := H.out.has hm
 exact yhd' hM Tryz.underlying210 Tryz.underlying9 (key := .string s) trivial hk (yol' _) false
end
end Go.Proofs.YtcnkifbjlihaoaaGreatDoor

namespace Go.Av
def ybo' (S : TreeS) (o : OpS) (zxid : Int) : ResS × TreeS := match yak' o.p S.l with
 | none => (ybt' 4, S)
 | some n =>
  if yff' o n = true then (ybt' 6, S)
  else if o.kind = 2 ∧ 0 < n.names.length then (ybt' 7, S)
  else if o.kind = 2 then (⟨0, o.path, ⟨#[]⟩, [], noSt⟩, { S with l := remT o.p S.l })
  else if o.kind = 3 then (⟨0, o.path, ⟨#[]⟩, [], (ycr' n zxid o.data).st⟩, { S with l := setT o.p (ycr' n zxid o.data) S.l })
  else (⟨0, o.path, ⟨#[]⟩, [], noSt⟩, S)
end Go.Av
namespace Go.Proofs.YtcnkifbjlihaoaaGreatDoor
open Go.RowKit Go.Av
section
variable {w0 w : World} {t : Nat} {S : TreeS} {P P' : List PRow} {R : List Thing} {rows : List (Value × Bs)}
theorem ydq' {S' : TreeS} {r : ResS} (hr : r.names = []) (h : Sep w0 w (yab' w0 P :: yaq' t S' P :: R) rows) : ygf' w0 t S' P R rows r (.returned (.agg (r.cells (.slice none 0 0)))) w :=
 ⟨.slice none 0 0, (1, .slice none 0 0, []) :: P, rfl, fun q hq => k_n _ hq, by rw [hr]; exact k_s, (ybi' ((h.poolNil 1).perm (List.Perm.swap _ _ _)) (P' := (1, .slice none 0 0, []) :: P) (fun q hq => k_n _ hq)).perm (List.Perm.swap _ _ _)⟩
set_option maxRecDepth 100000 in
set_option maxHeartbeats 4000000 in
theorem ygg' (h : Sep w0 w (yab' w0 P :: yaq' t S P :: R) rows) (hd : DoorN w0) (o : OpS) (hp : o.path.size ≤ 100000) (hdt : o.data.size ≤ 100000) (zxid : Int) (only : Bool) (hok : ∀ e ∈ S.l, NodeOk e.2) :
  Calls Tryz.prog 215 #[.pointer (some ⟨t, 0, none⟩), o.val, .int .i64 zxid, .bool only] w (ygf' w0 t (if only then S else (ybo' S o zxid).2) P R rows (ybo' S o zxid).1) := by
 have HND := Lib.hid (ye0' (h.perm (List.Perm.swap _ _ _)))
 obtain ⟨kind, path, data, ver, flags⟩ := o
 unfold OpS.val
 dsimp only at hp hdt ⊢
 have hsw : Sep w0 w (yaq' t S P :: yab' w0 P :: R) rows := h.perm (List.Perm.swap _ _ _)
 obtain ⟨rr, hrr⟩ : ∃ rr, ybo' S ⟨kind, path, data, ver, flags⟩ zxid = rr := ⟨_, rfl⟩
 rw [hrr]
 obtain ⟨S', hS'⟩ : ∃ S', (if only = true then S else rr.2) = S' := ⟨_, rfl⟩
 rw [hS']
 have HS' := Lib.hid hS'
 clear hS' h
 cases hlk : yak' path.data.toList S.l with
 | none =>
  have HE := Lib.hid (show rr = (ybt' 4, S) by rw [← hrr]; unfold ybo' OpS.p; simp only [hlk])
  obtain ⟨m, kvs, N, hk, hS, back⟩ := yux' hsw hlk
  have HX := Lib.hid hS
  have HB := Lib.hid back
  have HK := Lib.hid hk
  clear hk hS back hlk hsw hrr
  go_enter Tryz.func215, Tryz.ntmps215
  go_wp2_with (first | refine v1 ?_ | (refine vS ?_; clear HX; intro w HX) | (refine vA ?_; clear HX; (first | (have hq := b; clear hq; intro w b2 HX) | intro w b HX)))
  refine yan' (fun W => W = w.drew) 8 (by kernel_rfl) ?_
  replace HX := Lib.hid HX.out.drew
  generalize w.drew = w at HX ⊢
  have hkd := yqu' HX path (by (repeat (first | (with_reducible exact k_s) | (with_reducible apply k_m)))) HK.out
  refine rT [(0, false), (1, false), (2, false), (3, true), (4, false), (5, true), (6, true), (7, false)] 0 ?_
  apply Exists.intro; refine ⟨?_, rfl, ?_⟩
  ·iterate 8 (refine yD ?_)
   exact rfl
  refine yah' (by kernel_rfl) ?_ _
  clear hkd
  go_wp2_with (first | refine v1 ?_ | (refine vS ?_; clear HX; intro w HX) | (refine vA ?_; clear HX; (first | (have hq := b; clear hq; intro w b2 HX) | intro w b HX)))
  refine (ydv' _ _).mono ?_
  rintro e w ⟨rfl, hu⟩
  replace HX := Lib.hid (HX.out.keep hu)
  clear hu
  simp only [ResS.cells, ybt', noSt]
  go_wp2_with (first | refine v1 ?_ | (refine vS ?_; clear HX; intro w HX) | (refine vA ?_; clear HX; (first | (have hq := b; clear hq; intro w b2 HX) | intro w b HX)))
  refine ybd' HX rfl rfl (by (repeat (first | (with_reducible exact k_s) | (with_reducible apply k_m)))) (by kernel_rfl) ?_
  have h9 := (HB.out _ P _ (fun _ h => h) (HX.out.drop.drop)).perm (List.Perm.swap _ _ _)
  rw [← HS'.out, HE.out]
  refine ydq' rfl ?_
  cases only <;> exact h9
 | some n =>
  have HRX := Lib.hid (show (if yff' ⟨kind, path, data, ver, flags⟩ n = true then (ybt' 6, S)
   else if kind = 2 ∧ 0 < n.names.length then (ybt' 7, S)
   else if kind = 2 then (⟨0, path, ⟨#[]⟩, [], noSt⟩, { S with l := remT path.data.toList S.l })
   else if kind = 3 then (⟨0, path, ⟨#[]⟩, [], (ycr' n zxid data).st⟩, { S with l := setT path.data.toList (ycr' n zxid data) S.l })
   else (⟨0, path, ⟨#[]⟩, [], noSt⟩, S)) = rr by rw [← hrr]; unfold ybo' OpS.p; simp only [hlk])
  obtain ⟨m, x, nv, kvs, N, hnv, hk, hS, back⟩ := yxt' hsw hlk
  have HB := Lib.hid (show ∀ w' P' R', (∀ r ∈ P, r ∈ P') → Sep w0 w' (ymc' x n nv :: ydd' t m S.room :: yay' .string m kvs :: ThL N :: R') rows → Sep w0 w' (yaq' t S P' :: R') rows from fun w' P' R' hP hh => by
   have := back w' n nv P' R' hP (hP _ hnv) hh
   rw [yrz' HND.out hlk] at this
   exact this)
  obtain ⟨E, hE⟩ := (hS.pick 4 rfl rfl).poolGet hnv
  obtain ⟨na, nn, nc, rfl, hnn, -⟩ := id hE
  rw [List.length_map, Nat.mul_one] at hnn
  subst hnn
  have HX := Lib.hid hS
  have HK := Lib.hid hk
  have HNV := Lib.hid hnv
  have HLK := Lib.hid hlk
  have HOK := Lib.hid (hok _ ((ybj' HND.out).1 hlk))
  obtain ⟨wr, hwr⟩ : ∃ z, yff' ⟨kind, path, data, ver, flags⟩ n = z := ⟨_, rfl⟩
  rw [hwr] at HRX
  have HWR := Lib.hid hwr
  clear hk hS back hlk hsw hrr hnv hE hwr
  go_enter Tryz.func215, Tryz.ntmps215
  go_wp2_with (first | refine v1 ?_ | (refine vS ?_; clear HX; intro w HX) | (refine vA ?_; clear HX; (first | (have hq := b; clear hq; intro w b2 HX) | intro w b HX)))
  refine yan' (fun W => W = w.drew) 8 (by kernel_rfl) ?_
  replace HX := Lib.hid HX.out.drew
  generalize w.drew = w at HX ⊢
  have hkd := ytx' HX path (by (repeat (first | (with_reducible exact k_s) | (with_reducible apply k_m)))) HK.out
  refine rT [(0, false), (1, false), (2, false), (3, true), (4, false), (5, true), (6, true), (7, false)] 0 ?_
  apply Exists.intro; refine ⟨?_, rfl, ?_⟩
  ·iterate 8 (refine yD ?_)
   exact rfl
  refine yah' (by kernel_rfl) ?_ _
  clear hkd
  go_wp2_with (first | refine v1 ?_ | (refine vS ?_; clear HX; intro w HX) | (refine vA ?_; clear HX; (first | (have hq := b; clear hq; intro w b2 HX) | intro w b HX)))
  refine (ysy' ⟨kind, path, data, ver, flags⟩ x n _ _ (HX.out.block (by (repeat (first | (with_reducible exact k_s) | (with_reducible apply k_m)))))).mono ?_
  rintro e w ⟨rfl, hu⟩
  rw [HWR.out]
  replace HX := Lib.hid (HX.out.keep hu)
  clear hu
  cases wr with
  | true =>
   have HE := Lib.hid (show rr = (ybt' 6, S) from HRX.out.symm)
   go_wp2_with (first | refine v1 ?_ | (refine vS ?_; clear HX; intro w HX) | (refine vA ?_; clear HX; (first | (have hq := b; clear hq; intro w b2 HX) | intro w b HX)))
   refine (ydv' _ _).mono ?_
   rintro e w ⟨rfl, hu⟩
   replace HX := Lib.hid (HX.out.keep hu)
   clear hu
   simp only [ResS.cells, ybt', noSt]
   go_wp2_with (first | refine v1 ?_ | (refine vS ?_; clear HX; intro w HX) | (refine vA ?_; clear HX; (first | (have hq := b; clear hq; intro w b2 HX) | intro w b HX)))
   refine ybd' HX rfl rfl (by (repeat (first | (with_reducible exact k_s) | (with_reducible apply k_m)))) (by kernel_rfl) ?_
   have h9 := (HB.out _ P _ (fun _ h => h) (HX.out.drop.drop)).perm (List.Perm.swap _ _ _)
   rw [← HS'.out, HE.out]
   refine ydq' rfl ?_
   cases only <;> exact h9
  | false =>
   have HRY := Lib.hid (show (if kind = 2 ∧ 0 < n.names.length then (ybt' 7, S)
    else if kind = 2 then (⟨0, path, ⟨#[]⟩, [], noSt⟩, { S with l := remT path.data.toList S.l })
    else if kind = 3 then (⟨0, path, ⟨#[]⟩, [], (ycr' n zxid data).st⟩, { S with l := setT path.data.toList (ycr' n zxid data) S.l })
    else (⟨0, path, ⟨#[]⟩, [], noSt⟩, S)) = rr from HRX.out)
   clear HRX
   by_cases hk2 : kind = 2
   ·subst hk2
    by_cases hl7 : 0 < n.names.length
    ·have HE := Lib.hid (show rr = (ybt' 7, S) by rw [← HRY.out, if_pos ⟨rfl, hl7⟩])
     have q7 : decide (0 < ((n.names.length : Nat) : Int)) = true := decide_eq_true (by omega)
     have q7' : decide (0 < n.names.length) = true := decide_eq_true hl7
     clear HRY hl7
     go_wp2_with (first | refine v1 ?_ | (refine vS ?_; clear HX; intro w HX) | (refine vA ?_; clear HX; (first | (have hq := b; clear hq; intro w b2 HX) | intro w b HX)))
     refine (ydv' _ _).mono ?_
     rintro e w ⟨rfl, hu⟩
     replace HX := Lib.hid (HX.out.keep hu)
     clear hu
     simp only [ResS.cells, ybt', noSt]
     go_wp2_with (first | refine v1 ?_ | (refine vS ?_; clear HX; intro w HX) | (refine vA ?_; clear HX; (first | (have hq := b; clear hq; intro w b2 HX) | intro w b HX)))
     refine ybd' HX rfl rfl (by (repeat (first | (with_reducible exact k_s) | (with_reducible apply k_m)))) (by kernel_rfl) ?_
     have h9 := (HB.out _ P _ (fun _ h => h) (HX.out.drop.drop)).perm (List.Perm.swap _ _ _)
     rw [← HS'.out, HE.out]
     refine ydq' rfl ?_
     cases only <;> exact h9
    ·have HE := Lib.hid (show rr = (⟨0, path, ⟨#[]⟩, [], noSt⟩, { S with l := remT path.data.toList S.l }) by rw [← HRY.out, if_neg (fun h => hl7 h.2), if_pos rfl])
     have q7 : decide (0 < ((n.names.length : Nat) : Int)) = false := decide_eq_false (by omega)
     have q7' : decide (0 < n.names.length) = false := decide_eq_false hl7
     clear HRY hl7
     cases only with
     | true =>
      go_wp2_with (first | refine v1 ?_ | (refine vS ?_; clear HX; intro w HX) | (refine vA ?_; clear HX; (first | (have hq := b; clear hq; intro w b2 HX) | intro w b HX)))
      refine ybd' HX rfl rfl (by (repeat (first | (with_reducible exact k_s) | (with_reducible apply k_m)))) (by kernel_rfl) ?_
      have h9 := (HB.out _ P _ (fun _ h => h) (HX.out.drop.drop.drop)).perm (List.Perm.swap _ _ _)
      rw [← HS'.out, HE.out]
      exact ydq' (r := ⟨0, path, ⟨#[]⟩, [], noSt⟩) rfl h9
     | false =>
      go_wp2_with (first | refine v1 ?_ | (refine vS ?_; clear HX; intro w HX) | (refine vA ?_; clear HX; (first | (have hq := b; clear hq; intro w b2 HX) | intro w b HX)))
      have h8 := HB.out _ P _ (fun _ h => h) HX.out.back3x
      have h9 := Sep.up4 h8
      clear h8
      refine (yiw' h9 hd path hp hok).mono ?_
      rintro e w ⟨rfl, P', hP', h8⟩
      clear HX h9
      have HX := Lib.hid h8
      clear h8
      go_wp2_with (first | refine v1 ?_ | (refine vS ?_; clear HX; intro w HX) | (refine vA ?_; clear HX; (first | (have hq := b; clear hq; intro w b2 HX) | intro w b HX)))
      refine ybd' HX rfl rfl (by (repeat (first | (with_reducible exact k_s) | (with_reducible apply k_m)))) (by kernel_rfl) ?_
      have h9 := HX.out.cut2.cut2.cut2
      rw [← HS'.out, HE.out]
      obtain ⟨nv', P9, h1, h2, h3, h4⟩ := ydq' (r := ⟨0, path, ⟨#[]⟩, [], noSt⟩) rfl h9
      exact ⟨nv', P9, h1, fun r hr => h2 r (hP' r hr), h3, h4⟩
   have HRZ := Lib.hid (show (if kind = 3 then (⟨0, path, ⟨#[]⟩, [], (ycr' n zxid data).st⟩, { S with l := setT path.data.toList (ycr' n zxid data) S.l })
    else (⟨0, path, ⟨#[]⟩, [], noSt⟩, S) : ResS × TreeS) = rr by have := HRY.out; rw [if_neg (fun h => hk2 h.1), if_neg hk2] at this; exact this)
   have q2 : (kind == 2) = false := by rw [beq_eq_false_iff_ne]; exact hk2
   clear HRY hk2
   by_cases hk3 : kind = 3
   ·subst hk3
    have HE := Lib.hid (show rr = (⟨0, path, ⟨#[]⟩, [], (ycr' n zxid data).st⟩, { S with l := setT path.data.toList (ycr' n zxid data) S.l }) by rw [← HRZ.out, if_pos rfl])
    clear HRZ
    go_wp2_with (first | refine v1 ?_ | (refine vS ?_; clear HX; intro w HX) | (refine vA ?_; clear HX; (first | (have hq := b; clear hq; intro w b2 HX) | intro w b HX)))
    obtain ⟨E, hE⟩ := (HX.out.pick 7 rfl rfl).poolGet HNV.out
    refine (yix' n _ w E hE (by have := HOK.out.few; omega)).mono ?_
    rintro e w ⟨v2, D2, rfl, ho2, hu2⟩
    obtain ⟨a2, n2, k2, rfl, -⟩ := id ho2
    replace HX := Lib.hid (HX.out.addRow ho2 hu2)
    clear ho2 hu2 hE
    simp only [NodeS.val, NodeS.cells]
    go_wp2_with (first | refine v1 ?_ | (refine vS ?_; clear HX; intro w HX) | (refine vA ?_; clear HX; (first | (have hq := b; clear hq; intro w b2 HX) | intro w b HX)))
    refine (ysx' (n := n) (nv := .slice a2 n2 k2) HX.out zxid data HOK.out.ver.1 hdt).mono ?_
    rintro e w ⟨rfl, hx9⟩
    replace HX := Lib.hid hx9
    clear hx9
    cases only with
    | true =>
     go_wp2_with (first | refine v1 ?_ | (refine vS ?_; clear HX; intro w HX) | (refine vA ?_; clear HX; (first | (have hq := b; clear hq; intro w b2 HX) | intro w b HX)))
     refine ybd' HX rfl rfl (by (repeat (first | (with_reducible exact k_s) | (with_reducible apply k_m)))) (by kernel_rfl) ?_
     have h8 := HB.out _ P _ (fun _ h => h) HX.out.back5x
     have h9 := Sep.up1 h8.cut1.cut1.cut1.cut1.cut1
     rw [← HS'.out, HE.out]
     exact ydq' (r := ⟨0, path, ⟨#[]⟩, [], (ycr' n zxid data).st⟩) rfl h9
    | false =>
     have h8 := (HB.out _ P _ (fun _ h => h) HX.out.back5x)
     have h9 := (Sep.up6 (Sep.up2 h8)).perm (List.Perm.swap _ _ _)
     have h10 := (ybi' (Sep.up1 h9.poolRow) (P' := (1, .slice a2 n2 k2, n.names.map sv) :: P) (fun q hq => k_n _ hq)).up1.up2
     replace HX := Lib.hid h10
     clear h8 h9 h10
     go_wp2_with (first | refine v1 ?_ | (refine vS ?_; clear HX; intro w HX) | (refine vA ?_; clear HX; (first | (have hq := b; clear hq; intro w b2 HX) | intro w b HX)))
     refine yan' (fun W => W = w.drew) 6 (by kernel_rfl) ?_
     replace HX := Lib.hid HX.out.drew
     generalize w.drew = w at HX ⊢
     obtain ⟨m9, w9, hc9, hrun9, h9⟩ := yuy' HX.out k_s path HLK.out
     refine rT [(0, false), (1, false), (2, false), (3, true), (4, false), (5, true)] 1 ?_
     apply Exists.intro; refine ⟨?_, rfl, ?_⟩
     ·iterate 6 (refine yD ?_)
      exact rfl
     refine yng' (fuel := 0) (i := 6) (by rfl) (by kernel_rfl) (by rfl) (fun K hK => ?_)    -- mapUpdate
     replace HX := Lib.hid h9
     clear h9
     go_wp2_with fail
     refine yah' (by kernel_rfl) ?_ _
     go_wp2_with (first | refine v1 ?_ | (refine vS ?_; clear HX; intro w HX) | (refine vA ?_; clear HX; (first | (have hq := b; clear hq; intro w b2 HX) | intro w b HX)))
     refine ybd' HX rfl rfl (by (repeat (first | (with_reducible exact k_s) | (with_reducible apply k_m)))) (by kernel_rfl) ?_
     have h9 := HX.out.cut2.cut2.cut2
     rw [← HS'.out, HE.out]
     obtain ⟨nv', P9, h1, h2, h3, h4⟩ := ydq' (r := ⟨0, path, ⟨#[]⟩, [], (ycr' n zxid data).st⟩) rfl h9
     exact ⟨nv', P9, h1, fun r hr => h2 r (k_n _ hr), h3, h4⟩
   have q3 : (kind == 3) = false := by rw [beq_eq_false_iff_ne]; exact hk3
   have HE := Lib.hid (show rr = (⟨0, path, ⟨#[]⟩, [], noSt⟩, S) by rw [← HRZ.out, if_neg hk3])
   clear HRZ hk3
   go_wp2_with (first | refine v1 ?_ | (refine vS ?_; clear HX; intro w HX) | (refine vA ?_; clear HX; (first | (have hq := b; clear hq; intro w b2 HX) | intro w b HX)))
   refine ybd' HX rfl rfl (by (repeat (first | (with_reducible exact k_s) | (with_reducible apply k_m)))) (by kernel_rfl) ?_
   have h9 := (HB.out _ P _ (fun _ h => h) (HX.out.drop.drop.drop)).perm (List.Perm.swap _ _ _)
   rw [← HS'.out, HE.out]
   refine ydq' (r := ⟨0, path, ⟨#[]⟩, [], noSt⟩) rfl ?_
   cases only <;> exact h9
end
end Go.Proofs.YtcnkifbjlihaoaaGreatDoor

namespace Go.Av
def doT (S : TreeS) (o : OpS) (sess zxid : Int) : ResS × TreeS :=
 if ybk' o ≠ 0 then (ybt' (ybk' o), S)
 else if sess < 1 ∨ zxid < 0 then (ybt' 1, S)
 else if o.kind = 1 then ybq' S o sess zxid
 else if o.kind = 2 ∨ o.kind = 3 ∨ o.kind = 4 then ybo' S o zxid
 else (yh9' S o, S)
theorem yce' {o : OpS} (h : ybk' o = 0) : yc9' o = true ∧ o.data.size ≤ 1000 ∧ ownS o = true ∧ numS o = true := by
 unfold ybk' at h
 by_cases h1 : yc9' o = false
 ·rw [if_pos h1] at h; omega
 rw [if_neg h1] at h
 by_cases h2 : 1000 < o.data.size
 ·rw [if_pos h2] at h; omega
 rw [if_neg h2] at h
 by_cases h3 : ownS o = false ∨ numS o = false
 ·rw [if_pos h3] at h; omega
 refine ⟨by simpa using h1, by omega, ?_, ?_⟩
 ·cases hh : ownS o with
  | true => rfl
  | false => exact absurd (.inl hh) h3
 ·cases hh : numS o with
  | true => rfl
  | false => exact absurd (.inr hh) h3
theorem yb2' {o : OpS} (h : yc9' o = true) : 1 ≤ o.kind ∧ o.kind ≤ 7 ∧ ya4' o.p = true ∧ -1 ≤ o.ver ∧ 0 ≤ o.flags ∧ o.flags ≤ 3 := by
 unfold yc9' at h
 simp only [Bool.and_eq_true, decide_eq_true_eq] at h
 exact ⟨h.1, h.2.1, h.2.2.1, h.2.2.2.1, h.2.2.2.2.1, h.2.2.2.2.2⟩
end Go.Av
namespace Go.Proofs.YtcnkifbjlihaoaaGreatDoor
open Go.RowKit Go.Av
section
variable {w0 w : World} {t : Nat} {S : TreeS} {P P' : List PRow} {R : List Thing} {rows : List (Value × Bs)}
set_option maxRecDepth 100000 in
set_option maxHeartbeats 4000000 in
theorem yx1' (h : Sep w0 w (yab' w0 P :: yaq' t S P :: R) rows) (hd : DoorN w0) (o : OpS) (hp : o.path.size ≤ 100000) (sess zxid : Int) (only : Bool) (hok : ∀ e ∈ S.l, NodeOk e.2) :
  Calls Tryz.prog 182 #[.pointer (some ⟨t, 0, none⟩), o.val, .int .i64 sess, .int .i64 zxid, .bool only] w (ygf' w0 t (if only then S else (doT S o sess zxid).2) P R rows (doT S o sess zxid).1) := by
 have HG := Lib.hid (fun w hw => yi3' o w hw hp)
 have HO := Lib.hid (show o = ⟨o.kind, o.path, o.data, o.ver, o.flags⟩ from rfl)
 have HD := Lib.hid hd
 obtain ⟨rr, hrr⟩ : ∃ rr, doT S o sess zxid = rr := ⟨_, rfl⟩
 rw [hrr]
 obtain ⟨S', hS'⟩ : ∃ S', (if only = true then S else rr.2) = S' := ⟨_, rfl⟩
 rw [hS']
 have HS' := Lib.hid hS'
 have HX := Lib.hid h
 clear hS' h hd
 unfold doT at hrr
 obtain ⟨e0, he0⟩ : ∃ e0, ybk' o = e0 := ⟨_, rfl⟩
 rw [he0] at HG hrr
 have HRR := Lib.hid hrr
 have HE0 := Lib.hid he0
 clear hrr he0
 obtain ⟨kind, path, data, ver, flags⟩ := o
 unfold OpS.val at HG ⊢
 dsimp only at hp HRR HG ⊢
 go_enter Tryz.func182, Tryz.ntmps182
 go_wp2_with (first | refine v1 ?_ | (refine vS ?_; clear HX; intro w HX) | (refine vA ?_; clear HX; (first | (have hq := b; clear hq; intro w b2 HX) | intro w b HX)))
 refine (HG.out _ (HD.out.sep HX.out)).mono ?_
 rintro e w ⟨rfl, hu⟩
 replace HX := Lib.hid (HX.out.keep hu)
 clear hu HG
 by_cases h0 : e0 = 0
 case neg =>
  have HE := Lib.hid (show rr = (ybt' e0, S) by rw [← HRR.out, if_pos h0])
  have q0 : (e0 != 0) = true := by rw [bne_iff_ne]; exact h0
  clear HRR h0
  go_wp2_with (first | refine v1 ?_ | (refine vS ?_; clear HX; intro w HX) | (refine vA ?_; clear HX; (first | (have hq := b; clear hq; intro w b2 HX) | intro w b HX)))
  refine (ydv' _ _).mono ?_
  rintro e w ⟨rfl, hu⟩
  replace HX := Lib.hid (HX.out.keep hu)
  clear hu
  simp only [ResS.cells, ybt', noSt]
  go_wp2_with (first | refine v1 ?_ | (refine vS ?_; clear HX; intro w HX) | (refine vA ?_; clear HX; (first | (have hq := b; clear hq; intro w b2 HX) | intro w b HX)))
  refine ybd' HX rfl rfl (by (repeat (first | (with_reducible exact k_s) | (with_reducible apply k_m)))) (by kernel_rfl) ?_
  rw [← HS'.out, HE.out]
  refine ydq' rfl ?_
  cases only <;> exact HX.out.drop.drop
 case pos =>
 subst h0
 have HR2 := Lib.hid (show (if sess < 1 ∨ zxid < 0 then (ybt' 1, S) else if kind = 1 then ybq' S ⟨kind, path, data, ver, flags⟩ sess zxid else if kind = 2 ∨ kind = 3 ∨ kind = 4 then ybo' S ⟨kind, path, data, ver, flags⟩ zxid else (yh9' S ⟨kind, path, data, ver, flags⟩, S)) = rr by have := HRR.out; rw [if_neg (fun h => h rfl)] at this; exact this)
 clear HRR
 by_cases hs : sess < 1 ∨ zxid < 0
 ·have HE := Lib.hid (show rr = (ybt' 1, S) by rw [← HR2.out, if_pos hs])
  clear HR2
  by_cases h1 : sess < 1
  ·have q1 : decide (sess < 1) = true := decide_eq_true h1
   clear h1 hs
   go_wp2_with (first | refine v1 ?_ | (refine vS ?_; clear HX; intro w HX) | (refine vA ?_; clear HX; (first | (have hq := b; clear hq; intro w b2 HX) | intro w b HX)))
   refine (ydv' _ _).mono ?_
   rintro e w ⟨rfl, hu⟩
   replace HX := Lib.hid (HX.out.keep hu)
   clear hu
   simp only [ResS.cells, ybt', noSt]
   go_wp2_with (first | refine v1 ?_ | (refine vS ?_; clear HX; intro w HX) | (refine vA ?_; clear HX; (first | (have hq := b; clear hq; intro w b2 HX) | intro w b HX)))
   refine ybd' HX rfl rfl (by (repeat (first | (with_reducible exact k_s) | (with_reducible apply k_m)))) (by kernel_rfl) ?_
   rw [← HS'.out, HE.out]
   refine ydq' rfl ?_
   cases only <;> exact HX.out.drop.drop
  ·have q1 : decide (sess < 1) = false := decide_eq_false h1
   have q2 : decide (zxid < 0) = true := decide_eq_true (hs.resolve_left h1)
   clear h1 hs
   go_wp2_with (first | refine v1 ?_ | (refine vS ?_; clear HX; intro w HX) | (refine vA ?_; clear HX; (first | (have hq := b; clear hq; intro w b2 HX) | intro w b HX)))
   refine (ydv' _ _).mono ?_
   rintro e w ⟨rfl, hu⟩
   replace HX := Lib.hid (HX.out.keep hu)
   clear hu
   simp only [ResS.cells, ybt', noSt]
   go_wp2_with (first | refine v1 ?_ | (refine vS ?_; clear HX; intro w HX) | (refine vA ?_; clear HX; (first | (have hq := b; clear hq; intro w b2 HX) | intro w b HX)))
   refine ybd' HX rfl rfl (by (repeat (first | (with_reducible exact k_s) | (with_reducible apply k_m)))) (by kernel_rfl) ?_
   rw [← HS'.out, HE.out]
   refine ydq' rfl ?_
   cases only <;> exact HX.out.drop.drop
 have q1 : decide (sess < 1) = false := decide_eq_false (fun h => hs (.inl h))
 have q2 : decide (zxid < 0) = false := decide_eq_false (fun h => hs (.inr h))
 have HR3 := Lib.hid (show (if kind = 1 then ybq' S ⟨kind, path, data, ver, flags⟩ sess zxid else if kind = 2 ∨ kind = 3 ∨ kind = 4 then ybo' S ⟨kind, path, data, ver, flags⟩ zxid else (yh9' S ⟨kind, path, data, ver, flags⟩, S)) = rr by have := HR2.out; rw [if_neg hs] at this; exact this)
 have HGO := Lib.hid (yce' HE0.out)
 have HFO := Lib.hid (yb2' HGO.out.1)
 clear HR2 hs
 by_cases hk1 : kind = 1
 ·subst hk1
  have HE := Lib.hid (show rr = ybq' S ⟨1, path, data, ver, flags⟩ sess zxid by have := HR3.out; rw [if_pos rfl] at this; exact this.symm)
  clear HR3
  go_wp2_with (first | refine v1 ?_ | (refine vS ?_; clear HX; intro w HX) | (refine vA ?_; clear HX; (first | (have hq := b; clear hq; intro w b2 HX) | intro w b HX)))
  refine (yov' (HX.out.perm (ygy' _ _ _ _ _)) HD.out ⟨1, path, data, ver, flags⟩ hp (Nat.le_trans HGO.out.2.1 (by decide)) HFO.out.2.2.2.2.1 HFO.out.2.2.2.2.2 hok sess zxid only).mono ?_
  rintro e w ⟨nv, P', rfl, hP', hnv, hx⟩
  replace HX := Lib.hid hx
  obtain ⟨E, hE⟩ := Sep.poolGet hx hnv
  obtain ⟨na, nn, nc, rfl, -⟩ := id hE
  clear hx hE
  simp only [ResS.cells]
  go_wp2_with (first | refine v1 ?_ | (refine vS ?_; clear HX; intro w HX) | (refine vA ?_; clear HX; (first | (have hq := b; clear hq; intro w b2 HX) | intro w b HX)))
  refine ybd' HX rfl rfl (by (repeat (first | (with_reducible exact k_s) | (with_reducible apply k_m)))) (by kernel_rfl) ?_
  rw [← HS'.out, HE.out]
  have h9 := HX.out.cut2.cut2
  exact ⟨_, P', rfl, hP', hnv, by cases only <;> exact h9⟩
 have q3 : (kind == 1) = false := by rw [beq_eq_false_iff_ne]; exact hk1
 have HR4 := Lib.hid (show (if kind = 2 ∨ kind = 3 ∨ kind = 4 then ybo' S ⟨kind, path, data, ver, flags⟩ zxid else (yh9' S ⟨kind, path, data, ver, flags⟩, S)) = rr by have := HR3.out; rw [if_neg hk1] at this; exact this)
 clear HR3 hk1
 by_cases hk : kind = 2 ∨ kind = 3 ∨ kind = 4
 ·have HE := Lib.hid (show rr = ybo' S ⟨kind, path, data, ver, flags⟩ zxid by have := HR4.out; rw [if_pos hk] at this; exact this.symm)
  clear HR4
  rcases hk with rfl | rfl | rfl
  ·skip
   go_wp2_with (first | refine v1 ?_ | (refine vS ?_; clear HX; intro w HX) | (refine vA ?_; clear HX; (first | (have hq := b; clear hq; intro w b2 HX) | intro w b HX)))
   refine (ygg' (HX.out.perm (ygy' _ _ _ _ _)) HD.out ⟨2, path, data, ver, flags⟩ hp (Nat.le_trans HGO.out.2.1 (by decide)) zxid only hok).mono ?_
   rintro e w ⟨nv, P', rfl, hP', hnv, hx⟩
   replace HX := Lib.hid hx
   obtain ⟨E, hE⟩ := Sep.poolGet hx hnv
   obtain ⟨na, nn, nc, rfl, -⟩ := id hE
   clear hx hE
   simp only [ResS.cells]
   go_wp2_with (first | refine v1 ?_ | (refine vS ?_; clear HX; intro w HX) | (refine vA ?_; clear HX; (first | (have hq := b; clear hq; intro w b2 HX) | intro w b HX)))
   refine ybd' HX rfl rfl (by (repeat (first | (with_reducible exact k_s) | (with_reducible apply k_m)))) (by kernel_rfl) ?_
   rw [← HS'.out, HE.out]
   have h9 := HX.out.cut2.cut2
   exact ⟨_, P', rfl, hP', hnv, by cases only <;> exact h9⟩
  ·skip
   go_wp2_with (first | refine v1 ?_ | (refine vS ?_; clear HX; intro w HX) | (refine vA ?_; clear HX; (first | (have hq := b; clear hq; intro w b2 HX) | intro w b HX)))
   refine (ygg' (HX.out.perm (ygy' _ _ _ _ _)) HD.out ⟨3, path, data, ver, flags⟩ hp (Nat.le_trans HGO.out.2.1 (by decide)) zxid only hok).mono ?_
   rintro e w ⟨nv, P', rfl, hP', hnv, hx⟩
   replace HX := Lib.hid hx
   obtain ⟨E, hE⟩ := Sep.poolGet hx hnv
   obtain ⟨na, nn, nc, rfl, -⟩ := id hE
   clear hx hE
   simp only [ResS.cells]
   go_wp2_with (first | refine v1 ?_ | (refine vS ?_; clear HX; intro w HX) | (refine vA ?_; clear HX; (first | (have hq := b; clear hq; intro w b2 HX) | intro w b HX)))
   refine ybd' HX rfl rfl (by (repeat (first | (with_reducible exact k_s) | (with_reducible apply k_m)))) (by kernel_rfl) ?_
   rw [← HS'.out, HE.out]
   have h9 := HX.out.cut2.cut2
   exact ⟨_, P', rfl, hP', hnv, by cases only <;> exact h9⟩
  ·skip
   go_wp2_with (first | refine v1 ?_ | (refine vS ?_; clear HX; intro w HX) | (refine vA ?_; clear HX; (first | (have hq := b; clear hq; intro w b2 HX) | intro w b HX)))
   refine (ygg' (HX.out.perm (ygy' _ _ _ _ _)) HD.out ⟨4, path, data, ver, flags⟩ hp (Nat.le_trans HGO.out.2.1 (by decide)) zxid only hok).mono ?_
   rintro e w ⟨nv, P', rfl, hP', hnv, hx⟩
   replace HX := Lib.hid hx
   obtain ⟨E, hE⟩ := Sep.poolGet hx hnv
   obtain ⟨na, nn, nc, rfl, -⟩ := id hE
   clear hx hE
   simp only [ResS.cells]
   go_wp2_with (first | refine v1 ?_ | (refine vS ?_; clear HX; intro w HX) | (refine vA ?_; clear HX; (first | (have hq := b; clear hq; intro w b2 HX) | intro w b HX)))
   refine ybd' HX rfl rfl (by (repeat (first | (with_reducible exact k_s) | (with_reducible apply k_m)))) (by kernel_rfl) ?_
   rw [← HS'.out, HE.out]
   have h9 := HX.out.cut2.cut2
   exact ⟨_, P', rfl, hP', hnv, by cases only <;> exact h9⟩
 have HE := Lib.hid (show rr = (yh9' S ⟨kind, path, data, ver, flags⟩, S) by have := HR4.out; rw [if_neg hk] at this; exact this.symm)
 have q4 : (kind == 2) = false := by rw [beq_eq_false_iff_ne]; exact fun h => hk (.inl h)
 have q5 : (kind == 3) = false := by rw [beq_eq_false_iff_ne]; exact fun h => hk (.inr (.inl h))
 have q6 : (kind == 4) = false := by rw [beq_eq_false_iff_ne]; exact fun h => hk (.inr (.inr h))
 clear HR4 hk
 go_wp2_with (first | refine v1 ?_ | (refine vS ?_; clear HX; intro w HX) | (refine vA ?_; clear HX; (first | (have hq := b; clear hq; intro w b2 HX) | intro w b HX)))
 refine (yuh' (HX.out.perm (ygy' _ _ _ _ _)) ⟨kind, path, data, ver, flags⟩ hok).mono ?_
 rintro e w ⟨nv, P', rfl, hP', hnv, hx⟩
 replace HX := Lib.hid hx
 obtain ⟨E, hE⟩ := Sep.poolGet hx hnv
 obtain ⟨na, nn, nc, rfl, -⟩ := id hE
 clear hx hE
 simp only [ResS.cells]
 go_wp2_with (first | refine v1 ?_ | (refine vS ?_; clear HX; intro w HX) | (refine vA ?_; clear HX; (first | (have hq := b; clear hq; intro w b2 HX) | intro w b HX)))
 refine ybd' HX rfl rfl (by (repeat (first | (with_reducible exact k_s) | (with_reducible apply k_m)))) (by kernel_rfl) ?_
 rw [← HS'.out, HE.out]
 have h9 := HX.out.cut2.cut2
 exact ⟨_, P', rfl, hP', hnv, by cases only <;> exact h9⟩
end
end Go.Proofs.YtcnkifbjlihaoaaGreatDoor

namespace Go.Av
open Go.RowKit
def yfb' (d : TypeDesc) (m r : Nat) (l left : List (Value × Value)) : Thing :=
 ⟨fun w D => RangeIs w d m r l left ∧ m ≠ r ∧ D = [m, r], fun h hs => ⟨h.1.frame (hs _ (by simp [h.2.2])) (hs _ (by simp [h.2.2])), h.2⟩, fun h x hx => by
  rw [h.2.2] at hx
  obtain ⟨es, clock, seen, a1, a2, a3, a4, a5, a6⟩ := h.1
  rcases List.mem_cons.1 hx with rfl | hx
  ·exact ya6' a1
  ·rw [List.mem_singleton] at hx; subst hx; exact ya6' a5⟩
section
variable {P : Program} {w0 w : World} {R : List Thing} {rows : List (Value × Bs)} {d : TypeDesc} {m r : Nat} {l : List (Value × Value)}
theorem yhb' {t k e : TypeId} (h : Sep w0 w (yay' d m l :: R) rows) (ht : P.underlying t = some (.map k e)) :
  ∃ r w', (Instr.range t (.map (some m))).run P w = .ok (.pointer (some ⟨r, 0, none⟩)) w' ∧ Sep w0 w' (yfb' d m r l l :: R) rows := by
 obtain ⟨D, hP, _, back⟩ := h.use
 obtain ⟨o, hrun, hR⟩ := yt1' (P := P) hP.1 ht
 have hlt := hP.1.lt
 refine ⟨w.heap.size, w.alloc o, hrun, back (w.alloc o) [m, w.heap.size] (yfb' d m w.heap.size l l) ?_ ⟨hR, by omega, rfl⟩⟩
 rw [hP.2]
 exact (Upd.alloc1 w o [m]).mono (fun _ h => h) (fun b hb => by
  simp only [List.mem_cons, List.not_mem_nil, or_false] at hb ⊢
  rcases hb with h | h <;> simp [h])
theorem yj2' {α : Type} (ent : α → Value × Value) {left : List α} (h : Sep w0 w (yfb' d m r l (left.map ent) :: R) rows) :
  (left = [] ∧ ∀ ty, (Instr.next (.pointer (some ⟨r, 0, none⟩)) false ty).run P w = .ok (.tuple #[.bool false]) w) ∨
  ∃ l1 g l2 w', left = l1 ++ g :: l2 ∧ (∀ ty, (Instr.next (.pointer (some ⟨r, 0, none⟩)) false ty).run P w = .ok (.tuple #[.bool true, (ent g).1, (ent g).2]) w') ∧ Sep w0 w' (yfb' d m r l ((l1 ++ l2).map ent) :: R) rows ∧
   (Instr.entry (.pointer (some ⟨r, 0, none⟩))).run P w' = .ok (.tuple #[(ent g).1, (ent g).2]) w' := by
 obtain ⟨D, hP, _, back⟩ := h.use
 obtain ⟨hR, hne, rfl⟩ := hP
 rcases yw2' (P := P) ent hR hne with ⟨h0, hn⟩ | ⟨l1, g, l2, w', h0, hn, hR', hu, he⟩
 ·exact .inl ⟨h0, hn⟩
 ·exact .inr ⟨l1, g, l2, w', h0, hn, back w' [m, r] (yfb' d m r l ((l1 ++ l2).map ent)) (hu.mono (by simp) (fun b hb => .inr hb)) ⟨hR', hne, rfl⟩, he⟩
theorem yfe' {left : List (Value × Value)} (h : Sep w0 w (yfb' d m r l left :: R) rows) : Sep w0 w (yay' d m l :: R) rows := by
 obtain ⟨D, hP, _, back⟩ := h.use
 obtain ⟨⟨es, clock, seen, a1, a2, a3, a4, a5, a6⟩, hne, rfl⟩ := hP
 exact back w [m] (yay' d m l) (Upd.mono (Upd.refl w [m, r]) (fun _ h => h) (fun b hb => .inr (by simp at hb; simp [hb]))) ⟨⟨es, clock, a1, a2, a3, a4⟩, rfl⟩
theorem yxs' {α : Type} {f : α → Thing} {l1 l2 : List α} {g : α} (h : Sep w0 w (ThL ((l1 ++ g :: l2).map f) :: R) rows) : Sep w0 w (f g :: ThL ((l1 ++ l2).map f) :: R) rows := by
 have h1 := h.opensL
 have h2 : Sep w0 w (((l1 ++ l2).map f) ++ (f g :: R)) rows := h1.perm (by
  simp only [List.map_append, List.map_cons, List.append_assoc, List.cons_append]
  refine List.Perm.append_left _ ?_
  exact List.perm_middle.symm)
 exact h2.shutL.perm (List.Perm.swap _ _ _)
theorem yvt' {α : Type} {f : α → Thing} {l1 l2 : List α} {g : α} (h : Sep w0 w (f g :: ThL ((l1 ++ l2).map f) :: R) rows) : Sep w0 w (ThL ((l1 ++ g :: l2).map f) :: R) rows := by
 have h1 := (h.perm (List.Perm.swap _ _ _)).opensL
 refine Sep.shutL (h1.perm ?_)
 simp only [List.map_append, List.map_cons, List.append_assoc, List.cons_append]
 refine List.Perm.append_left _ ?_
 exact List.perm_middle
theorem yxq' {α : Type} {f : α → Thing} {l1 : List α} {g : α} (h : Sep w0 w (f g :: ThL (l1.map f) :: R) rows) : Sep w0 w (ThL ((l1 ++ [g]).map f) :: R) rows := by
 have h2 : Sep w0 w (f g :: ThL ((l1 ++ []).map f) :: R) rows := by rw [List.append_nil]; exact h
 exact yvt' h2
theorem yxr' (h : Sep w0 w R rows) : Sep w0 w (ThL [] :: R) rows := Sep.shutL (N := []) h
theorem Sep.mapAdd {t k e : TypeId} {key v : Value} (h : Sep w0 w (yay' d m l :: R) rows) (ht : P.underlying t = some (.map k e)) (hd : P.underlying k = some d) (hk : MapKept.IsKey d key) (hn : ∀ p ∈ l, p.1 ≠ key) :
  ∃ w', (Instr.mapUpdate t (.map (some m)) key v).run P w = .ok () w' ∧ Sep w0 w' (yay' d m (l ++ [(key, v)]) :: R) rows := by
 obtain ⟨w', hrun, hM, hU⟩ := yvi' (P := P) (v := v) h.mapIs ht hd hk hn
 exact ⟨w', hrun, h.mapTo hU hM⟩
end
end Go.Av
namespace Go.Proofs.YtcnkifbjlihaoaaGreatDoor
open Go.RowKit Go.Av
section
variable {w0 w : World} {t m : Nat} {S : TreeS} {P P' : List PRow} {R : List Thing} {rows : List (Value × Bs)} {gs : List NodeG}
theorem yim' (h : Sep w0 w (yaq' t S P :: R) rows) :
  ∃ (m : Nat) (gs : List NodeG), (gs.map NodeG.ent).Perm S.l ∧ yc6' S.l ∧ (∀ g ∈ gs, (1, g.nv, g.n.names.map sv) ∈ P) ∧ Sep w0 w (ydd' t m S.room :: yay' .string m (gs.map NodeG.kv) :: ThL (gs.map NodeG.th) :: R) rows := by
 obtain ⟨L, ⟨m, gs, rfl, h1, h2, h3⟩, hS⟩ := h.opens
 exact ⟨m, gs, h1, h2, h3, (Sep.shutL (N := gs.map NodeG.th) (R := ydd' t m S.room :: yay' .string m (gs.map NodeG.kv) :: R) (hS.perm (ye6' [_, _] _ R))).perm (List.perm_middle (l₁ := [_, _])).symm⟩
theorem yin' (h : Sep w0 w (ydd' t m S.room :: yay' .string m (gs.map NodeG.kv) :: ThL (gs.map NodeG.th) :: R) rows) (h1 : (gs.map NodeG.ent).Perm S.l) (h2 : yc6' S.l) (h3 : ∀ g ∈ gs, (1, g.nv, g.n.names.map sv) ∈ P) : Sep w0 w (yaq' t S P :: R) rows := by
 refine Sep.shut (O := TrO t S P) (L := trTh t m S.room gs) ⟨m, gs, rfl, h1, h2, h3⟩ ?_
 have h6 := (h.perm (List.perm_middle (l₁ := [_, _]))).opensL
 exact h6.perm (ye6' [_, _] _ R).symm
end
end Go.Proofs.YtcnkifbjlihaoaaGreatDoor

namespace Go.Proofs.YtcnkifbjlihaoaaGreatDoor
open Go.RowKit Go.Av
section
variable {w0 w : World} {t : Nat} {S : TreeS} {P P' : List PRow} {R : List Thing} {rows : List (Value × Bs)}
set_option maxRecDepth 100000 in
theorem yxp' (h : Sep w0 w (yab' w0 P :: yaq' t S P :: R) rows) (hd : DoorN w0) (o : OpS) (hp : o.path.size ≤ 100000) (sess zxid : Int) (hok : ∀ e ∈ S.l, NodeOk e.2) :
  Calls Tryz.prog 145 #[.pointer (some ⟨t, 0, none⟩), o.val, .int .i64 sess, .int .i64 zxid] w (ygf' w0 t (doT S o sess zxid).2 P R rows (doT S o sess zxid).1) := by
 have HX := Lib.hid h
 clear h
 obtain ⟨kind, path, data, ver, flags⟩ := o
 unfold OpS.val
 dsimp only at hp ⊢
 obtain ⟨rr, hrr⟩ : ∃ rr, doT S ⟨kind, path, data, ver, flags⟩ sess zxid = rr := ⟨_, rfl⟩
 rw [hrr]
 have HR := Lib.hid hrr
 clear hrr
 go_enter Tryz.func145, Tryz.ntmps145
 go_wp2_with (first | refine v1 ?_ | (refine vS ?_; clear HX; intro w HX) | (refine vA ?_; clear HX; (first | (have hq := b; clear hq; intro w b2 HX) | intro w b HX)))
 refine (yx1' (HX.out.perm (ygy' _ _ _ _ _)) hd ⟨kind, path, data, ver, flags⟩ hp sess zxid false hok).mono ?_
 rw [HR.out]
 rintro e w ⟨nv, P', rfl, hP', hnv, hx⟩
 replace HX := Lib.hid hx
 obtain ⟨E, hE⟩ := Sep.poolGet hx hnv
 obtain ⟨na, nn, nc, rfl, -⟩ := id hE
 clear hx hE
 simp only [ResS.cells]
 go_wp2_with (first | refine v1 ?_ | (refine vS ?_; clear HX; intro w HX) | (refine vA ?_; clear HX; (first | (have hq := b; clear hq; intro w b2 HX) | intro w b HX)))
 refine ybd' HX rfl rfl (by (repeat (first | (with_reducible exact k_s) | (with_reducible apply k_m)))) (by kernel_rfl) ?_
 have h9 := HX.out.cut2.cut2
 exact ⟨_, P', rfl, hP', hnv, h9⟩
def yv4' (w0 : World) (t : Nat) (S : TreeS) (P : List PRow) (R : List Thing) (rows : List (Value × Bs)) (e : Ending) (w' : World) : Prop :=
 ∃ c P', e = .returned (.pointer (some ⟨c, 0, none⟩)) ∧ (∀ r ∈ P, r ∈ P') ∧ Sep w0 w' (yab' w0 P' :: yaq' c S P' :: yaq' t S P' :: R) rows
def ypr' (w0 : World) (t m r c mc : Nat) (S : TreeS) (P : List PRow) (R : List Thing) (rows : List (Value × Bs)) (gs : List NodeG) (k : Nat) (w : World) : Prop :=
 ∃ (left done : List NodeG) (P' : List PRow), left.length = k ∧ (done.map NodeG.ent ++ left.map NodeG.ent).Perm (gs.map NodeG.ent) ∧ (∀ g ∈ left, g ∈ gs) ∧ (∀ q ∈ P, q ∈ P') ∧ (∀ g ∈ done, (1, g.nv, g.n.names.map sv) ∈ P') ∧
  Sep w0 w (yfb' .string m r (gs.map NodeG.kv) (left.map NodeG.kv) :: ThL (gs.map NodeG.th) :: ydd' t m S.room :: ydd' c mc S.room :: yay' .string mc (done.map NodeG.kv) :: ThL (done.map NodeG.th) :: yab' w0 P' :: R) rows
theorem ys8' {done gs : List NodeG} {g : NodeG} {l1 l2 : List NodeG} (hp : (done.map NodeG.ent ++ (l1 ++ g :: l2).map NodeG.ent).Perm (gs.map NodeG.ent)) (hn : (gs.map NodeG.key).Nodup) : (∀ q ∈ done.map NodeG.kv, q.1 ≠ sv g.key) ∧
  ∀ g' : NodeG, g'.ent = g.ent → ((done ++ [g']).map NodeG.ent ++ (l1 ++ l2).map NodeG.ent).Perm (gs.map NodeG.ent) := by
 constructor
 ·intro q hq e
  obtain ⟨x, hx, rfl⟩ := List.mem_map.1 hq
  have h1 : ((done.map NodeG.ent ++ (l1 ++ g :: l2).map NodeG.ent).map (·.1)).Nodup := by
   refine ((hp.map (·.1)).nodup_iff).2 ?_
   rw [List.map_map]
   exact hn
  rw [List.map_append, List.nodup_append] at h1
  exact h1.2.2 x.key (List.mem_map.2 ⟨x.ent, List.mem_map_of_mem hx, rfl⟩) g.key (List.mem_map.2 ⟨g.ent, List.mem_map_of_mem (by simp), rfl⟩) (yii' e)
 ·intro g' hg'
  refine List.Perm.trans ?_ hp
  simp only [List.map_append, List.map_cons, List.map_nil, hg', List.append_assoc]
  refine List.Perm.append_left _ ?_
  rw [List.singleton_append]
  exact List.perm_middle.symm
set_option maxRecDepth 100000 in
set_option maxHeartbeats 4000000 in
theorem yg3' (h : Sep w0 w (yab' w0 P :: yaq' t S P :: R) rows) (hok : ∀ e ∈ S.l, NodeOk e.2) :
  Calls Tryz.prog 70 #[.pointer (some ⟨t, 0, none⟩)] w (yv4' w0 t S P R rows) := by
 obtain ⟨m, gs, hperm, hrise, hgs, hS⟩ := yim' (h.perm (List.Perm.swap _ _ _))
 have HPM := Lib.hid hperm
 have HRI := Lib.hid hrise
 have HGS := Lib.hid hgs
 have HOK := Lib.hid (show ∀ g ∈ gs, NodeOk g.n from fun g hg => hok g.ent (hperm.mem_iff.1 (List.mem_map_of_mem hg)))
 have HND := Lib.hid (yeb' hperm hrise)
 have HX := Lib.hid hS
 clear h hperm hrise hgs hS hok
 go_enter Tryz.func70, Tryz.ntmps70
 go_upto_region 2 with (first | refine v1 ?_ | (refine vS ?_; clear HX; intro w HX) | (refine vA ?_; clear HX; (first | (have hq := b2; clear hq; intro w b3 HX) | (have hq := b; clear hq; intro w b2 HX) | intro w b HX)) | (refine vN ?_; clear HX; intro w mm HX))
 obtain ⟨r, w9, hrun, h9⟩ := yhb' (P := Tryz.prog) HX.out.up3 Tryz.underlying210
 have HST := Lib.hid (show ypr' w0 t m r b mm S P R rows gs gs.length w9 from ⟨gs, [], P, rfl, by simp, fun _ h => h, fun _ h => h, by simp, (yxr' h9).up3.up3.up4.up5.up5⟩)
 go_wp2_with (first | refine v1 ?_ | (refine vS ?_; clear HX; intro w HX) | (refine vA ?_; clear HX; (first | (have hq := b2; clear hq; intro w b3 HX) | (have hq := b; clear hq; intro w b2 HX) | intro w b HX)) | (refine vN ?_; clear HX; intro w mm HX))
 clear HX hrun h9
 go_loopg [4] gs.length (fun k _ wr => ypr' w0 t m r b mm S P R rows gs k wr)
 case atStart => exact HST.out
 case round =>
  obtain ⟨left, done, P', hk, hpm, hin, hP', hdn, hS⟩ := hrel
  rcases yj2' (P := Tryz.prog) NodeG.kv hS with ⟨rfl, hn⟩ | ⟨l1, g, l2, w1, rfl, hn, h1, hen⟩
  ·have HF := Lib.hid (show _ ∧ _ ∧ _ from ⟨hpm, hP', hdn⟩)
   have HX := Lib.hid hS
   clear hpm hP' hdn hS hk hin
   go_wp2_with (first | refine v1 ?_ | (refine vS ?_; clear HX; intro w HX) | (refine vA ?_; clear HX; (first | (have hq := b2; clear hq; intro w b3 HX) | (have hq := b; clear hq; intro w b2 HX) | intro w b HX)) | (refine vN ?_; clear HX; intro w mm HX))
   go_ret
   obtain ⟨hpm, hP', hdn⟩ := HF.out
   have h5 := yfe' HX.out
   have h6 := yin' (t := t) (P := P') h5.up2 HPM.out HRI.out (fun g hg => hP' _ (HGS.out g hg))
   have h7 := yin' (t := b) (S := S) (P := P') h6.up3.up3.up3 (by simpa using hpm.trans HPM.out) HRI.out hdn
   exact ⟨b, P', rfl, hP', h7.up2⟩
  ·have hg := hin g (by simp)
   obtain ⟨a1, a2, hgs⟩ := List.append_of_mem hg
   have HF := Lib.hid (show _ ∧ _ ∧ _ ∧ _ ∧ _ from ⟨hpm, hP', hdn, hk, hin⟩)
   rw [hgs] at h1
   have HX := Lib.hid (show Sep w0 w1 (ymc' g.blk g.n g.nv :: _) rows from yxs' (f := NodeG.th) h1.up1)
   have HG := Lib.hid hgs
   have hnv := hP' _ (HGS.out g hg)
   have hok := HOK.out g hg
   clear hS h1 hpm hP' hdn hk hin hgs hg
   have HNV := Lib.hid hnv
   clear hnv
   simp only [NodeG.kv] at hn hen
   go_wp2_with (first | refine v1 ?_ | (refine vS ?_; clear HX; intro w HX) | (refine vA ?_; clear HX; (first | (have hq := b2; clear hq; intro w b3 HX) | (have hq := b; clear hq; intro w b2 HX) | intro w b HX)) | (refine vN ?_; clear HX; intro w mm HX))
   obtain ⟨E, hE⟩ := HX.out.up7.poolGet HNV.out
   refine (yix' g.n g.nv w1 E hE (by have := hok.few; omega)).mono ?_
   rintro e w ⟨v2, D2, rfl, ho2, hu2⟩
   obtain ⟨a2', n2, k2, rfl, -⟩ := id ho2
   replace HX := Lib.hid (HX.out.addRow ho2 hu2)
   clear ho2 hu2 hE
   simp only [NodeS.val, NodeS.cells]
   go_upto_region 6 with (first | refine v1 ?_ | (refine vS ?_; clear HX; intro w HX) | (refine vA ?_; clear HX; (first | (have hq := b2; clear hq; intro w b3 HX) | (have hq := b; clear hq; intro w b2 HX) | intro w b HX)) | (refine vN ?_; clear HX; intro w mm HX))
   obtain ⟨hkey, hadd⟩ := ys8' HF.out.1 HND.out
   obtain ⟨w9, hrun9, h9⟩ := Sep.mapAdd (P := Tryz.prog) (key := sv g.key) (v := .pointer (some ⟨b2, 0, none⟩)) HX.out.up7 Tryz.underlying210 Tryz.underlying9 trivial hkey
   have HAD := Lib.hid hadd
   have H9 := Lib.hid h9
   clear hkey hadd h9
   go_wp2_with (first | refine v1 ?_ | (refine vS ?_; clear HX; intro w HX) | (refine vA ?_; clear HX; (first | (have hq := b2; clear hq; intro w b3 HX) | (have hq := b; clear hq; intro w b2 HX) | intro w b HX)) | (refine vN ?_; clear HX; intro w mm HX))
   go_roundg (l1 ++ l2).length
   case rel =>
    obtain ⟨hpm, hP', hdn, hk, hin⟩ := HF.out
    have h1 := (H9.out.up2.up9.up1).poolRow
    have h2 := yxq' (f := NodeG.th) (g := ⟨b2, g.key, g.n, .slice a2' n2 k2⟩) (h1.up8.up3)
    have h3 := yvt' (f := NodeG.th) (g := g) (h2.up3.up4.up1)
    rw [← HG.out] at h3
    refine ⟨l1 ++ l2, done ++ [⟨b2, g.key, g.n, .slice a2' n2 k2⟩], (1, .slice a2' n2 k2, g.n.names.map sv) :: P', rfl, HAD.out _ rfl, fun x hx => hin x ?_, fun q hq => k_n _ (hP' q hq), fun x hx => ?_, ?_⟩
    ·rcases List.mem_append.1 hx with h | h <;> simp [h]
    ·rcases List.mem_append.1 hx with h | h
     ·exact k_n _ (hdn x h)
     ·rw [List.mem_singleton.1 h]; exact k_s
    ·have e : (done ++ [(⟨b2, g.key, g.n, .slice a2' n2 k2⟩ : NodeG)]).map NodeG.kv = done.map NodeG.kv ++ [(sv g.key, .pointer (some ⟨b2, 0, none⟩))] := by simp [NodeG.kv]
     rw [e]
     exact h3.pm 7 [4, 0, 5, 6, 3, 1, 2] rfl rfl
   case measure =>
    obtain ⟨_, _, _, hk, _⟩ := HF.out
    simp at hk ⊢; omega
end
end Go.Proofs.YtcnkifbjlihaoaaGreatDoor

namespace Go.Av
open Go.RowKit
structure ReplyS where
 num : Int
 zxid : Int
 err : Int
 at_ : Int
 rs : List ResS
inductive ResL (P : List PRow) : List ResS → List Value → Prop
 | nil : ResL P [] []
 | cons {r : ResS} {nv : Value} {rs : List ResS} {xs : List Value} : (1, nv, r.names.map sv) ∈ P → ResL P rs xs → ResL P (r :: rs) ((r.cells nv).toList ++ xs)
theorem ResL.mono {P P' : List PRow} {rs : List ResS} {xs : List Value} (h : ResL P rs xs) (hP : ∀ r ∈ P, r ∈ P') : ResL P' rs xs := by
 induction h with
 | nil => exact .nil
 | cons h1 _ ih => exact .cons (hP _ h1) ih
theorem ResL.snoc {P : List PRow} {rs : List ResS} {xs : List Value} {r : ResS} {nv : Value} (h : ResL P rs xs) (hr : (1, nv, r.names.map sv) ∈ P) : ResL P (rs ++ [r]) (xs ++ (r.cells nv).toList) := by
 induction h with
 | nil => simpa using ResL.cons hr ResL.nil
 | cons h1 _ ih =>
  rw [List.cons_append, List.append_assoc]
  exact .cons h1 ih
theorem ResL.len {P : List PRow} {rs : List ResS} {xs : List Value} (h : ResL P rs xs) : xs.length = rs.length * 11 := by
 induction h with
 | nil => rfl
 | cons _ _ ih => simp only [List.length_append, List.length_cons, ih]; simp [ResS.cells]; omega
def yjt' (P : List PRow) (r : ReplyS) (v : Value) : Prop := ∃ a n c xs, v = .agg #[.int .i64 r.num, .int .i64 r.zxid, .int .i64 r.err, .int .i64 r.at_, .slice a n c] ∧ ResL P r.rs xs ∧ (11, Value.slice a n c, xs) ∈ P
def yfd' (e at_ : Int) (n : Nat) : List ResS := (List.range n).map fun (i : Nat) => ybt' (if (i : Int) = at_ then e else 14)
def yea' (num e at_ n : Int) : ReplyS := ⟨num, 0, e, at_, if n < 0 ∨ 16 < n then [] else yfd' e at_ n.toNat⟩
theorem yms' (e at_ : Int) (n : Nat) : yfd' e at_ (n + 1) = yfd' e at_ n ++ [ybt' (if (n : Int) = at_ then e else 14)] := by
 unfold yfd'
 rw [List.range_succ, List.map_append]
 rfl
theorem yiz' (e at_ : Int) (n : Nat) : (yfd' e at_ n).length = n := by simp [yfd']
end Go.Av
namespace Go.Proofs.YtcnkifbjlihaoaaGreatDoor
open Go.RowKit Go.Av
section
variable {w0 w : World} {P P' : List PRow} {R : List Thing} {rows : List (Value × Bs)}
def ypy' (w0 : World) (P : List PRow) (R : List Thing) (rows : List (Value × Bs)) (r : ReplyS) (e : Ending) (w' : World) : Prop :=
 ∃ v P', e = .returned v ∧ (∀ q ∈ P, q ∈ P') ∧ yjt' P' r v ∧ Sep w0 w' (yab' w0 P' :: R) rows
def ypt' (w0 : World) (b8 b9 : Nat) (num e at_ : Int) (n : Nat) (P : List PRow) (R : List Thing) (rows : List (Value × Bs)) (k : Nat) (v24 : Value) (w : World) : Prop :=
 ∃ (i : Nat) (xs : List Value) (a : Option Addr) (n' c : Nat), i + k = n ∧ v24 = .int .i64 (i : Int) ∧ ResL ((1, .slice none 0 0, []) :: P) (yfd' e at_ i) xs ∧
  Sep w0 w (yac' b9 (.cells #[.int .i64 num, .int .i64 0, .int .i64 e, .int .i64 at_, .slice a n' c] 39 (0, 0)) :: ybc' 11 (.slice a n' c) xs :: yac' b8 (.cells #[.int .i64 0, .int .i64 0, .int .i64 0, .int .i64 0, .slice none 0 0] 39 (0, 0)) :: yab' w0 ((1, .slice none 0 0, []) :: P) :: R) rows
set_option maxRecDepth 100000 in
set_option maxHeartbeats 4000000 in
theorem yed' (h : Sep w0 w (yab' w0 P :: R) rows) (num e at_ n : Int) :
  Calls Tryz.prog 61 #[.int .i64 num, .int .i64 e, .int .i64 at_, .int .i64 n] w (ypy' w0 P R rows (yea' num e at_ n)) := by
 obtain ⟨rr, hrr⟩ : ∃ rr, yea' num e at_ n = rr := ⟨_, rfl⟩
 rw [hrr]
 have HR := Lib.hid hrr
 have HX := Lib.hid (h.poolNil 1)
 clear hrr h
 by_cases hn : n < 0 ∨ 16 < n
 ·have HE := Lib.hid (show rr = ⟨num, 0, e, at_, []⟩ by rw [← HR.out]; unfold yea'; rw [if_pos hn])
  have fin : ∀ w b8 b9, Hid (Sep w0 w (yac' b9 (.cells #[.int .i64 num, .int .i64 0, .int .i64 e, .int .i64 at_, .slice none 0 0] 39 (0, 0)) :: yac' b8 (.cells #[.int .i64 num, .int .i64 0, .int .i64 e, .int .i64 at_, .slice none 0 0] 39 (0, 0)) :: yab' w0 ((1, .slice none 0 0, []) :: P) :: R) rows) → ypy' w0 P R rows rr (.returned (.agg #[.int .i64 num, .int .i64 0, .int .i64 e, .int .i64 at_, .slice none 0 0])) w := fun w b8 b9 HX => by
   have h1 := HX.out.drop.drop.poolNil 11
   rw [HE.out]
   exact ⟨_, _, rfl, fun q hq => k_n _ (k_n _ hq), ⟨none, 0, 0, [], rfl, .nil, k_s⟩, h1⟩
  have FIN := Lib.hid fin
  clear fin HR
  by_cases h1 : n < 0
  ·have q1 : decide (n < 0) = true := decide_eq_true h1
   clear h1 hn
   go_enter Tryz.func61, Tryz.ntmps61
   go_wp2_with (first | refine v1 ?_ | (refine vS ?_; clear HX; intro w HX) | (refine sWA ?_; clear HX; (first | (have hq := b9; clear hq; intro w b10 HX) | (have hq := b8; clear hq; intro w b9 HX) | (have hq := b7; clear hq; intro w b8 HX) | (have hq := b6; clear hq; intro w b7 HX) | (have hq := b5; clear hq; intro w b6 HX) | (have hq := b4; clear hq; intro w b5 HX) | (have hq := b3; clear hq; intro w b4 HX) | (have hq := b2; clear hq; intro w b3 HX) | (have hq := b; clear hq; intro w b2 HX) | intro w b HX); simp only [Act.put, k_a, k_b, k_c]) | (refine vP ?_; clear HX; intro w av nv cv HX))
   refine ybd' HX rfl rfl (by (repeat (first | (with_reducible exact k_s) | (with_reducible apply k_m)))) (by kernel_rfl) ?_
   exact FIN.out _ _ _ HX
  ·have q1 : decide (n < 0) = false := decide_eq_false h1
   have q2 : decide (16 < n) = true := decide_eq_true (hn.resolve_left h1)
   clear h1 hn
   go_enter Tryz.func61, Tryz.ntmps61
   go_wp2_with (first | refine v1 ?_ | (refine vS ?_; clear HX; intro w HX) | (refine sWA ?_; clear HX; (first | (have hq := b9; clear hq; intro w b10 HX) | (have hq := b8; clear hq; intro w b9 HX) | (have hq := b7; clear hq; intro w b8 HX) | (have hq := b6; clear hq; intro w b7 HX) | (have hq := b5; clear hq; intro w b6 HX) | (have hq := b4; clear hq; intro w b5 HX) | (have hq := b3; clear hq; intro w b4 HX) | (have hq := b2; clear hq; intro w b3 HX) | (have hq := b; clear hq; intro w b2 HX) | intro w b HX); simp only [Act.put, k_a, k_b, k_c]) | (refine vP ?_; clear HX; intro w av nv cv HX))
   refine ybd' HX rfl rfl (by (repeat (first | (with_reducible exact k_s) | (with_reducible apply k_m)))) (by kernel_rfl) ?_
   exact FIN.out _ _ _ HX
 obtain ⟨m, rfl⟩ : ∃ m : Nat, n = (m : Int) := ⟨n.toNat, by omega⟩
 have HM := Lib.hid (show m ≤ 16 by omega)
 have HE := Lib.hid (show rr = ⟨num, 0, e, at_, yfd' e at_ m⟩ by rw [← HR.out]; unfold yea'; rw [if_neg hn]; rfl)
 have q1 : decide ((m : Int) < 0) = false := decide_eq_false (fun h => hn (.inl h))
 have q2 : decide (16 < (m : Int)) = false := decide_eq_false (fun h => hn (.inr h))
 have q3 : decide (16 < m) = false := decide_eq_false (fun h => hn (.inr (by omega)))
 clear hn HR
 go_enter Tryz.func61, Tryz.ntmps61
 go_wp2_with (first | refine v1 ?_ | (refine vS ?_; clear HX; intro w HX) | (refine sWA ?_; clear HX; (first | (have hq := b9; clear hq; intro w b10 HX) | (have hq := b8; clear hq; intro w b9 HX) | (have hq := b7; clear hq; intro w b8 HX) | (have hq := b6; clear hq; intro w b7 HX) | (have hq := b5; clear hq; intro w b6 HX) | (have hq := b4; clear hq; intro w b5 HX) | (have hq := b3; clear hq; intro w b4 HX) | (have hq := b2; clear hq; intro w b3 HX) | (have hq := b; clear hq; intro w b2 HX) | intro w b HX); simp only [Act.put, k_a, k_b, k_c]) | (refine vP ?_; clear HX; intro w av nv cv HX))
 have HST := Lib.hid (show ypt' w0 b b2 num e at_ m P R rows m (.int .i64 (0 : Int)) w from ⟨0, [], none, 0, 0, by simp, rfl, .nil, (HX.out.nilRow 11).up1⟩)
 clear HX
 go_loopg [24] m (fun k v24 wr => ypt' w0 b b2 num e at_ m P R rows k v24 wr)
 case atStart => exact HST.out
 case round =>
  obtain ⟨i, xs, a, n', c, hik, rfl, hrl, hS⟩ := hrel
  have HRL := Lib.hid hrl
  have HX := Lib.hid hS
  clear hrl hS
  by_cases hlt : i < m
  case neg =>
   obtain rfl : i = m := by omega
   clear hlt hik
   go_wp2_with (first | refine v1 ?_ | (refine vS ?_; clear HX; intro w HX) | (refine sWA ?_; clear HX; (first | (have hq := b9; clear hq; intro w b10 HX) | (have hq := b8; clear hq; intro w b9 HX) | (have hq := b7; clear hq; intro w b8 HX) | (have hq := b6; clear hq; intro w b7 HX) | (have hq := b5; clear hq; intro w b6 HX) | (have hq := b4; clear hq; intro w b5 HX) | (have hq := b3; clear hq; intro w b4 HX) | (have hq := b2; clear hq; intro w b3 HX) | (have hq := b; clear hq; intro w b2 HX) | intro w b HX); simp only [Act.put, k_a, k_b, k_c]) | (refine vP ?_; clear HX; intro w av nv cv HX))
   refine ybd' HX rfl rfl (by (repeat (first | (with_reducible exact k_s) | (with_reducible apply k_m)))) (by kernel_rfl) ?_
   have h2 := (HX.out.drop.cut1).poolRow
   rw [HE.out]
   exact ⟨_, _, rfl, fun q hq => k_n _ (k_n _ hq), ⟨a, n', c, xs, rfl, HRL.out.mono (fun q hq => k_n _ hq), k_s⟩, h2⟩
  case pos =>
   have HLN := Lib.hid (show xs.length = i * 11 by have := HRL.out.len; rw [yiz'] at this; exact this)
   have HBD := Lib.hid (show ∀ n, xs.length = n * 11 → n + 1 ≤ 140737488355328 ∧ (n + 1) * 120 ≤ 140737488355328 from fun n hn => by
    have := HLN.out
    have := HM.out
    omega)
   have HRN := Lib.hid (show ResL ((1, .slice none 0 0, []) :: P) (yfd' e at_ (i + 1)) (xs ++ ((ybt' (if (i : Int) = at_ then e else 14)).cells (.slice none 0 0)).toList) by rw [yms']; exact HRL.out.snoc k_s)
   have q0 : decide (i < m) = true := decide_eq_true hlt
   have q9 : i ≤ 16 := by have := HM.out; omega
   by_cases hat : (i : Int) = at_
   case' pos =>
    have q4 : ((i : Int) == at_) = true := by rw [beq_iff_eq]; exact hat
    rw [if_pos hat] at HRN
   case' neg =>
    have q4 : ((i : Int) == at_) = false := by rw [beq_eq_false_iff_ne]; exact hat
    rw [if_neg hat] at HRN
   all_goals
    clear hat
    go_wp2_with (first | refine v1 ?_ | (refine vS ?_; clear HX; intro w HX) | (refine sWA ?_; clear HX; (first | (have hq := b9; clear hq; intro w b10 HX) | (have hq := b8; clear hq; intro w b9 HX) | (have hq := b7; clear hq; intro w b8 HX) | (have hq := b6; clear hq; intro w b7 HX) | (have hq := b5; clear hq; intro w b6 HX) | (have hq := b4; clear hq; intro w b5 HX) | (have hq := b3; clear hq; intro w b4 HX) | (have hq := b2; clear hq; intro w b3 HX) | (have hq := b; clear hq; intro w b2 HX) | intro w b HX); simp only [Act.put, k_a, k_b, k_c]) | (refine vP ?_; clear HX; intro w av nv cv HX))
    go_roundg (m - (i + 1))
    case rel =>
     exact ⟨i + 1, _, av, nv, cv, by omega, by go_num, HRN.out, HX.out.pm 6 [3, 0, 4, 5] rfl rfl⟩
    case measure => omega
end
end Go.Proofs.YtcnkifbjlihaoaaGreatDoor

namespace Go.Av
open Go.RowKit
structure NodeB (K : Nat) (n : NodeS) : Prop where
 ver : 0 ≤ n.ver ∧ n.ver ≤ 2147483647
 kids : 0 ≤ n.kids ∧ n.kids ≤ 2147483647
 next : 0 ≤ n.next ∧ n.next ≤ 2147483647
 rise : yg5' n.names
 few : n.names.length ≤ K
 data : n.data.size ≤ 1000
theorem NodeB.ok {K : Nat} {n : NodeS} (h : NodeB K n) (hK : K ≤ 100000) : NodeOk n := ⟨h.ver, h.kids, h.next, h.rise, by have := h.few; omega, by have := h.data; omega⟩
theorem NodeB.mono {K K' : Nat} {n : NodeS} (h : NodeB K n) (hK : K ≤ K') : NodeB K' n := ⟨h.ver, h.kids, h.next, h.rise, by have := h.few; omega, h.data⟩
structure TreeB (K : Nat) (S : TreeS) : Prop where
 rise : yc6' S.l
 keys : ∀ e ∈ S.l, e.1.length ≤ 200
 nodes : ∀ e ∈ S.l, NodeB K e.2
 len : (S.l.length : Int) ≤ S.room
 room : 1 ≤ S.room ∧ S.room ≤ 500
theorem TreeB.ok {K : Nat} {S : TreeS} (h : TreeB K S) (hK : K ≤ 100000) : ∀ e ∈ S.l, NodeOk e.2 := fun e he => (h.nodes e he).ok hK
theorem TreeB.mono {K K' : Nat} {S : TreeS} (h : TreeB K S) (hK : K ≤ K') : TreeB K' S := ⟨h.rise, h.keys, fun e he => (h.nodes e he).mono hK, h.len, h.room⟩
theorem TreeB.many {K : Nat} {S : TreeS} (h : TreeB K S) : S.l.length ≤ 500 := by have := h.len; have := h.room; omega
theorem yuw' (room : Int) (h : 1 ≤ room ∧ room ≤ 500) : TreeB 0 ⟨room, []⟩ := ⟨List.Pairwise.nil, by simp, by simp, by simpa using (by omega : (0 : Int) ≤ room), h⟩
theorem yya' (zxid owner : Int) {data : ByteArray} (h : data.size ≤ 1000) (K : Nat) : NodeB K (newS zxid owner data) := ⟨by simp [newS], by simp [newS], by simp [newS], List.Pairwise.nil, by simp [newS], h⟩
theorem yu3' {K : Nat} {n : NodeS} (hn : NodeB K n) (zxid : Int) {data : ByteArray} (h : data.size ≤ 1000) : NodeB K (ycr' n zxid data) := ⟨yj8' hn.ver, hn.kids, hn.next, hn.rise, hn.few, h⟩
theorem yvg' {K : Nat} {n : NodeS} (hn : NodeB K n) (s : Bs) : NodeB (K + 1) (addS n s) := by
 unfold addS
 split
 ·exact hn.mono (by omega)
 ·rename_i hh
  refine ⟨hn.ver, yj8' hn.kids, yj8' hn.next, ynv' hn.rise (by simpa using hh), ?_, hn.data⟩
  have := hn.few
  show (insS n.names s).length ≤ _
  have h2 := ywr' n.names s
  omega
theorem yyi' {K : Nat} {n : NodeS} (hn : NodeB K n) (s : Bs) : NodeB K (remS n s) := by
 unfold remS
 split
 ·rename_i hh
  refine ⟨hn.ver, yj8' hn.kids, hn.next, ytj' hn.rise, ?_, hn.data⟩
  have := hn.few
  show (delS n.names s).length ≤ _
  have h2 := ywk' hh
  omega
 ·exact hn
theorem ymv' {p : Bs} {n : NodeS} {l : NoL} {e : Bs × NodeS} (h : e ∈ setT p n l) : (e = (p, n) ∧ ∃ n0, (p, n0) ∈ l) ∨ e ∈ l := by
 obtain ⟨x, hx, hxe⟩ := List.mem_map.1 h
 split at hxe
 ·rename_i hp
  subst hxe
  exact .inl ⟨by rw [hp], x.2, by rw [← hp]; exact hx⟩
 ·subst hxe; exact .inr hx
theorem yh2' {p : Bs} {n : NodeS} {l : NoL} {e : Bs × NodeS} (h : e ∈ insT p n l) : e = (p, n) ∨ e ∈ l := by
 have := (ydl' p n l).mem_iff.1 h
 simpa using this
theorem yj7' {p : Bs} {l : NoL} {e : Bs × NodeS} (h : e ∈ delT p l) : e ∈ l := (List.mem_filter.1 h).1
theorem yeg' (p : Bs) (f : NodeS → NodeS) (l : NoL) : (atUp p f l).length = l.length := by
 unfold atUp
 split
 ·rfl
 ·split
  ·rfl
  ·exact ye9' _ _ _
theorem yfr' (p : Bs) (f : NodeS → NodeS) (l : NoL) : (atUp p f l).map (·.1) = l.map (·.1) := by
 unfold atUp
 split
 ·rfl
 ·split
  ·rfl
  ·exact yic' _ _ _
theorem yg8' {p : Bs} {f : NodeS → NodeS} {l : NoL} (hn : (l.map (·.1)).Nodup) {e : Bs × NodeS} (h : e ∈ atUp p f l) : e ∈ l ∨ ∃ n, (e.1, n) ∈ l ∧ e.2 = f n := by
 unfold atUp at h
 split at h
 ·exact .inl h
 ·split at h
  ·exact .inl h
  ·rename_i m hm
   rcases ymv' h with ⟨rfl, _⟩ | h
   ·exact .inr ⟨m, (ybj' hn).1 hm, rfl⟩
   ·exact .inl h
theorem yyx' {K : Nat} {S : TreeS} (h : TreeB K S) {p : Bs} {n : NodeS} (hp : p.length ≤ 200) (hn : NodeB K n) (hno : yak' p S.l = none) (hl : (S.l.length : Int) < S.room) : TreeB (K + 1) { S with l := layT p n S.l } := by
 have hr := yhz' (n := n) h.rise hno
 refine ⟨?_, fun e he => ?_, fun e he => ?_, ?_, h.room⟩
 ·show yc6' (atUp _ _ _)
  unfold yc6'
  rw [yfr']
  exact hr
 ·rcases yg8' (ya9' hr) he with h1 | ⟨m, h1, -⟩
  ·rcases yh2' h1 with rfl | h2
   ·exact hp
   ·exact h.keys e h2
  ·rcases yh2' h1 with h2 | h2
   ·injection h2 with h2; rw [h2]; exact hp
   ·exact h.keys (e.1, m) h2
 ·rcases yg8' (ya9' hr) he with h1 | ⟨m, h1, h2⟩
  ·rcases yh2' h1 with rfl | h2
   ·exact hn.mono (by omega)
   ·exact (h.nodes e h2).mono (by omega)
  ·rw [h2]
   rcases yh2' h1 with h3 | h3
   ·injection h3 with h3 h4
    subst h4
    exact yvg' hn _
   ·exact yvg' (h.nodes _ h3) _
 ·show ((atUp _ _ _).length : Int) ≤ S.room
  rw [yeg', yj1']
  omega
theorem yyj' {K : Nat} {S : TreeS} (h : TreeB K S) (p : Bs) : TreeB K { S with l := remT p S.l } := by
 have hr := yk3' (p := p) h.rise
 refine ⟨?_, fun e he => ?_, fun e he => ?_, ?_, h.room⟩
 ·show yc6' (atUp _ _ _)
  unfold yc6'
  rw [yfr']
  exact hr
 ·rcases yg8' (ya9' hr) he with h1 | ⟨m, h1, -⟩
  ·exact h.keys e (yj7' h1)
  ·exact h.keys (e.1, m) (yj7' h1)
 ·rcases yg8' (ya9' hr) he with h1 | ⟨m, h1, h2⟩
  ·exact h.nodes e (yj7' h1)
  ·rw [h2]; exact yyi' (h.nodes _ (yj7' h1)) _
 ·show ((atUp _ _ _).length : Int) ≤ S.room
  rw [yeg']
  have h1 : (delT p S.l).length ≤ S.l.length := List.length_filter_le _ _
  have := h.len
  omega
theorem yy0' {K : Nat} {S : TreeS} (h : TreeB K S) {p : Bs} {n : NodeS} (hn : NodeB K n) : TreeB K { S with l := setT p n S.l } := by
 refine ⟨yf8' h.rise, fun e he => ?_, fun e he => ?_, ?_, h.room⟩
 ·rcases ymv' he with ⟨rfl, n0, h1⟩ | h1
  ·exact h.keys (p, n0) h1
  ·exact h.keys e h1
 ·rcases ymv' he with ⟨rfl, -⟩ | h1
  ·exact hn
  ·exact h.nodes e h1
 ·show ((setT _ _ _).length : Int) ≤ S.room
  rw [ye9']
  exact h.len
theorem yrg' {S : TreeS} {o : OpS} (h : (yax' S o).1 = 0) : (S.l.length : Int) < S.room := by
 have hend : ∀ p, (endT S p).1 = 0 → (S.l.length : Int) < S.room := fun p hp => by
  unfold endT at hp
  split at hp
  ·exact absurd hp (by decide)
  ·split at hp
   ·exact absurd hp (by decide)
   ·omega
 unfold yax' at h
 split at h
 ·exact hend _ h
 ·split at h
  ·exact absurd h (by decide)
  ·split at h
   ·exact absurd h (by decide)
   ·split at h
    ·split at h
     ·exact absurd h (by decide)
     ·exact hend _ h
    ·exact hend _ h
theorem ytb' {K : Nat} {S : TreeS} (h : TreeB K S) {o : OpS} (hg : ybk' o = 0) (sess zxid : Int) : TreeB (K + 1) (ybq' S o sess zxid).2 := by
 obtain ⟨h1, h2, -, -⟩ := yce' hg
 have hp := yb3' (yb2' h1).2.2.1
 unfold ybq'
 split
 ·exact h.mono (by omega)
 ·rename_i hz
  have hz : (yax' S o).1 = 0 := by omega
  obtain ⟨h3, h4⟩ := yi8' hz
  have hps : o.path.size = o.p.length := by unfold OpS.p; exact (Array.length_toList).symm
  exact yyx' h (by omega) (yya' _ _ h2 K) h3 (yrg' hz)
theorem ys5' {K : Nat} {S : TreeS} (h : TreeB K S) {o : OpS} (hg : ybk' o = 0) (zxid : Int) : TreeB K (ybo' S o zxid).2 := by
 obtain ⟨-, h2, -, -⟩ := yce' hg
 unfold ybo'
 split
 ·exact h
 ·rename_i n hn
  split
  ·exact h
  ·split
   ·exact h
   ·split
    ·exact yyj' h _
    ·split
     ·exact yy0' h (yu3' (h.nodes _ ((ybj' (ya9' h.rise)).1 hn)) zxid h2)
     ·exact h
theorem do_b {K : Nat} {S : TreeS} (h : TreeB K S) (o : OpS) (sess zxid : Int) : TreeB (K + 1) (doT S o sess zxid).2 := by
 unfold doT
 split
 ·exact h.mono (by omega)
 ·rename_i hg
  have hg : ybk' o = 0 := by omega
  split
  ·exact h.mono (by omega)
  ·split
   ·exact ytb' h hg sess zxid
   ·split
    ·exact (ys5' h hg zxid).mono (by omega)
    ·exact h.mono (by omega)
def yao' (sess zxid : Int) : List OpS → TreeS → List ResS × TreeS × Int
 | [], S => ([], S, 0)
 | o :: l, S => if (doT S o sess zxid).1.err ≠ 0 then ([], (doT S o sess zxid).2, (doT S o sess zxid).1.err) else
   ((doT S o sess zxid).1 :: (yao' sess zxid l (doT S o sess zxid).2).1, (yao' sess zxid l (doT S o sess zxid).2).2)
def ybw' (S : TreeS) (sess zxid : Int) (ops : List OpS) : ReplyS × TreeS × Bool :=
 if 16 < ops.length then (yea' 0 2 (-1) 0, S, false)
 else if ops.length = 0 then (yea' 0 1 (-1) 0, S, false)
 else if (yao' sess zxid ops S).2.2 ≠ 0 then (yea' 0 (yao' sess zxid ops S).2.2 (yao' sess zxid ops S).1.length ops.length, S, false)
 else (⟨0, zxid, 0, -1, (yao' sess zxid ops S).1⟩, (yao' sess zxid ops S).2.1, true)
theorem ync' {sess zxid : Int} : ∀ (l : List OpS) {K : Nat} {S : TreeS}, TreeB K S → TreeB (K + l.length) (yao' sess zxid l S).2.1
 | [], K, S, h => h
 | o :: l, K, S, h => by
  have h1 := do_b h o sess zxid
  unfold yao'
  split
  ·exact h1.mono (by simp)
  ·have := ync' (sess := sess) (zxid := zxid) l h1
   simp only [List.length_cons]
   rw [show K + (l.length + 1) = K + 1 + l.length by omega]
   exact this
theorem yqy' {K : Nat} {S : TreeS} (h : TreeB K S) (sess zxid : Int) (ops : List OpS) : TreeB (K + 16) (ybw' S sess zxid ops).2.1 := by
 unfold ybw'
 split
 ·exact h.mono (by omega)
 ·split
  ·exact h.mono (by omega)
  ·split
   ·exact h.mono (by omega)
   ·exact (ync' ops h).mono (by omega)
theorem yjj' {sess zxid : Int} (o : OpS) : ∀ (l : List OpS) (S : TreeS), (yao' sess zxid l S).2.2 = 0 →
  yao' sess zxid (l ++ [o]) S = if (doT (yao' sess zxid l S).2.1 o sess zxid).1.err ≠ 0 then ((yao' sess zxid l S).1, (doT (yao' sess zxid l S).2.1 o sess zxid).2, (doT (yao' sess zxid l S).2.1 o sess zxid).1.err)
   else ((yao' sess zxid l S).1 ++ [(doT (yao' sess zxid l S).2.1 o sess zxid).1], (doT (yao' sess zxid l S).2.1 o sess zxid).2, 0)
 | [], S, _ => by
  simp only [List.nil_append, yao']
  split <;> rename_i hq <;> simp [hq]
 | q :: l, S, h => by
  unfold yao' at h
  by_cases hq : (doT S q sess zxid).1.err ≠ 0
  ·rw [if_pos hq] at h; exact absurd h hq
  ·rw [if_neg hq] at h
   have ih := yjj' o l (doT S q sess zxid).2 h
   rw [List.cons_append]
   conv => lhs; unfold yao'
   rw [if_neg hq, ih]
   conv => rhs; unfold yao'
   rw [if_neg hq]
   dsimp only
   split <;> rfl
theorem yga' {sess zxid : Int} : ∀ (l : List OpS) (S : TreeS), (yao' sess zxid l S).2.2 = 0 → (yao' sess zxid l S).1.length = l.length
 | [], _, _ => rfl
 | q :: l, S, h => by
  unfold yao' at h ⊢
  by_cases hq : (doT S q sess zxid).1.err ≠ 0
  ·rw [if_pos hq] at h; exact absurd h hq
  ·rw [if_neg hq] at h ⊢
   simp only [List.length_cons]
   rw [yga' l _ h]
end Go.Av

namespace Go.Av
open Go.RowKit
theorem yjg' {sess zxid : Int} (o : OpS) (l2 : List OpS) : ∀ (l : List OpS) (S : TreeS), (yao' sess zxid l S).2.2 = 0 → (doT (yao' sess zxid l S).2.1 o sess zxid).1.err ≠ 0 →
  (yao' sess zxid (l ++ o :: l2) S).1.length = l.length ∧ (yao' sess zxid (l ++ o :: l2) S).2.2 = (doT (yao' sess zxid l S).2.1 o sess zxid).1.err
 | [], S, _, h => by
  simp only [List.nil_append, yao'] at h ⊢
  rw [if_pos h]
  exact ⟨rfl, rfl⟩
 | q :: l, S, h0, h => by
  unfold yao' at h0 h
  by_cases hq : (doT S q sess zxid).1.err ≠ 0
  ·rw [if_pos hq] at h0; exact absurd h0 hq
  ·rw [if_neg hq] at h0 h
   have ih := yjg' o l2 l (doT S q sess zxid).2 h0 h
   rw [List.cons_append]
   unfold yao'
   rw [if_neg hq, if_neg hq]
   simp only [List.length_cons]
   exact ⟨by rw [ih.1], ih.2⟩
theorem yai' (o : OpS) : o.cells.length = 5 := rfl
end Go.Av
namespace Go.Proofs.YtcnkifbjlihaoaaGreatDoor
open Go.RowKit Go.Av
section
variable {w0 w : World} {t K : Nat} {S : TreeS} {P P' : List PRow} {R : List Thing} {rows : List (Value × Bs)}
def ys2' (w0 : World) (t : Nat) (P : List PRow) (R : List Thing) (rows : List (Value × Bs)) (m : ReplyS × TreeS × Bool) (e : Ending) (w' : World) : Prop :=
 ∃ v P', e = .returned (.tuple #[v, .bool m.2.2]) ∧ (∀ q ∈ P, q ∈ P') ∧ yjt' P' m.1 v ∧ Sep w0 w' (yab' w0 P' :: yaq' t m.2.1 P' :: R) rows
def ypv' (w0 : World) (t b b2 c : Nat) (sess zxid : Int) (S : TreeS) (ops : List OpS) (K : Nat) (P : List PRow) (R : List Thing) (rows : List (Value × Bs)) (k : Nat) (v31 : Value) (w : World) : Prop :=
 ∃ (i : Nat) (P' : List PRow) (xs : List Value) (a : Option Addr) (n c' : Nat), i + k = ops.length ∧ v31 = .int .i64 (i : Int) ∧ (∀ q ∈ P, q ∈ P') ∧ (yao' sess zxid (ops.take i) S).2.2 = 0 ∧ ResL P' (yao' sess zxid (ops.take i) S).1 xs ∧
  Sep w0 w (yac' b2 (.cells #[.int .i64 0, .int .i64 zxid, .int .i64 0, .int .i64 (-1), .slice a n c'] 39 (0, 0)) :: ybc' 11 (.slice a n c') xs :: yab' w0 P' :: yaq' c (yao' sess zxid (ops.take i) S).2.1 P' :: yaq' t S P' ::
   yac' b (.cells #[.int .i64 0, .int .i64 0, .int .i64 0, .int .i64 0, .slice none 0 0] 39 (0, 0)) :: R) rows
set_option maxRecDepth 100000 in
set_option maxHeartbeats 8000000 in
theorem yw0' (h : Sep w0 w (yab' w0 P :: yaq' t S P :: R) rows) (hd : DoorN w0) (hB : TreeB K S) (hK : K + 16 ≤ 100000) (sess zxid : Int) (ops : List OpS) (v : Value) (hv : (5, v, ops.flatMap OpS.cells) ∈ P) (hp : ∀ o ∈ ops, o.path.size ≤ 100000) :
  Calls Tryz.prog 69 #[.pointer (some ⟨t, 0, none⟩), .int .i64 sess, .int .i64 zxid, v] w (ys2' w0 t P R rows (ybw' S sess zxid ops)) := by
 obtain ⟨E, hE⟩ := h.poolGet hv
 obtain ⟨a0, n0, c0, rfl, hl0, hn0, hc0, hne⟩ := ReadRow.some hE
 rw [yar' yai'] at hl0
 obtain rfl : ops.length = n0 := by omega
 have HNE := Lib.hid hne
 have HV := Lib.hid hv
 have HX := Lib.hid h
 have HBB := Lib.hid (show _ ∧ _ from ⟨hB, hK⟩)
 obtain ⟨rr, hrr⟩ : ∃ rr, ybw' S sess zxid ops = rr := ⟨_, rfl⟩
 rw [hrr]
 have HRR := Lib.hid hrr
 clear hrr h hE hne hv hl0 hn0 hc0 hB hK
 by_cases h16 : 16 < ops.length
 ·have HE := Lib.hid (show rr = (yea' 0 2 (-1) 0, S, false) by rw [← HRR.out]; unfold ybw'; rw [if_pos h16])
  have q1 : decide (16 < ops.length) = true := decide_eq_true h16
  have q2 : decide (16 < (ops.length : Int)) = true := decide_eq_true (by omega)
  clear h16 HRR
  go_enter Tryz.func69, Tryz.ntmps69
  go_wp2_with (first | refine v1 ?_ | (refine vS ?_; clear HX; intro w HX) | (refine vA ?_; clear HX; (first | (have hq := b2; clear hq; intro w b3 HX) | (have hq := b; clear hq; intro w b2 HX) | intro w b HX)) | (refine vP ?_; clear HX; intro w av nv cv HX))
  refine (yed' HX.out.up1 _ _ _ _).mono ?_
  rintro e w ⟨v, P', rfl, hP', ⟨a', n', c', xs', rfl, hrl, hmem⟩, hS⟩
  replace HX := Lib.hid hS
  clear hS
  go_wp2_with (first | refine v1 ?_ | (refine vS ?_; clear HX; intro w HX) | (refine vA ?_; clear HX; (first | (have hq := b2; clear hq; intro w b3 HX) | (have hq := b; clear hq; intro w b2 HX) | intro w b HX)) | (refine vP ?_; clear HX; intro w av nv cv HX))
  refine ybp' HX rfl rfl (by (repeat (first | (with_reducible exact k_s) | (with_reducible apply k_m)))) (by kernel_rfl) ?_
  rw [HE.out]
  exact ⟨_, P', rfl, hP', ⟨a', n', c', xs', rfl, hrl, hmem⟩, (ybi' HX.out.cut1.up1 hP').up1⟩
 by_cases h00 : ops.length = 0
 ·have HE := Lib.hid (show rr = (yea' 0 1 (-1) 0, S, false) by rw [← HRR.out]; unfold ybw'; rw [if_neg h16, if_pos h00])
  have q1 : decide (16 < ops.length) = false := decide_eq_false h16
  have q2 : decide (16 < (ops.length : Int)) = false := decide_eq_false (by omega)
  have q3 : ((ops.length : Int) == 0) = true := by rw [beq_iff_eq]; omega
  clear h16 h00 HRR
  go_enter Tryz.func69, Tryz.ntmps69
  go_wp2_with (first | refine v1 ?_ | (refine vS ?_; clear HX; intro w HX) | (refine vA ?_; clear HX; (first | (have hq := b2; clear hq; intro w b3 HX) | (have hq := b; clear hq; intro w b2 HX) | intro w b HX)) | (refine vP ?_; clear HX; intro w av nv cv HX))
  refine (yed' HX.out.up1 _ _ _ _).mono ?_
  rintro e w ⟨v, P', rfl, hP', ⟨a', n', c', xs', rfl, hrl, hmem⟩, hS⟩
  replace HX := Lib.hid hS
  clear hS
  go_wp2_with (first | refine v1 ?_ | (refine vS ?_; clear HX; intro w HX) | (refine vA ?_; clear HX; (first | (have hq := b2; clear hq; intro w b3 HX) | (have hq := b; clear hq; intro w b2 HX) | intro w b HX)) | (refine vP ?_; clear HX; intro w av nv cv HX))
  refine ybp' HX rfl rfl (by (repeat (first | (with_reducible exact k_s) | (with_reducible apply k_m)))) (by kernel_rfl) ?_
  rw [HE.out]
  exact ⟨_, P', rfl, hP', ⟨a', n', c', xs', rfl, hrl, hmem⟩, (ybi' HX.out.cut1.up1 hP').up1⟩
 have HRQ := Lib.hid (show (if (yao' sess zxid ops S).2.2 ≠ 0 then (yea' 0 (yao' sess zxid ops S).2.2 (yao' sess zxid ops S).1.length ops.length, S, false) else (⟨0, zxid, 0, -1, (yao' sess zxid ops S).1⟩, (yao' sess zxid ops S).2.1, true)) = rr by rw [← HRR.out]; unfold ybw'; rw [if_neg h16, if_neg h00])
 have HL := Lib.hid (show ops.length ≤ 16 by omega)
 have q1 : decide (16 < ops.length) = false := decide_eq_false h16
 have q2 : decide (16 < (ops.length : Int)) = false := decide_eq_false (by omega)
 have q3 : ((ops.length : Int) == 0) = false := by rw [beq_eq_false_iff_ne]; omega
 clear h16 h00 HRR
 go_enter Tryz.func69, Tryz.ntmps69
 go_wp2_with (first | refine v1 ?_ | (refine vS ?_; clear HX; intro w HX) | (refine vA ?_; clear HX; (first | (have hq := b2; clear hq; intro w b3 HX) | (have hq := b; clear hq; intro w b2 HX) | intro w b HX)) | (refine vP ?_; clear HX; intro w av nv cv HX))
 refine (yg3' HX.out.up2.up2 (HBB.out.1.ok (by have := HBB.out.2; omega))).mono ?_
 rintro e w ⟨c, P', rfl, hP', hS⟩
 replace HX := Lib.hid hS
 have HP := Lib.hid hP'
 clear hS hP'
 go_wp2_with (first | refine v1 ?_ | (refine vS ?_; clear HX; intro w HX) | (refine vA ?_; clear HX; (first | (have hq := b2; clear hq; intro w b3 HX) | (have hq := b; clear hq; intro w b2 HX) | intro w b HX)) | (refine vP ?_; clear HX; intro w av nv cv HX))
 have HST := Lib.hid (show ypv' w0 t b b2 c sess zxid S ops K P R rows ops.length (.int .i64 (0 : Int)) w from ⟨0, P', [], none, 0, 0, by simp, rfl, HP.out, rfl, .nil, (HX.out.nilRow 11).up1⟩)
 clear HX HP
 go_loopg [31] ops.length (fun k v31 wr => ypv' w0 t b b2 c sess zxid S ops K P R rows k v31 wr)
 case atStart => exact HST.out
 case round =>
  obtain ⟨i, P9, xs, a, n, c', hik, rfl, hP9, hst, hrl, hS⟩ := hrel
  by_cases hlt : i < ops.length
  case neg =>
   obtain rfl : i = ops.length := by omega
   rw [List.take_length] at hst hrl hS
   have HE := Lib.hid (show rr = (⟨0, zxid, 0, -1, (yao' sess zxid ops S).1⟩, (yao' sess zxid ops S).2.1, true) by have := HRQ.out; rw [if_neg (fun hh => hh hst)] at this; exact this.symm)
   have HRL := Lib.hid hrl
   have HPP := Lib.hid hP9
   obtain ⟨mc, gc, c1, c2, c3, hS⟩ := yim' hS.up3
   obtain ⟨mt, gt, -, -, -, hS⟩ := yim' hS.up6
   have HC := Lib.hid (show _ ∧ _ ∧ _ from ⟨c1, c2, c3⟩)
   have HX := Lib.hid hS
   clear hst hrl hS hP9 hik hlt c1 c2 c3
   go_wp2_with (first | refine v1 ?_ | (refine vS ?_; clear HX; intro w HX) | (refine vA ?_; clear HX; (first | (have hq := b2; clear hq; intro w b3 HX) | (have hq := b; clear hq; intro w b2 HX) | intro w b HX)) | (refine vP ?_; clear HX; intro w av nv cv HX))
   refine ybp' HX rfl rfl (by (repeat (first | (with_reducible exact k_s) | (with_reducible apply k_m)))) (by kernel_rfl) ?_
   obtain ⟨c1, c2, c3⟩ := HC.out
   have h1 : Sep w0 w (ybc' 11 (.slice a n c') xs :: yab' w0 P9 :: ydd' t mc (yao' sess zxid ops S).2.1.room :: yay' .string mc (gc.map NodeG.kv) :: ThL (gc.map NodeG.th) :: R) rows := HX.out.pm 10 [7, 8, 0, 4, 5] rfl rfl
   have h2 := yin' (P := (11, .slice a n c', xs) :: P9) h1.poolRow.up3.up3.up3 c1 c2 (fun g hg => k_n _ (c3 g hg))
   rw [HE.out]
   exact ⟨_, (11, .slice a n c', xs) :: P9, rfl, fun q hq => k_n _ (HPP.out q hq), ⟨a, n, c', xs, rfl, HRL.out.mono (fun q hq => k_n _ hq), k_s⟩, h2.up1⟩
  case pos =>
   obtain ⟨g, off, rfl⟩ := HNE.out (by intro e; have := congrArg List.length e; rw [yar' yai'] at this; simp at this; omega)
   obtain ⟨E, hE⟩ := hS.up2.poolGet (hP9 _ HV.out)
   have hl := yc2' (P := Tryz.prog) (f := OpS.cells) (i := i) hE yai' sn_op hlt
   have hsplit : ops = ops.take i ++ ops[i] :: ops.drop (i + 1) := by rw [← List.drop_eq_getElem_cons hlt, List.take_append_drop]
   have htk : ops.take (i + 1) = ops.take i ++ [ops[i]] := List.take_succ_eq_append_getElem hlt
   have hsn := yjj' (sess := sess) (zxid := zxid) ops[i] (ops.take i) S hst
   have hfl := yjg' (sess := sess) (zxid := zxid) ops[i] (ops.drop (i + 1)) (ops.take i) S hst
   have hlen := yga' (ops.take i) S hst
   have hti : (ops.take i).length = i := by rw [List.length_take]; omega
   rw [hti] at hlen hfl
   rw [← hsplit] at hfl
   rw [← htk] at hsn
   have HTB := Lib.hid (ync' (sess := sess) (zxid := zxid) (ops.take i) HBB.out.1)
   have HPO := Lib.hid (hp ops[i] (List.getElem_mem hlt))
   obtain ⟨o, ho⟩ : ∃ o, ops[i] = o := ⟨_, rfl⟩
   rw [ho] at hl hsn hfl HPO
   obtain ⟨st, hstt⟩ : ∃ st, yao' sess zxid (ops.take i) S = st := ⟨_, rfl⟩
   rw [hstt] at hsn hfl hlen hst hrl hS HTB
   obtain ⟨r2, hr2⟩ : ∃ r2, doT st.2.1 o sess zxid = r2 := ⟨_, rfl⟩
   rw [hr2] at hsn hfl
   have HSN := Lib.hid (show _ ∧ _ ∧ _ from ⟨hsn, hfl, hlen⟩)
   have HRL := Lib.hid hrl
   have HR2 := Lib.hid hr2
   have HPP := Lib.hid hP9
   have HX := Lib.hid hS
   have q0 : decide (i < ops.length) = true := decide_eq_true hlt
   have q9 : i ≤ 16 := by have := HL.out; omega
   obtain ⟨kind, path, data, ver, flags⟩ := o
   simp only [OpS.cells] at hl
   clear hE hsplit htk hsn hfl hti hlen hst hrl hS ho hstt hr2 hP9
   go_wp2_with (first | refine v1 ?_ | (refine vS ?_; clear HX; intro w HX) | (refine vA ?_; clear HX; (first | (have hq := b2; clear hq; intro w b3 HX) | (have hq := b; clear hq; intro w b2 HX) | intro w b HX)) | (refine vP ?_; clear HX; intro w av nv cv HX) | ((with_reducible apply yau' hl); (· rfl); (· rfl); simp only [Act.put, k_a, k_b, k_c]))
   refine (yxp' HX.out.up4.up4 hd ⟨kind, path, data, ver, flags⟩ HPO.out sess zxid (HTB.out.ok (by have := HBB.out.2; have := HL.out; rw [List.length_take]; omega))).mono ?_
   rw [HR2.out]
   rintro e w ⟨nv, P2, rfl, hP2, hnv, hx⟩
   replace HX := Lib.hid hx
   obtain ⟨E, hE⟩ := Sep.poolGet hx hnv
   obtain ⟨na, nn, nc, rfl, -⟩ := id hE
   have HNV := Lib.hid hnv
   have HP2 := Lib.hid hP2
   clear hx hE hnv hP2
   obtain ⟨r, S3⟩ := r2
   dsimp only at HSN HX HNV ⊢
   simp only [ResS.cells]
   by_cases her : r.err = 0
   ·have q4 : (r.err != 0) = false := by rw [her]; rfl
    have HER := Lib.hid her
    have HBD := Lib.hid (show ∀ n, xs.length = n * 11 → n + 1 ≤ 140737488355328 ∧ (n + 1) * 120 ≤ 140737488355328 from fun n hn => by
     have h1 := HRL.out.len
     rw [HSN.out.2.2] at h1
     have := HL.out
     omega)
    clear her
    go_wp2_with (first | refine v1 ?_ | (refine vS ?_; clear HX; intro w HX) | (refine vA ?_; clear HX; (first | (have hq := b2; clear hq; intro w b3 HX) | (have hq := b; clear hq; intro w b2 HX) | intro w b HX)) | (refine vP ?_; clear HX; intro w av nv cv HX))
    go_roundg (ops.length - (i + 1))
    case rel =>
     have h := HSN.out.1
     rw [if_neg (fun hh => hh HER.out)] at h
     have h1 := ybi' HX.out.up7 HP2.out
     exact ⟨i + 1, P2, _, av, nv, cv, by omega, by go_num, fun q hq => HP2.out q (HPP.out q hq), by rw [h], by rw [h]; exact (HRL.out.mono HP2.out).snoc HNV.out, by rw [h]; exact h1.pm 9 [7, 1, 4, 5, 0, 8] rfl rfl⟩
    case measure => omega
   ·have q4 : (r.err != 0) = true := by rw [bne_iff_ne]; exact her
    have h1 := HSN.out.2.1 her
    have HE := Lib.hid (show rr = (yea' 0 r.err i ops.length, S, false) by have := HRQ.out; rw [h1.1, h1.2, if_pos her] at this; exact this.symm)
    clear h1 her
    go_wp2_with (first | refine v1 ?_ | (refine vS ?_; clear HX; intro w HX) | (refine vA ?_; clear HX; (first | (have hq := b2; clear hq; intro w b3 HX) | (have hq := b; clear hq; intro w b2 HX) | intro w b HX)) | (refine vP ?_; clear HX; intro w av nv cv HX))
    refine (yed' HX.out.up1 _ _ _ _).mono ?_
    rintro e w ⟨v, P', rfl, hP', ⟨a', n', c', xs', rfl, hrl', hmem⟩, hS⟩
    replace HX := Lib.hid hS
    clear hS
    go_wp2_with (first | refine v1 ?_ | (refine vS ?_; clear HX; intro w HX) | (refine vA ?_; clear HX; (first | (have hq := b2; clear hq; intro w b3 HX) | (have hq := b; clear hq; intro w b2 HX) | intro w b HX)) | (refine vP ?_; clear HX; intro w av nv cv HX))
    refine ybp' HX rfl rfl (by (repeat (first | (with_reducible exact k_s) | (with_reducible apply k_m)))) (by kernel_rfl) ?_
    rw [HE.out]
    have h1 := HX.out.up6
    exact ⟨_, P', rfl, fun q hq => hP' q (HP2.out q (HPP.out q hq)), ⟨a', n', c', xs', rfl, hrl', hmem⟩, (ybi' h1 (fun q hq => hP' q (HP2.out q hq))).pm 8 [1, 0] rfl rfl⟩
end
end Go.Proofs.YtcnkifbjlihaoaaGreatDoor

namespace Go.Av
open Go.RowKit
theorem yhq' (S : TreeS) (o : OpS) (sess zxid : Int) : (doT S o sess zxid).2.room = S.room := by
 unfold doT
 split
 ·rfl
 ·split
  ·rfl
  ·split
   ·unfold ybq'; split <;> rfl
   ·split
    ·unfold ybo'
     split
     ·rfl
     ·split
      ·rfl
      ·split
       ·rfl
       ·split
        ·rfl
        ·split <;> rfl
    ·rfl
theorem ygq' {sess zxid : Int} {q : OpS} {S : TreeS} (l : List OpS) (hq : (doT S q sess zxid).1.err = 0) : yao' sess zxid (q :: l) S = ((doT S q sess zxid).1 :: (yao' sess zxid l (doT S q sess zxid).2).1, (yao' sess zxid l (doT S q sess zxid).2).2) := by
 conv => lhs; unfold yao'
 rw [if_neg (fun h => h hq)]
theorem yig' {sess zxid : Int} {q : OpS} {S : TreeS} {l : List OpS} (h : (yao' sess zxid (q :: l) S).2.2 = 0) : (doT S q sess zxid).1.err = 0 := by
 unfold yao' at h
 by_cases hq : (doT S q sess zxid).1.err ≠ 0
 ·rw [if_pos hq] at h; exact absurd h hq
 ·exact Decidable.not_not.1 hq
theorem yji' {sess zxid : Int} : ∀ (l : List OpS) (S : TreeS), (yao' sess zxid l S).2.1.room = S.room
 | [], _ => rfl
 | o :: l, S => by
  unfold yao'
  split
  ·exact yhq' S o sess zxid
  ·exact (yji' l _).trans (yhq' S o sess zxid)
theorem ResL.at {P : List PRow} {l : List ResS} {xs : List Value} (h : ResL P l xs) : ∀ {i : Nat} (hi : i < l.length), ∃ nv, (1, nv, l[i].names.map sv) ∈ P ∧ ∀ j v, (l[i].cells nv).toList[j]? = some v → xs[i * 11 + j]? = some v := by
 induction h with
 | nil => intro i hi; cases hi
 | @cons r nv rs xs h1 h2 ih =>
  intro i hi
  cases i with
  | zero =>
   refine ⟨nv, h1, fun j v hv => ?_⟩
   have hv : (r.cells nv).toList[j]? = some v := hv
   have hj := (List.getElem?_eq_some_iff.1 hv).1
   rw [Nat.zero_mul, Nat.zero_add, List.getElem?_append_left hj]
   exact hv
  | succ i =>
   obtain ⟨nv', h3, h4⟩ := ih (i := i) (by simpa using hi)
   refine ⟨nv', h3, fun j v hv => ?_⟩
   have hl : (r.cells nv).toList.length = 11 := rfl
   rw [List.getElem?_append_right (by omega), hl, show (i + 1) * 11 + j - 11 = i * 11 + j by omega]
   exact h4 j v hv
end Go.Av

namespace Go.Av
open Go.RowKit
def ydp' (k : Int) : Bool := k == 5 || (k == 6 || k == 7)
def ydc' (l : List OpS) : Int := match l.find? (fun o => ybk' o != 0) with
 | none => 0
 | some o => ybk' o
def mayS (sess num : Int) (l : List OpS) : Int :=
 if sess < 1 ∨ num < 1 ∨ l.length = 0 then 1 else if 16 < l.length then 2 else if ydc' l ≠ 0 then ydc' l
 else if 1 < l.length ∧ (l.any fun o => ydp' o.kind) = true then 1 else 0
def ya1' (S : TreeS) (sess num zxid : Int) (ops : List OpS) : ReplyS × TreeS :=
 if mayS sess num ops ≠ 0 then (yea' num (mayS sess num ops) (-1) 0, S)
 else (⟨num, zxid, (ybw' S sess zxid ops).1.err, (ybw' S sess zxid ops).1.at_, (ybw' S sess zxid ops).1.rs⟩, (ybw' S sess zxid ops).2.1)
theorem yht' {l : List OpS} (h : ∀ o ∈ l, ybk' o = 0) : ydc' l = 0 := by
 unfold ydc'
 rw [List.find?_eq_none.2 fun o ho => by simp [h o ho]]
theorem yk4' {l : List OpS} {i : Nat} (hi : i < l.length) (h : ∀ o ∈ l.take i, ybk' o = 0) (hb : ybk' l[i] ≠ 0) : ydc' l = ybk' l[i] := by
 have hs : l = l.take i ++ l[i] :: l.drop (i + 1) := by rw [← List.drop_eq_getElem_cons hi, List.take_append_drop]
 obtain ⟨o, ho⟩ : ∃ o, l[i] = o := ⟨_, rfl⟩
 rw [ho] at hb hs ⊢
 obtain ⟨T, hT⟩ : ∃ T, l.take i = T := ⟨_, rfl⟩
 obtain ⟨D, hD⟩ : ∃ D, l.drop (i + 1) = D := ⟨_, rfl⟩
 rw [hT] at h hs
 rw [hD] at hs
 rw [hs]
 unfold ydc'
 rw [List.find?_append, List.find?_eq_none.2 fun o ho => by simp [h o ho]]
 rw [List.find?_cons]
 have : (ybk' o != 0) = true := by rw [bne_iff_ne]; exact hb
 rw [this]
 rfl
end Go.Av
namespace Go.Proofs.YtcnkifbjlihaoaaGreatDoor
open Go.RowKit Go.Av
section
variable {w0 w : World} {t : Nat} {S : TreeS} {P P' : List PRow} {R : List Thing} {rows : List (Value × Bs)}
set_option maxRecDepth 100000 in
theorem yrp' (k : Int) (w : World) : Calls Tryz.prog 139 #[.int .i64 k] w fun e w' => e = .returned (.bool (ydp' k)) ∧ w' = w := by
 unfold ydp'
 obtain ⟨b1, h1⟩ : ∃ b, (k == 5) = b := ⟨_, rfl⟩
 obtain ⟨b2, h2⟩ : ∃ b, (k == 6) = b := ⟨_, rfl⟩
 obtain ⟨b3, h3⟩ : ∃ b, (k == 7) = b := ⟨_, rfl⟩
 rw [h1, h2, h3]
 cases b1 <;> cases b2
 all_goals
  go_enter Tryz.func139, Tryz.ntmps139
  go_wp2
  go_ret
  exact ⟨rfl, rfl⟩
set_option maxRecDepth 100000 in
theorem ytz' (h : Sep w0 w R rows) (o : OpS) : Calls Tryz.prog 138 #[o.val] w fun e w' => e = .returned (.bool (ydp' o.kind)) ∧ Sep w0 w' R rows := by
 have HX := Lib.hid h
 clear h
 unfold OpS.val
 go_enter Tryz.func138, Tryz.ntmps138
 go_wp2_with (first | refine v1 ?_ | (refine vS ?_; clear HX; intro w HX) | (refine vA ?_; clear HX; (first | (have hq := b; clear hq; intro w b2 HX) | intro w b HX)))
 refine (yrp' _ _).mono ?_
 rintro e w1 ⟨rfl, rfl⟩
 go_wp2_with (first | refine v1 ?_ | (refine vS ?_; clear HX; intro w HX) | (refine vA ?_; clear HX; (first | (have hq := b; clear hq; intro w b2 HX) | intro w b HX)))
 go_ret
 exact ⟨rfl, HX.out.drop⟩
abbrev yx4' : Value := .func (.func 138) #[] #[]
def yvy' (w0 : World) (P : List PRow) (R : List Thing) (rows : List (Value × Bs)) (b : Bool) (e : Ending) (w' : World) : Prop :=
 ∃ r : Int, e = .returned (.int .i64 r) ∧ decide (0 ≤ r) = b ∧ Sep w0 w' (yab' w0 P :: R) rows
set_option maxRecDepth 100000 in
set_option maxHeartbeats 2000000 in
theorem yql' (h : Sep w0 w (yab' w0 P :: R) rows) (l : List OpS) (v : Value) (hv : (5, v, l.flatMap OpS.cells) ∈ P) (hn : l.length ≤ 100000) :
  Calls Tryz.prog 178 #[v, yx4'] w (yvy' w0 P R rows (l.any fun o => ydp' o.kind)) := by
 obtain ⟨E, hE⟩ := h.poolGet hv
 obtain ⟨a, n, c, rfl, hl0, -, -, hne⟩ := ReadRow.some hE
 rw [yar' yai'] at hl0
 obtain rfl : l.length = n := by omega
 have HNE := Lib.hid hne
 have HV := Lib.hid hv
 have HX := Lib.hid h
 clear h hE hne hv hl0
 go_enter Tryz.func178, Tryz.ntmps178
 go_wp2_with (first | refine v1 ?_ | (refine vS ?_; clear HX; intro w HX) | (refine vA ?_; clear HX; (first | (have hq := b; clear hq; intro w b2 HX) | intro w b HX)))
 go_loopg [8] l.length (fun k v wr => ∃ i : Nat, i + k = l.length ∧ v = .int .i64 (i : Int) ∧ (∀ o ∈ l.take i, ydp' o.kind = false) ∧ Sep w0 wr (yab' w0 P :: R) rows)
 case atStart => exact ⟨0, by simp, rfl, by simp, HX.out⟩
 case round =>
  rename World => w
  obtain ⟨i, hik, rfl, hno, hS⟩ := hrel
  replace HX := Lib.hid hS
  have HNO := Lib.hid hno
  clear hS hno
  by_cases hlt : i < l.length
  case neg =>
   obtain rfl : i = l.length := by omega
   clear hlt hik
   go_wp2_with (first | refine v1 ?_ | (refine vS ?_; clear HX; intro w HX) | (refine vA ?_; clear HX; (first | (have hq := b; clear hq; intro w b2 HX) | intro w b HX)))
   go_ret
   have h1 := HNO.out
   rw [List.take_length] at h1
   exact ⟨-1, rfl, by rw [List.any_eq_false.2 fun o ho => by simp [h1 o ho]]; rfl, HX.out⟩
  case pos =>
   obtain ⟨g, off, rfl⟩ := HNE.out (by intro e; have := congrArg List.length e; rw [yar' yai'] at this; simp at this; omega)
   obtain ⟨E, hE⟩ := HX.out.poolGet HV.out
   have hl := yc2' (P := Tryz.prog) (f := OpS.cells) (i := i) hE yai' sn_op hlt
   have HTK := Lib.hid (show l.take (i + 1) = l.take i ++ [l[i]] from List.take_succ_eq_append_getElem hlt)
   have HIN := Lib.hid (show l[i] ∈ l from List.getElem_mem hlt)
   obtain ⟨o, ho⟩ : ∃ o, l[i] = o := ⟨_, rfl⟩
   rw [ho] at hl HTK HIN
   have q0 : decide (i < l.length) = true := decide_eq_true hlt
   clear hE ho
   go_wp2_with (first | refine v1 ?_ | (refine vS ?_; clear HX; intro w HX) | (refine vA ?_; clear HX; (first | (have hq := b; clear hq; intro w b2 HX) | intro w b HX)) | ((with_reducible apply yau' hl); (· rfl); (· rfl); simp only [Act.put, k_a, k_b, k_c]))
   refine (ytz' HX.out o).mono ?_
   obtain ⟨b, hb⟩ : ∃ b, ydp' o.kind = b := ⟨_, rfl⟩
   rw [hb]
   rintro e w ⟨rfl, hx⟩
   clear HX hl
   have HX := Lib.hid hx
   clear hx
   cases b with
   | true =>
    go_wp2_with (first | refine v1 ?_ | (refine vS ?_; clear HX; intro w HX) | (refine vA ?_; clear HX; (first | (have hq := b; clear hq; intro w b2 HX) | intro w b HX)))
    go_ret
    refine ⟨(i : Int), rfl, ?_, HX.out⟩
    rw [List.any_eq_true.2 ⟨o, HIN.out, hb⟩]
    exact decide_eq_true (by omega)
   | false =>
    have HB := Lib.hid hb
    clear hb
    go_wp2_with (first | refine v1 ?_ | (refine vS ?_; clear HX; intro w HX) | (refine vA ?_; clear HX; (first | (have hq := b; clear hq; intro w b2 HX) | intro w b HX)))
    go_roundg (l.length - (i + 1))
    case rel => exact ⟨i + 1, by omega, by go_num, by
     rw [HTK.out]
     intro q hq
     rcases List.mem_append.1 hq with hq | hq
     ·exact HNO.out q hq
     ·rw [List.mem_singleton] at hq; rw [hq]; exact HB.out, HX.out⟩
    case measure => omega
set_option maxRecDepth 100000 in
theorem yot' (h : Sep w0 w (yab' w0 P :: R) rows) (l : List OpS) (v : Value) (hv : (5, v, l.flatMap OpS.cells) ∈ P) (hn : l.length ≤ 100000) :
  Calls Tryz.prog 137 #[v, yx4'] w fun e w' => e = .returned (.bool (l.any fun o => ydp' o.kind)) ∧ Sep w0 w' (yab' w0 P :: R) rows := by
 have HC := Lib.hid (yql' h l v hv hn)
 clear h hv hn
 obtain ⟨b, hb⟩ : ∃ b, (l.any fun o => ydp' o.kind) = b := ⟨_, rfl⟩
 rw [hb] at HC ⊢
 clear hb
 go_enter Tryz.func137, Tryz.ntmps137
 go_wp2_with fail
 refine HC.out.mono ?_
 rintro e w ⟨r, rfl, hr, hS⟩
 have HX := Lib.hid hS
 clear hS HC
 go_wp2_with fail
 go_ret
 refine ⟨?_, HX.out⟩
 rw [← hr]
 rfl
set_option maxRecDepth 100000 in
set_option maxHeartbeats 4000000 in
theorem yj6' (h : Sep w0 w (yab' w0 P :: R) rows) (hd : DoorN w0) (sess num : Int) (l : List OpS) (v : Value) (hv : (5, v, l.flatMap OpS.cells) ∈ P) (hp : ∀ o ∈ l, o.path.size ≤ 100000) :
  Calls Tryz.prog 60 #[.agg #[.int .i64 sess, .int .i64 num, v]] w fun e w' => e = .returned (.int .i64 (mayS sess num l)) ∧ Sep w0 w' (yab' w0 P :: R) rows := by
 obtain ⟨E, hE⟩ := h.poolGet hv
 obtain ⟨a, n, c, rfl, hl0, -, -, hne⟩ := ReadRow.some hE
 rw [yar' yai'] at hl0
 obtain rfl : l.length = n := by omega
 have HNE := Lib.hid hne
 have HV := Lib.hid hv
 have HX := Lib.hid h
 have HPS := Lib.hid hp
 clear h hE hne hv hl0 hp
 obtain ⟨m, hm⟩ : ∃ m, mayS sess num l = m := ⟨_, rfl⟩
 rw [hm]
 have HM := Lib.hid hm
 clear hm
 by_cases h1 : sess < 1 ∨ num < 1 ∨ l.length = 0
 ·obtain rfl : m = 1 := by rw [← HM.out]; unfold mayS; rw [if_pos h1]
  by_cases h2 : sess < 1
  ·have q1 : decide (sess < 1) = true := decide_eq_true h2
   go_enter Tryz.func60, Tryz.ntmps60
   go_wp2_with (first | refine v1 ?_ | (refine vS ?_; clear HX; intro w HX) | (refine vA ?_; clear HX; (first | (have hq := b; clear hq; intro w b2 HX) | intro w b HX)))
   go_ret
   exact ⟨rfl, HX.out.drop⟩
  ·have q1 : decide (sess < 1) = false := decide_eq_false h2
   by_cases h3 : num < 1
   ·have q2 : decide (num < 1) = true := decide_eq_true h3
    go_enter Tryz.func60, Tryz.ntmps60
    go_wp2_with (first | refine v1 ?_ | (refine vS ?_; clear HX; intro w HX) | (refine vA ?_; clear HX; (first | (have hq := b; clear hq; intro w b2 HX) | intro w b HX)))
    go_ret
    exact ⟨rfl, HX.out.drop⟩
   ·have q2 : decide (num < 1) = false := decide_eq_false h3
    have h4 : l.length = 0 := by omega
    have q3 : ((l.length : Int) == 0) = true := by rw [h4]; rfl
    go_enter Tryz.func60, Tryz.ntmps60
    go_wp2_with (first | refine v1 ?_ | (refine vS ?_; clear HX; intro w HX) | (refine vA ?_; clear HX; (first | (have hq := b; clear hq; intro w b2 HX) | intro w b HX)))
    go_ret
    exact ⟨rfl, HX.out.drop⟩
 have q1 : decide (sess < 1) = false := decide_eq_false (fun hh => h1 (.inl hh))
 have q2 : decide (num < 1) = false := decide_eq_false (fun hh => h1 (.inr (.inl hh)))
 have q3 : ((l.length : Int) == 0) = false := by rw [beq_eq_false_iff_ne]; omega
 by_cases h2 : 16 < l.length
 ·obtain rfl : m = 2 := by rw [← HM.out]; unfold mayS; rw [if_neg h1, if_pos h2]
  have q4 : decide (16 < l.length) = true := decide_eq_true h2
  have q5 : decide (16 < (l.length : Int)) = true := decide_eq_true (by omega)
  go_enter Tryz.func60, Tryz.ntmps60
  go_wp2_with (first | refine v1 ?_ | (refine vS ?_; clear HX; intro w HX) | (refine vA ?_; clear HX; (first | (have hq := b; clear hq; intro w b2 HX) | intro w b HX)))
  go_ret
  exact ⟨rfl, HX.out.drop⟩
 have q4 : decide (16 < l.length) = false := decide_eq_false h2
 have q5 : decide (16 < (l.length : Int)) = false := decide_eq_false (by omega)
 have HMM := Lib.hid (show (if ydc' l ≠ 0 then ydc' l else if 1 < l.length ∧ (l.any fun o => ydp' o.kind) = true then 1 else 0) = m by rw [← HM.out]; unfold mayS; rw [if_neg h1, if_neg h2])
 have hl1 : 1 ≤ l.length ∧ l.length ≤ 16 := by omega
 clear HM
 go_enter Tryz.func60, Tryz.ntmps60
 go_wp2_with (first | refine v1 ?_ | (refine vS ?_; clear HX; intro w HX) | (refine vA ?_; clear HX; (first | (have hq := b; clear hq; intro w b2 HX) | intro w b HX)))
 clear q1 q2 q3 q4 q5 h1 h2
 have HST := HX
 go_loopg [29] l.length (fun k v wr => ∃ i : Nat, i + k = l.length ∧ v = .int .i64 (i : Int) ∧ (∀ o ∈ l.take i, ybk' o = 0) ∧ Sep w0 wr (yac' b (.cells #[.int .i64 sess, .int .i64 num, .slice a l.length c] 42 (0, 0)) :: yab' w0 P :: R) rows)
 case atStart => exact ⟨0, by simp, rfl, by simp, HX.out⟩
 case round =>
  rename World => w
  obtain ⟨i, hik, rfl, hok, hS⟩ := hrel
  clear HX HST
  have HX := Lib.hid hS
  have HOK := Lib.hid hok
  clear hS hok
  by_cases hlt : i < l.length
  case neg =>
   obtain rfl : i = l.length := by omega
   clear hlt hik
   have hf : ydc' l = 0 := yht' (by have := HOK.out; rwa [List.take_length] at this)
   have hmm := HMM.out
   rw [if_neg (fun hh => hh hf)] at hmm
   by_cases h3 : 1 < l.length
   ·have q1 : decide (1 < l.length) = true := decide_eq_true h3
    have q2 : decide (1 < (l.length : Int)) = true := decide_eq_true (by omega)
    have HMM2 := Lib.hid hmm
    clear hmm hf HMM
    go_wp2_with (first | refine v1 ?_ | (refine vS ?_; clear HX; intro w HX) | (refine vA ?_; clear HX; (first | (have hq := b; clear hq; intro w b2 HX) | intro w b HX)))
    refine (yot' HX.out.up1 l _ HV.out (by omega)).mono ?_
    obtain ⟨bb, hbb⟩ : ∃ bb, (l.any fun o => ydp' o.kind) = bb := ⟨_, rfl⟩
    rw [hbb] at HMM2 ⊢
    rintro e w ⟨rfl, hx⟩
    replace HX := Lib.hid hx
    clear hx
    cases bb with
    | true =>
     obtain rfl : m = 1 := by rw [← HMM2.out, if_pos ⟨h3, rfl⟩]
     go_wp2_with (first | refine v1 ?_ | (refine vS ?_; clear HX; intro w HX) | (refine vA ?_; clear HX; (first | (have hq := b; clear hq; intro w b2 HX) | intro w b HX)))
     go_ret
     exact ⟨rfl, HX.out.cut1⟩
    | false =>
     obtain rfl : m = 0 := by rw [← HMM2.out, if_neg (fun hh => by cases hh.2)]
     go_wp2_with (first | refine v1 ?_ | (refine vS ?_; clear HX; intro w HX) | (refine vA ?_; clear HX; (first | (have hq := b; clear hq; intro w b2 HX) | intro w b HX)))
     go_ret
     exact ⟨rfl, HX.out.cut1⟩
   ·have q1 : decide (1 < l.length) = false := decide_eq_false h3
    have q2 : decide (1 < (l.length : Int)) = false := decide_eq_false (by omega)
    obtain rfl : m = 0 := by rw [← hmm, if_neg (fun hh => h3 hh.1)]
    go_wp2_with (first | refine v1 ?_ | (refine vS ?_; clear HX; intro w HX) | (refine vA ?_; clear HX; (first | (have hq := b; clear hq; intro w b2 HX) | intro w b HX)))
    go_ret
    exact ⟨rfl, HX.out.drop⟩
  case pos =>
   obtain ⟨g, off, rfl⟩ := HNE.out (by intro e; have := congrArg List.length e; rw [yar' yai'] at this; simp at this; omega)
   obtain ⟨E, hE⟩ := HX.out.up1.poolGet HV.out
   have hl := yc2' (P := Tryz.prog) (f := OpS.cells) (i := i) hE yai' sn_op hlt
   have HTK := Lib.hid (show l.take (i + 1) = l.take i ++ [l[i]] from List.take_succ_eq_append_getElem hlt)
   have HPO := Lib.hid (HPS.out l[i] (List.getElem_mem hlt))
   have HFE := Lib.hid (fun hb => yk4' hlt HOK.out hb)
   obtain ⟨o, ho⟩ : ∃ o, l[i] = o := ⟨_, rfl⟩
   rw [ho] at hl HTK HPO HFE
   have q0 : decide (i < l.length) = true := decide_eq_true hlt
   obtain ⟨kind, path, data, ver, flags⟩ := o
   simp only [OpS.cells] at hl
   clear hE ho
   go_wp2_with (first | refine v1 ?_ | (refine vS ?_; clear HX; intro w HX) | (refine vA ?_; clear HX; (first | (have hq := b; clear hq; intro w b2 HX) | intro w b HX)) | ((with_reducible apply yau' hl); (· rfl); (· rfl); simp only [Act.put, k_a, k_b, k_c]))
   obtain ⟨ge, hge⟩ : ∃ ge, ybk' ⟨kind, path, data, ver, flags⟩ = ge := ⟨_, rfl⟩
   have hgo := yi3' ⟨kind, path, data, ver, flags⟩ _ (hd.sep HX.out) HPO.out
   rw [hge] at hgo HFE
   refine hgo.mono ?_
   rintro e w1 ⟨rfl, hu⟩
   replace HX := Lib.hid (HX.out.keep hu)
   have HGE := Lib.hid hge
   clear hu hgo hl hge
   by_cases h0 : ge = 0
   ·have q1 : (ge != 0) = false := by rw [h0]; rfl
    go_wp2_with (first | refine v1 ?_ | (refine vS ?_; clear HX; intro w HX) | (refine vA ?_; clear HX; (first | (have hq := b; clear hq; intro w b2 HX) | intro w b HX)))
    go_roundg (l.length - (i + 1))
    case rel => exact ⟨i + 1, by omega, by go_num, by
     rw [HTK.out]
     intro q hq
     rcases List.mem_append.1 hq with hq | hq
     ·exact HOK.out q hq
     ·rw [List.mem_singleton] at hq; rw [hq, HGE.out, h0], HX.out.drop⟩
    case measure => omega
   ·have q1 : (ge != 0) = true := by rw [bne_iff_ne]; exact h0
    obtain rfl : m = ge := by
     have := HMM.out
     rw [HFE.out h0, if_pos h0] at this
     exact this.symm
    go_wp2_with (first | refine v1 ?_ | (refine vS ?_; clear HX; intro w HX) | (refine vA ?_; clear HX; (first | (have hq := b; clear hq; intro w b2 HX) | intro w b HX)))
    go_ret
    exact ⟨rfl, HX.out.drop.drop⟩
def yv1' (w0 : World) (t : Nat) (P : List PRow) (R : List Thing) (rows : List (Value × Bs)) (m : ReplyS × TreeS) (e : Ending) (w' : World) : Prop :=
 ∃ v P', e = .returned v ∧ (∀ q ∈ P, q ∈ P') ∧ yjt' P' m.1 v ∧ Sep w0 w' (yab' w0 P' :: yaq' t m.2 P' :: R) rows
set_option maxRecDepth 100000 in
set_option maxHeartbeats 4000000 in
theorem ym4' {K : Nat} (h : Sep w0 w (yab' w0 P :: yaq' t S P :: R) rows) (hd : DoorN w0) (hB : TreeB K S) (hK : K + 16 ≤ 100000) (sess num zxid : Int) (ops : List OpS) (v : Value) (hv : (5, v, ops.flatMap OpS.cells) ∈ P) (hp : ∀ o ∈ ops, o.path.size ≤ 100000) :
  Calls Tryz.prog 63 #[.pointer (some ⟨t, 0, none⟩), .agg #[.int .i64 sess, .int .i64 num, v], .int .i64 zxid] w (yv1' w0 t P R rows (ya1' S sess num zxid ops)) := by
 obtain ⟨E, hE⟩ := h.poolGet hv
 obtain ⟨a, n, c, rfl, -⟩ := ReadRow.some hE
 have HV := Lib.hid hv
 have HX := Lib.hid h
 have HPS := Lib.hid hp
 have HB := Lib.hid (show _ ∧ _ from ⟨hB, hK⟩)
 obtain ⟨rr, hrr⟩ : ∃ rr, ya1' S sess num zxid ops = rr := ⟨_, rfl⟩
 rw [hrr]
 have HRR := Lib.hid hrr
 clear h hE hv hp hB hK hrr
 obtain ⟨me, hme⟩ : ∃ me, mayS sess num ops = me := ⟨_, rfl⟩
 have HME := Lib.hid hme
 clear hme
 go_enter Tryz.func63, Tryz.ntmps63
 go_wp2_with (first | refine v1 ?_ | (refine vS ?_; clear HX; intro w HX) | (refine vA ?_; clear HX; (first | (have hq := b; clear hq; intro w b2 HX) | intro w b HX)))
 refine (yj6' HX.out.up2 hd sess num ops _ HV.out HPS.out).mono ?_
 rw [HME.out]
 rintro e w ⟨rfl, hx⟩
 replace HX := Lib.hid hx
 clear hx
 by_cases h0 : me = 0
 ·have q1 : (me != 0) = false := by rw [h0]; rfl
  have HE := Lib.hid (show rr = (⟨num, zxid, (ybw' S sess zxid ops).1.err, (ybw' S sess zxid ops).1.at_, (ybw' S sess zxid ops).1.rs⟩, (ybw' S sess zxid ops).2.1) by rw [← HRR.out]; unfold ya1'; rw [if_neg (fun hh => hh (HME.out.trans h0))])
  clear h0
  go_wp2_with (first | refine v1 ?_ | (refine vS ?_; clear HX; intro w HX) | (refine vA ?_; clear HX; (first | (have hq := b; clear hq; intro w b2 HX) | intro w b HX)))
  refine (yw0' HX.out.up3.up1 hd HB.out.1 HB.out.2 sess zxid ops _ HV.out HPS.out).mono ?_
  obtain ⟨⟨⟨n1, z1, e1, a1, rs1⟩, S1, ok1⟩, hm1⟩ : ∃ m1, ybw' S sess zxid ops = m1 := ⟨_, rfl⟩
  rw [hm1] at HE ⊢
  rintro e w ⟨v, P', rfl, hP', ⟨a9, n9, c9, xs9, rfl, hrl9, hmem9⟩, hx⟩
  clear HX hm1
  have HX := Lib.hid hx
  have HPN := Lib.hid (show _ ∧ _ ∧ _ from ⟨hP', hrl9, hmem9⟩)
  clear hx hP' hrl9 hmem9
  dsimp only at HX HE HPN ⊢
  go_wp2_with (first | refine v1 ?_ | (refine vS ?_; clear HX; intro w HX) | (refine vA ?_; clear HX; (first | (have hq := b; clear hq; intro w b2 HX) | intro w b HX)))
  refine ybd' HX rfl rfl (by (repeat (first | (with_reducible exact k_s) | (with_reducible apply k_m)))) (by kernel_rfl) ?_
  rw [HE.out]
  exact ⟨_, P', rfl, HPN.out.1, ⟨a9, n9, c9, xs9, rfl, HPN.out.2.1, HPN.out.2.2⟩, HX.out.pm 5 [1, 2] rfl rfl⟩
 ·have q1 : (me != 0) = true := by rw [bne_iff_ne]; exact h0
  have HE := Lib.hid (show rr = (yea' num me (-1) 0, S) by rw [← HRR.out]; unfold ya1'; rw [HME.out, if_pos h0])
  clear h0
  go_wp2_with (first | refine v1 ?_ | (refine vS ?_; clear HX; intro w HX) | (refine vA ?_; clear HX; (first | (have hq := b; clear hq; intro w b2 HX) | intro w b HX)))
  refine (yed' HX.out _ _ _ _).mono ?_
  rintro e w ⟨v, P', rfl, hP', ⟨a', n', c', xs', rfl, hrl, hmem⟩, hx⟩
  replace HX := Lib.hid hx
  have HPN := Lib.hid (show _ ∧ _ ∧ _ from ⟨hP', hrl, hmem⟩)
  clear hx hP' hrl hmem
  dsimp only at HX ⊢
  go_wp2_with (first | refine v1 ?_ | (refine vS ?_; clear HX; intro w HX) | (refine vA ?_; clear HX; (first | (have hq := b; clear hq; intro w b2 HX) | intro w b HX)))
  refine ybd' HX rfl rfl (by (repeat (first | (with_reducible exact k_s) | (with_reducible apply k_m)))) (by kernel_rfl) ?_
  rw [HE.out]
  exact ⟨_, P', rfl, HPN.out.1, ⟨a', n', c', xs', rfl, HPN.out.2.1, HPN.out.2.2⟩, (ybi' HX.out.up3 HPN.out.1).pm 4 [1, 0] rfl rfl⟩
end
end Go.Proofs.YtcnkifbjlihaoaaGreatDoor

namespace Go.Av
open Go.RowKit
def opB (o : OpS) : Bs := yad' o.kind ++ (ybl' o.p ++ (ybl' o.data.data.toList ++ (yad' o.ver ++ yad' o.flags)))
def putR (sess num : Int) (ops : List OpS) : Bs := if mayS sess num ops ≠ 0 then [] else yad' sess ++ (yad' num ++ (yad' ops.length ++ ops.flatMap opB))
def shB (l : List Int) : Bs := yad' l.length ++ l.flatMap yad'
def bitI (b : Bool) : Int := if b then 1 else 0
structure CmdS where
 kind : Int
 id : Int
 sess : Int
 rs : Int
 rn : Int
 ops : List OpS
 shards : List Int
 shard : Int
 yes : Bool
def putC (c : CmdS) : Bs :=
 if c.kind = 1 then (yad' c.kind ++ yad' c.id) ++ ybl' (putR c.rs c.rn c.ops)
 else if c.kind = 2 then ((yad' c.kind ++ yad' c.id) ++ yad' c.sess ++ shB c.shards) ++ ybl' (putR c.sess c.id c.ops)
 else if c.kind = 3 then ((yad' c.kind ++ yad' c.id) ++ yad' c.sess) ++ shB c.shards
 else if c.kind = 4 then (yad' c.kind ++ yad' c.id) ++ yad' (bitI c.yes)
 else if c.kind = 5 then (yad' c.kind ++ yad' c.id) ++ shB c.shards
 else if c.kind = 6 then (yad' c.kind ++ yad' c.id) ++ yad' c.shard ++ yad' (bitI c.yes)
 else if c.kind = 7 then (yad' c.kind ++ yad' c.id) ++ yad' c.shard
 else if c.kind = 8 then yad' c.kind ++ yad' c.id
 else []
end Go.Av
namespace Go.Proofs.YtcnkifbjlihaoaaGreatDoor
open Go.RowKit Go.Av
def opR (d : Rd) : OpS × Rd := match i64R d with
 | (k, d1) => match yaj' 20000 d1 with
  | (p, d2) => match yaj' 20000 d2 with
   | (t, d3) => match i64R d3 with
    | (v, d4) => match i64R d4 with
     | (f, d5) => (⟨k, ⟨p.toArray⟩, ⟨t.toArray⟩, v, f⟩, d5)
def opsR : Nat → Rd → List OpS × Rd
 | 0, d => ([], d)
 | n + 1, d => ((opR d).1 :: (opsR n (opR d).2).1, (opsR n (opR d).2).2)
theorem ydn' (n : Nat) (d : Rd) : opsR (n + 1) d = ((opR d).1 :: (opsR n (opR d).2).1, (opsR n (opR d).2).2) := by rw [opsR]
theorem ylr' : ∀ (n : Nat) (d : Rd), opsR (n + 1) d = ((opsR n d).1 ++ [(opR (opsR n d).2).1], (opR (opsR n d).2).2)
 | 0, d => by
  rw [ydn', show opsR 0 d = ([], d) from rfl]
  generalize opR d = x
  rfl
 | n + 1, d => by
  have ih := ylr' n (opR d).2
  rw [ydn' (n + 1) d, ydn' n d, ih]
  generalize opR d = x
  rw [List.cons_append]
theorem yj9' : ∀ (n : Nat) (d : Rd), (opsR n d).1.length = n
 | 0, d => rfl
 | n + 1, d => by rw [ydn', List.length_cons, yj9' n]
def endR (d : Rd) : Bool := !d.2 && d.1.isEmpty
theorem yw6' {o : OpS} (hg : ybk' o = 0) : (opB o).length ≤ 1240 := by
 obtain ⟨h1, h2, -, -⟩ := yce' hg
 have hp := yb3' (yb2' h1).2.2.1
 have hds : o.data.size = o.data.data.toList.length := (Array.length_toList).symm
 unfold opB ybl'
 simp only [List.length_append, yaf']
 omega
theorem yhe' : ∀ (l : List OpS), (∀ o ∈ l, ybk' o = 0) → (l.flatMap opB).length ≤ 1240 * l.length
 | [], _ => Nat.le_refl _
 | o :: l, h => by
  have h1 := yw6' (h o k_s)
  have h2 := yhe' l (fun q hq => h q (k_n _ hq))
  rw [List.flatMap_cons, List.length_append, List.length_cons]
  omega
def rawR (b : Bs) : (Int × Int × List OpS) × Rd :=
 (((i64R (b, false)).1, (i64R (i64R (b, false)).2).1, (opsR (cntR 16 (i64R (i64R (b, false)).2).2).1.toNat (cntR 16 (i64R (i64R (b, false)).2).2).2).1), (opsR (cntR 16 (i64R (i64R (b, false)).2).2).1.toNat (cntR 16 (i64R (i64R (b, false)).2).2).2).2)
def getR (b : Bs) : Option (Int × Int × List OpS) := if endR (rawR b).2 = true ∧ mayS (rawR b).1.1 (rawR b).1.2.1 (rawR b).1.2.2 = 0 then some (rawR b).1 else none
def FitO (o : OpS) : Prop := -9223372036854775808 ≤ o.ver ∧ o.ver ≤ 9223372036854775807
theorem yw9' {o : OpS} (hg : ybk' o = 0) (hf : FitO o) (x : Bs) (bad : Bool) : opR (opB o ++ x, bad) = (o, x, bad) := by
 obtain ⟨h1, h2, -, -⟩ := yce' hg
 obtain ⟨f1, f2, f3, f4, f5, f6⟩ := yb2' h1
 have hp := yb3' f3
 have hps : o.path.size = o.p.length := by unfold OpS.p; exact (Array.length_toList).symm
 have hds : o.data.size = o.data.data.toList.length := (Array.length_toList).symm
 obtain ⟨kind, path, data, ver, flags⟩ := o
 have e1 : i64R (opB ⟨kind, path, data, ver, flags⟩ ++ x, bad) = (kind, ybl' path.data.toList ++ (ybl' data.data.toList ++ (yad' ver ++ (yad' flags ++ x))), bad) := by
  have : opB ⟨kind, path, data, ver, flags⟩ ++ x = yad' kind ++ (ybl' path.data.toList ++ (ybl' data.data.toList ++ (yad' ver ++ (yad' flags ++ x)))) := by
   unfold opB OpS.p
   simp only [List.append_assoc]
  rw [this]
  exact yby' kind _ bad (by dsimp only at f1; omega) (by dsimp only at f2; omega)
 have e2 := ycz' 20000 path.data.toList (ybl' data.data.toList ++ (yad' ver ++ (yad' flags ++ x))) bad (by dsimp only [OpS.p] at hp; omega) (by omega)
 have e3 := ycz' 20000 data.data.toList (yad' ver ++ (yad' flags ++ x)) bad (by dsimp only at hds h2; omega) (by omega)
 have e4 := yby' ver (yad' flags ++ x) bad hf.1 hf.2
 have e5 := yby' flags x bad (by dsimp only at f5; omega) (by dsimp only at f6; omega)
 unfold opR
 rw [e1]
 dsimp only
 rw [e2]
 dsimp only
 rw [e3]
 dsimp only
 rw [e4]
 dsimp only
 rw [e5]
theorem yn5' : ∀ (l : List OpS) (x : Bs) (bad : Bool), (∀ o ∈ l, ybk' o = 0 ∧ FitO o) → opsR l.length (l.flatMap opB ++ x, bad) = (l, x, bad)
 | [], x, bad, _ => rfl
 | o :: l, x, bad, h => by
  have h1 := h o k_s
  rw [List.length_cons, ydn', List.flatMap_cons, List.append_assoc, yw9' h1.1 h1.2]
  dsimp only
  rw [yn5' l x bad (fun q hq => h q (k_n _ hq))]
end Go.Proofs.YtcnkifbjlihaoaaGreatDoor
namespace Go.Av
theorem ygl' {sess num : Int} {l : List OpS} (h : mayS sess num l = 0) : 1 ≤ sess ∧ 1 ≤ num ∧ l.length ≤ 16 ∧ l ≠ [] := by
 unfold mayS at h
 split at h
 ·cases h
 ·rename_i h1
  split at h
  ·cases h
  ·rename_i h2
   refine ⟨by omega, by omega, by omega, ?_⟩
   rintro rfl
   exact h1 (.inr (.inr rfl))
theorem yfw' {sess num : Int} {l : List OpS} (h : mayS sess num l = 0) : ∀ o ∈ l, ybk' o = 0 := by
 unfold mayS at h
 split at h
 ·cases h
 ·split at h
  ·cases h
  ·split at h
   ·rename_i h3; exact absurd h h3
   ·rename_i h3
    intro o ho
    have h3 : ydc' l = 0 := by simpa using h3
    unfold ydc' at h3
    cases hf : l.find? (fun o => ybk' o != 0) with
    | none =>
     have := List.find?_eq_none.1 hf o ho
     simpa using this
    | some q =>
     rw [hf] at h3
     have := List.find?_some hf
     rw [bne_iff_ne] at this
     exact absurd h3 this
end Go.Av
namespace Go.Proofs.YtcnkifbjlihaoaaGreatDoor
open Go.RowKit Go.Av
theorem ydf' (sess num : Int) (l : List OpS) : (putR sess num l).length ≤ 19864 := by
 unfold putR
 split
 ·simp
 ·rename_i h
  have h : mayS sess num l = 0 := by omega
  have h1 := (ygl' h).2.2.1
  have h2 := yhe' l (yfw' h)
  simp only [List.length_append, yaf']
  omega
theorem yuf' {sess num : Int} {l : List OpS} (h : mayS sess num l = 0) (hs : sess ≤ 9223372036854775807) (hn : num ≤ 9223372036854775807) (hf : ∀ o ∈ l, FitO o) : rawR (putR sess num l) = ((sess, num, l), [], false) := by
 obtain ⟨h1, h2, h3, -⟩ := ygl' h
 have hg := yfw' h
 unfold putR rawR
 rw [if_neg (fun hh => hh h)]
 have e1 := yby' sess (yad' num ++ (yad' l.length ++ l.flatMap opB)) false (by omega) hs
 have e2 := yby' num (yad' l.length ++ l.flatMap opB) false (by omega) hn
 have e3 := yhm' 16 l.length (l.flatMap opB) false (by omega) (by omega) (by omega)
 have e4 := yn5' l [] false (fun o ho => ⟨hg o ho, hf o ho⟩)
 rw [List.append_nil] at e4
 rw [e1]
 dsimp only
 rw [e2]
 dsimp only
 rw [e3]
 dsimp only
 rw [Int.toNat_natCast, e4]
theorem yha' {sess num : Int} {l : List OpS} (h : mayS sess num l = 0) (hs : sess ≤ 9223372036854775807) (hn : num ≤ 9223372036854775807) (hf : ∀ o ∈ l, FitO o) : getR (putR sess num l) = some (sess, num, l) := by
 unfold getR
 rw [yuf' h hs hn hf, if_pos ⟨rfl, h⟩]
theorem ynt' : getR [] = none := by
 unfold getR
 rw [if_neg]
 rintro ⟨h, -⟩
 cases h
end Go.Proofs.YtcnkifbjlihaoaaGreatDoor
