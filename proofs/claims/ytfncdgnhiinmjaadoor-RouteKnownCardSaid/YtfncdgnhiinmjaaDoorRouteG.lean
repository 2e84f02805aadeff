/-
  Routes in bytes: Put.
-/
import Derived.Test.YtfncdgnhiinmjaaDoorRouteS
import Derived.Test.YtfncdgnhiinmjaaDoorPackU
import Derived.Test.YtfncdgnhiinmjaaDoorLay
import Derived.Test.YtfncdgnhiinmjaaDoorKeysS
import Derived.Test.YtfncdgnhiinmjaaDoorRegB
namespace Go.Proofs.YtfncdgnhiinmjaaDoor
open Go.RowKit Go.Av Go.Maps Go.Sort

def keysM (S : RtS) : List Bs := (S.mv.map (·.1)).mergeSort fun x y => decide (x ≤ y)
def entM (S : RtS) (k : Bs) : Bs := textB k ++ packI ((lookM k S.mv).getD 0)
def bytesT (S : RtS) : Bs := ([S.n, S.ver, (S.mv.length : Int)].flatMap packI) ++ (keysM S).flatMap (entM S)
/-- Names that are short. -/
def RtSh (S : RtS) : Prop := S.mv.length ≤ 100 ∧ ∀ e ∈ S.mv, e.1.length ≤ 1000

/-- The same, its map by its name. -/
def RtM (w0 w : World) (t m : Nat) (S : RtS) (R : List Thing) (rows : List (Value × Bs)) : Prop := Sep w0 w (rtTh t m S ++ R) rows
section
variable {w0 w : World} {t m : Nat} {S : RtS} {R : List Thing} {rows : List (Value × Bs)}
theorem RtM.rt (h : RtM w0 w t m S R rows) : Rt w0 w t S R rows := ⟨m, h⟩
theorem RtM.keep (h : RtM w0 w t m S R rows) {w' : World} {D' : List Nat} (hu : Upd w w' [] D') : RtM w0 w' t m S R rows := Sep.keep h hu
theorem RtM.drew (h : RtM w0 w t m S R rows) : RtM w0 w.drew t m S R rows := h.keep (Upd.refl w []).drew
theorem RtM.side {A : List Thing} (h : RtM w0 w t m S (A ++ R) rows) : ∃ X, Sep w0 w (A ++ X) rows ∧ ∀ (w' : World) (A' : List Thing), Sep w0 w' (A' ++ X) rows → RtM w0 w' t m S (A' ++ R) rows := by
  have e : ∀ B : List Thing, (B ++ (rtTh t m S ++ R)).Perm (rtTh t m S ++ (B ++ R)) := fun B => List.perm_append_comm_assoc _ _ _
  exact ⟨_, Sep.perm h (e A).symm, fun w' A' hS' => hS'.perm (e A')⟩
theorem RtM.permR (h : RtM w0 w t m S R rows) {R' : List Thing} (hp : R.Perm R') : RtM w0 w t m S R' rows := Sep.perm h (List.Perm.append_left _ hp)
theorem RtM.addT {T : Thing} (h : RtM w0 w t m S R rows) {w' : World} {D' : List Nat} (hu : Upd w w' [] D') (hT : T.P w' D') : RtM w0 w' t m S (T :: R) rows := by
  obtain ⟨X, hS, hb⟩ := RtM.side (A := []) h
  exact hb _ [T] (hS.add hu hT)
theorem RtM.dropR {T : Thing} (h : RtM w0 w t m S (T :: R) rows) : RtM w0 w t m S R rows := by
  obtain ⟨X, hS, hb⟩ := RtM.side (A := [_]) h
  exact hb _ [] hS.drop
theorem RtM.row {v : Value} {xs : List Value} (h : RtM w0 w t m S (ThRow 1 v xs :: R) rows) : ∃ D, OwnRow w 1 v xs D := by
  obtain ⟨X, hS, -⟩ := RtM.side (A := [_]) h
  exact hS.fst
theorem RtM.blk (h : RtM w0 w t m S R rows) : w.heap[t]? = some (.cells #[.int .i64 S.n, .int .i64 S.ver, .map (some m)] 63 (0, 0)) :=
  Sep.block h (b := t) (o := .cells #[.int .i64 S.n, .int .i64 S.ver, .map (some m)] 63 (0, 0)) (by simp [rtTh])
theorem RtM.map (h : RtM w0 w t m S R rows) : MapIs w .string m (S.mv.map mkv) := by
  obtain ⟨E, hM, -⟩ := Sep.has h (T := ThMap .string m (S.mv.map mkv)) (by simp [rtTh])
  exact hM
theorem RtM.len (h : RtM w0 w t m S R rows) (ty : TypeId) : (Builtin.len_ #[61] ty #[.map (some m)]).run Tryd.prog w = .ok (.int .i64 S.mv.length) w := by
  have := mp_len (P := Tryd.prog) h.map Tryd.underlying61 ty
  simpa using this
theorem RtM.look (h : RtM w0 w t m S R rows) {k : ByteArray} {v : Int} (hv : lookM k.data.toList S.mv = some v) : (Instr.lookup 61 (.map (some m)) (.string k) false).run Tryd.prog w = .ok (.int .i64 v) w := by
  obtain ⟨l1, l2, he, -⟩ := lookM_some hv
  exact mp_look h.map Tryd.underlying61 Tryd.underlying9 (key := .string k) trivial (List.mem_map.2 ⟨(k.data.toList, v), by rw [he]; simp, rfl⟩) false
theorem RtM.packR {v : Value} {l : Bs} (h : RtM w0 w t m S (ThRow 1 v (l.map bv) :: R) rows) (x : Int) (hl : l.length ≤ 1073741824) :
    Calls Tryd.prog 38 #[v, .int .i64 x] w fun e w' => ∃ v', e = .returned v' ∧ RtM w0 w' t m S (ThRow 1 v' ((l ++ packI x).map bv) :: R) rows := by
  obtain ⟨X, hS, hb⟩ := RtM.side (A := [_]) h
  obtain ⟨D, hP⟩ := hS.fst
  obtain ⟨E, hE, -⟩ := OwnRow.read hP
  refine (pack_any v l E x w hE hl).mono ?_
  rintro e w' ⟨v', D', rfl, ho, hu⟩
  exact ⟨v', rfl, hb _ [_] (hS.drop.addRow ho hu)⟩
theorem RtM.textW {v : Value} {l : Bs} (h : RtM w0 w t m S (ThRow 1 v (l.map bv) :: R) rows) (s : ByteArray) (hl : l.length ≤ 1000000) (hs : s.size ≤ 1000000) :
    Calls Tryd.prog 39 #[v, .string s] w fun e w' => ∃ v', e = .returned v' ∧ RtM w0 w' t m S (ThRow 1 v' ((l ++ textB s.data.toList).map bv) :: R) rows := by
  obtain ⟨X, hS, hb⟩ := RtM.side (A := [_]) h
  obtain ⟨D, hP⟩ := hS.fst
  obtain ⟨E, hE, -⟩ := OwnRow.read hP
  refine (textW_any v l E s w hE hl hs).mono ?_
  rintro e w' ⟨v', D', rfl, ho, hu⟩
  exact ⟨v', rfl, hb _ [_] (hS.drop.addRow ho hu)⟩

theorem rt_keys (h : RtM w0 w t m S R rows) (hn : RtSh S) : 
    (Calls Tryd.prog 37 #[.map (some m)] w fun e w' => e = .returned (.func (.func 52) #[] #[.pointer (some ⟨w.heap.size, 0, none⟩)]) ∧ w' = w.alloc (.cells #[.map (some m)] 61)) ∧
    (Calls Tryd.prog 36 #[.func (.func 52) #[] #[.pointer (some ⟨w.heap.size, 0, none⟩)]] (w.alloc (.cells #[.map (some m)] 61)) fun e w' => ∃ v, e = .returned v ∧ RtM w0 w' t m S (ThRow 1 v ((keysM S).map sv) :: R) rows) := by
  have hM := h.map
  obtain ⟨D0, ho, hz, hp⟩ := owns_names (P := Tryd.prog) (k := 9) (l := S.mv.map fun e => ((⟨e.1.toArray⟩ : ByteArray), Value.int .i64 e.2)) (by rw [List.map_map]; exact hM) Tryd.underlying9 (by have := hn.1; simp; omega) (by
    intro x hx
    obtain ⟨e, he, rfl⟩ := List.mem_map.1 hx
    have := hn.2 e he
    show e.1.toArray.size ≤ _
    unfold maxLen
    simp; omega)
  rw [List.length_map] at hz
  have hsz := hn.1
  refine ⟨callsIn_wide.1 (Tryd.maps_Keys_37 (some m) w), ?_⟩
  refine (callsIn_wide.1 (Tryd.slices_Sorted_keys_36_37 m _ D0 noRead w ho (by rw [hz]; unfold maxLen; omega) (by rw [hz]; omega))).mono ?_
  rintro e w' ⟨v, ss, rfl, hS2, hrow, hnil, hb'⟩
  refine ⟨v, rfl, ?_⟩
  obtain ⟨D, hown, hD⟩ := own_of hrow
  have hk : ss.mergeSort (fun x y => decide (x ≤ y)) = keysM S := by
    unfold keysM
    refine mergeSort_of_perm (hS2.trans (hp.trans ?_))
    rw [List.map_map]
    exact List.Perm.refl _
  rw [hk] at hown
  have hu : Upd w w' [] [] := (Upd.alloc0 w _ []).trans (Upd.of_below hb')
  exact h.addT (T := ThRow 1 v ((keysM S).map sv)) (D' := D) ⟨hu.os, hu.tape, hu.output, hu.size, hu.keep, fun b hb2 => .inr ⟨by have := (hD b hb2).1; simp at this; omega, (hD b hb2).2⟩⟩ hown

theorem keysM_len (S : RtS) : (keysM S).length = S.mv.length := by unfold keysM; rw [List.length_mergeSort, List.length_map]
theorem keysM_in {S : RtS} {k : Bs} (h : k ∈ keysM S) : (∃ v, lookM k S.mv = some v) ∧ ∃ e ∈ S.mv, e.1 = k := by
  unfold keysM at h
  rw [List.mem_mergeSort] at h
  obtain ⟨e, he, rfl⟩ := List.mem_map.1 h
  refine ⟨?_, e, he, rfl⟩
  cases hl : lookM e.1 S.mv with
  | some v => exact ⟨v, rfl⟩
  | none => exact absurd rfl (lookM_none hl e he)
theorem entM_len (hn : RtSh S) {ks : List Bs} (h : ∀ k ∈ ks, k ∈ keysM S) : (ks.flatMap (entM S)).length ≤ 1016 * ks.length := by
  induction ks with
  | nil => simp
  | cons k ks ih =>
    obtain ⟨-, e, he, rfl⟩ := keysM_in (h k (by simp))
    have := hn.2 e he
    have ih := ih (fun k hk => h k (by simp [hk]))
    rw [List.flatMap_cons, List.length_append, List.length_cons]
    have hl : (entM S e.1).length = 16 + e.1.length := by
      unfold entM textB
      rw [List.length_append, List.length_append, packI_len, packI_len]
      omega
    omega
theorem ent_step (S : RtS) (b : Bs) (ks : List Bs) (p : Nat) (hp : p < ks.length) : b ++ (ks.take (p + 1)).flatMap (entM S) = (b ++ (ks.take p).flatMap (entM S)) ++ entM S ks[p] := by
  rw [List.take_succ_eq_append_getElem hp, List.flatMap_append]
  simp

set_option maxRecDepth 100000 in
set_option maxHeartbeats 8000000 in
theorem put_table (h : Rt w0 w t S R rows) (hn : RtSh S) :
    Calls Tryd.prog 20 #[.pointer (some ⟨t, 0, none⟩)] w fun e w' => ∃ v, e = .returned v ∧ Rt w0 w' t S (ThRow 1 v ((bytesT S).map bv) :: R) rows := by
  obtain ⟨m, h⟩ := h
  have h : RtM w0 w t m S R rows := h
  have hb := h.blk
  have c0 := cell_of hb 0 rfl
  have c1 := cell_of hb 1 rfl
  have c2 : w.cell? ⟨t, 2, none⟩ = some (.map (some m)) := cell_of hb 2 rfl
  obtain ⟨n, hnn⟩ : ∃ n, S.n = n := ⟨_, rfl⟩
  obtain ⟨ver, hvv⟩ : ∃ ver, S.ver = ver := ⟨_, rfl⟩
  rw [show (#[Value.int .i64 S.n, .int .i64 S.ver, .map (some m)] : Array Value)[0] = .int .i64 n by rw [hnn]; rfl] at c0
  rw [show (#[Value.int .i64 S.n, .int .i64 S.ver, .map (some m)] : Array Value)[1] = .int .i64 ver by rw [hvv]; rfl] at c1
  have h0 := h.drew
  have kl := h0.len 3
  have hu1 := Upd.alloc0 w.drew (.cells #[.int .i64 n, .int .i64 ver, .int .i64 (S.mv.length : Int)] 2 (0, 0)) []
  have h1 := h0.keep hu1
  have q1 : ReadRow (w.drew.alloc (.cells #[.int .i64 n, .int .i64 ver, .int .i64 (S.mv.length : Int)] 2 (0, 0))) 1 (.slice (some ⟨w.drew.heap.size, 0, none⟩) 3 3) ([n, ver, (S.mv.length : Int)].map ivn) [w.drew.heap.size] :=
    ⟨_, 3, 3, rfl, rfl, Nat.le_refl _, by decide, by simp, .inr ⟨w.drew.heap.size, 0, rfl, rfl, by simp, fun i x hx => by
      rw [cell_of_row _ w.drew.heap.size (0 + i) _ _ _ (heap_alloc_new w.drew _)]
      simpa [ivn] using hx⟩⟩
  have HA := Lib.hid (all_any (.slice none 0 0) _ [] [n, ver, (S.mv.length : Int)] [] _ _ ⟨none, 0, 0, rfl, by simp, Nat.le_refl _, by decide, fun _ => rfl, .inl ⟨by simp, rfl⟩⟩ q1 (by simp) (by simp))
  have HP := Lib.hid (show _ ∧ _ ∧ _ from ⟨h1, hu1, hn⟩)
  have HV := Lib.hid (show _ ∧ _ from ⟨hnn, hvv⟩)
  clear h h0 h1 hb hn hnn hvv hu1 q1
  go_enter Tryd.func20, Tryd.ntmps20
  go_wp2_with fail
  refine wp_region_M (fun W => W.cell? ⟨t, 0, none⟩ = some (.int .i64 n) ∧ W.cell? ⟨t, 1, none⟩ = some (.int .i64 ver) ∧ W.cell? ⟨t, 2, none⟩ = some (.map (some m))) 15 (by kernel_rfl) ?_
  refine wpAnyM_take (by kernel_rfl) (by intro c a d v w h; cases d <;> exact h) [(0, false), (1, false), (2, false), (3, true), (4, false), (5, false), (6, false), (7, true), (8, false), (9, false), (10, false), (11, true)] (fuel := 4) (by kernel_rfl) ?_
  apply Exists.intro; refine ⟨?_, ⟨c0, c1, c2⟩, ?_⟩
  · iterate 12 ((first | (apply yieldN; (· (simp only [List.getElem?_toArray, List.getElem?_cons_succ, List.getElem?_cons_zero]; try rfl)); (· rfl)) | ((first | apply yieldP | apply yieldL); (· (simp only [List.getElem?_toArray, List.getElem?_cons_succ, List.getElem?_cons_zero]; try rfl)); (· rfl); (· (intros; go_simp; try with_reducible rfl)))); (· (simp only [Act.put, List.setIfInBounds_toArray, List.set_cons_zero, List.set_cons_succ]; try rfl)))
    exact rfl
  refine wpAnyM_one (fuel := 3) (i := 12) (by kernel_rfl) (by rfl) (fun K hK => ?_)
  go_wp2_with fail
  refine hK _ _ ⟨c0, c1, c2⟩ ?_
  clear hK
  refine wpAnyM_one (fuel := 2) (i := 13) (by kernel_rfl) (by rfl) (fun K hK => ?_)    -- buildSlice
  go_wp2_with fail
  refine hK _ _ ⟨upd_cell HP.out.2.1 (show w.drew.cell? _ = _ from c0), upd_cell HP.out.2.1 (show w.drew.cell? _ = _ from c1), upd_cell HP.out.2.1 (show w.drew.cell? _ = _ from c2)⟩ ?_
  clear hK
  refine wpAnyM_one (fuel := 1) (i := 14) (by kernel_rfl) (by rfl) (fun K hK => ?_)    -- CALL
  go_wp2_with fail
  refine HA.out.mono ?_
  rintro e w3 ⟨v3, D3, rfl, ho3, hu3⟩
  rw [List.nil_append] at ho3
  have h3 := HP.out.1.addT (T := ThRow 1 v3 (([n, ver, (S.mv.length : Int)].flatMap packI).map bv)) hu3 ho3
  have k30 := upd_cell hu3 (upd_cell HP.out.2.1 (show w.drew.cell? _ = _ from c0))
  have k31 := upd_cell hu3 (upd_cell HP.out.2.1 (show w.drew.cell? _ = _ from c1))
  have k3 := upd_cell hu3 (upd_cell HP.out.2.1 (show w.drew.cell? _ = _ from c2))
  obtain ⟨hK1, hSo⟩ := rt_keys h3 HP.out.2.2
  have HK := Lib.hid hK1
  have HS := Lib.hid hSo
  have HSH := Lib.hid HP.out.2.2
  clear h3 ho3 hu3 HA HP kl hK1 hSo c0 c1 c2
  go_wp2_with fail
  refine hK _ _ ⟨k30, k31, k3⟩ ?_
  clear hK k30 k31
  refine wpAnyM_of_any _ _ _ _ (by decide) ?_
  refine wpAny_list [15] (fuel := 0) (by kernel_rfl) ?_
  simp only [List.filterMap_cons, List.filterMap_nil, List.getElem?_toArray, List.getElem?_cons_succ, List.getElem?_cons_zero]
  go_wp2_with fail
  refine HK.out.mono ?_
  rintro e w4 ⟨rfl, rfl⟩
  go_wp2_with fail
  refine HS.out.mono ?_
  rintro e w5 ⟨vk, rfl, h5⟩
  obtain ⟨D, ho⟩ := h5.row
  obtain ⟨ak, nk, ck, rfl, hlk, hnk, hck, -⟩ := _root_.id ho
  rw [List.length_map, Nat.mul_one] at hlk
  subst hlk
  unfold maxLen at hck
  obtain ⟨hdr, hhd⟩ : ∃ hdr, [n, ver, (S.mv.length : Int)].flatMap packI = hdr := ⟨_, rfl⟩
  have hhl : hdr.length = 24 := by rw [← hhd]; rfl
  rw [hhd] at h5
  have HHD := Lib.hid (show hdr = [S.n, S.ver, (S.mv.length : Int)].flatMap packI by rw [HV.out.1, HV.out.2, hhd])
  have HC := Lib.hid (h5.permR (List.Perm.swap _ _ _))
  have hkl := keysM_len S
  have hkm : (keysM S).length ≤ 100 := by rw [hkl]; exact HSH.out.1
  clear h5 ho HK HS k3 hhd hkl
  go_wp2_with fail
  go_loopg [3, 28] (keysM S).length (fun k vb vi wr => ∃ p : Nat, p ≤ (keysM S).length ∧ k = (keysM S).length - p ∧ vi = .int .i64 (p : Int) ∧ RtM w0 wr t m S (ThRow 1 vb ((hdr ++ ((keysM S).take p).flatMap (entM S)).map bv) :: ThRow 1 (.slice ak (keysM S).length ck) ((keysM S).map sv) :: R) rows)
  case atStart => exact ⟨0, Nat.zero_le _, rfl, rfl, by simpa using HC.out⟩
  case round =>
    obtain ⟨p, hp, hk, hv, hC⟩ := hrel
    subst hv
    clear HC
    by_cases hlt : p < (keysM S).length
    case neg =>
      obtain rfl : p = (keysM S).length := by omega
      rw [List.take_length] at hC
      have HC2 := Lib.hid (hC.permR (List.Perm.swap _ _ _)).dropR
      clear hC
      go_wp2_with fail
      go_ret
      refine ⟨_, rfl, ?_⟩
      have := HC2.out.rt
      rw [HHD.out] at this
      exact this
    have hst := ent_step S hdr (keysM S) p hlt
    have hkp : (keysM S)[p] ∈ keysM S := List.getElem_mem hlt
    obtain ⟨⟨v, hlv⟩, e0, he0, hek⟩ := keysM_in hkp
    have hks := HSH.out.2 e0 he0
    rw [hek] at hks
    have hbl : (hdr ++ ((keysM S).take p).flatMap (entM S)).length ≤ 110000 := by
      have := entM_len HSH.out (ks := (keysM S).take p) (fun k hk => List.mem_of_mem_take hk)
      rw [List.length_take] at this
      rw [List.length_append, hhl]
      omega
    obtain ⟨D2, ho2⟩ := (hC.permR (List.Perm.swap _ _ _)).row
    obtain ⟨y, rfl, hys, hcy⟩ := ownCell ho2 (i := p) (x := sv (keysM S)[p]) (by rw [List.getElem?_map, List.getElem?_eq_getElem hlt]; rfl)
    obtain ⟨kx, hkx⟩ : ∃ kx, (keysM S)[p] = kx := ⟨_, rfl⟩
    rw [hkx] at hst hlv hks hcy
    obtain ⟨kb, hkb⟩ : ∃ kb : ByteArray, kb = ⟨kx.toArray⟩ := ⟨_, rfl⟩
    have hkb2 : kb.data.toList = kx := by rw [hkb]
    have hkbs : kb.size ≤ 1000 := by rw [hkb]; show kx.toArray.size ≤ _; simpa using hks
    unfold sv at hcy
    rw [← hkb] at hcy
    have hen : entM S kx = textB kb.data.toList ++ packI v := by unfold entM; rw [hlv, hkb2]; rfl
    rw [hen] at hst
    obtain ⟨pre, hpre⟩ : ∃ pre, hdr ++ ((keysM S).take p).flatMap (entM S) = pre := ⟨_, rfl⟩
    rw [hpre] at hst hbl hC
    rw [← hkb2] at hlv
    have k2 : wr.cell? ⟨t, 2, none⟩ = some (.map (some m)) := cell_of hC.blk 2 rfl
    have HT := Lib.hid (hC.drew.textW kb (by omega) (by omega))
    have HLK := Lib.hid (hC.drew.look hlv)
    have HST := Lib.hid (show _ ∧ _ ∧ _ from ⟨hst, hbl, hlv⟩)
    have HTL := Lib.hid (show textB kb.data.toList = textB kx by rw [hkb2])
    have htl : (textB kb.data.toList).length ≤ 1008 := by
      unfold textB; rw [List.length_append, packI_len]
      have : kb.data.toList.length = kb.size := by simp
      omega
    clear hC hst hbl hlv hkp he0 hek ho2 hkx hkb hkb2 hpre hen
    go_wp2_with fail
    refine wp_region_M (fun W => W.cell? ⟨t, 2, none⟩ = some (.map (some m))) 10 (by kernel_rfl) ?_
    refine wpAnyM_take (by kernel_rfl) (by intro c a d v w h; cases d <;> exact h) [(0, false), (1, false), (3, false), (4, false), (5, false), (6, true), (7, false)] (fuel := 4) (by kernel_rfl) ?_
    apply Exists.intro; refine ⟨?_, k2, ?_⟩
    · iterate 7 ((first | (apply yieldN; (· (simp only [List.getElem?_toArray, List.getElem?_cons_succ, List.getElem?_cons_zero]; try rfl)); (· rfl)) | ((first | apply yieldP | apply yieldL); (· (simp only [List.getElem?_toArray, List.getElem?_cons_succ, List.getElem?_cons_zero]; try rfl)); (· rfl); (· (intros; go_simp; try with_reducible rfl)))); (· (simp only [Act.put, List.setIfInBounds_toArray, List.set_cons_zero, List.set_cons_succ]; try rfl)))
      exact rfl
    refine wpAnyM_each (fuel := 3) [2, 8] (by kernel_rfl) (by simp) (fun i hi => ?_)
    simp only [List.mem_cons, List.not_mem_nil, or_false] at hi
    rcases hi with rfl | rfl
    case' inl =>
      refine ⟨_, by rfl, fun K hK => ?_⟩
      go_wp2_with fail
      refine HT.out.mono ?_
      rintro e w6 ⟨v6, rfl, h6⟩
      have k6 : w6.cell? ⟨t, 2, none⟩ = some (.map (some m)) := cell_of h6.blk 2 rfl
      have hlk6 := h6.look HST.out.2.2
      have H6 := Lib.hid h6
      clear h6 HT
      go_wp2_with fail
      refine hK _ _ k6 ?_
      clear hK
      refine wpAnyM_one (fuel := 2) (i := 8) (by kernel_rfl) (by rfl) (fun K hK => ?_)
      go_wp2_with fail
      refine hK _ _ k6 ?_
      clear hK
    case' inr =>
      refine ⟨_, by rfl, fun K hK => ?_⟩
      have hlk6 := HLK.out
      go_wp2_with fail
      refine hK _ _ k2 ?_
      clear hK hlk6
      refine wpAnyM_one (fuel := 2) (i := 2) (by kernel_rfl) (by rfl) (fun K hK => ?_)
      go_wp2_with fail
      refine HT.out.mono ?_
      rintro e w6 ⟨v6, rfl, h6⟩
      have k6 : w6.cell? ⟨t, 2, none⟩ = some (.map (some m)) := cell_of h6.blk 2 rfl
      have hlk6 := h6.look HST.out.2.2
      have H6 := Lib.hid h6
      clear h6 HT
      go_wp2_with fail
      refine hK _ _ k6 ?_
      clear hK
    all_goals
      clear hlk6
      refine wpAnyM_one (fuel := 1) (i := 9) (by kernel_rfl) (by rfl) (fun K hK => ?_)
      go_wp2_with fail
      refine (H6.out.packR v (by have := HST.out.2.1; rw [List.length_append]; omega)).mono ?_
      rintro e w7 ⟨v7, rfl, h7⟩
      have k7 : w7.cell? ⟨t, 2, none⟩ = some (.map (some m)) := cell_of h7.blk 2 rfl
      have H7 := Lib.hid h7
      clear h7 H6
      go_wp2_with fail
      refine hK _ _ k7 ?_
      clear hK
      refine wpAnyM_of_any _ _ _ _ (by decide) ?_
      refine wpAny_list [10] (fuel := 0) (by kernel_rfl) ?_
      simp only [List.filterMap_cons, List.filterMap_nil, List.getElem?_toArray, List.getElem?_cons_succ, List.getElem?_cons_zero]
      go_wp2_with fail
      go_roundg ((keysM S).length - (p + 1))
      case rel =>
        refine ⟨p + 1, by omega, rfl, by go_num, ?_⟩
        rw [HST.out.1, ← List.append_assoc]
        exact H7.out
      case measure => omega
end
end Go.Proofs.YtfncdgnhiinmjaaDoor
