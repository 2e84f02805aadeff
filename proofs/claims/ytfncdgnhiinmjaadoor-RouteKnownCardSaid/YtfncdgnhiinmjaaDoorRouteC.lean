/-
  Routes: the walk of Move.
-/
import Derived.Test.YtfncdgnhiinmjaaDoorRouteB
namespace Go.Proofs.YtfncdgnhiinmjaaDoor
open Go.RowKit Go.Av

theorem str_eq (a b : ByteArray) : (a.toList == b.toList) = (a.data.toList == b.data.toList) := by rw [Lib.toList_data, Lib.toList_data]
theorem map_set {k : Bs} {v : Int} {l : List (Bs × Int)} {v0 : Int} (h : lookM k l = some v0) (hn : (l.map fun e => (mkv e).1).Nodup) : ∃ l1 l2, l = l1 ++ (k, v0) :: l2 ∧ setM k v l = l1 ++ (k, v) :: l2 := by
  obtain ⟨l1, l2, rfl, h1⟩ := lookM_some h
  refine ⟨l1, l2, rfl, ?_⟩
  have h2 : ∀ e ∈ l2, e.1 ≠ k := fun e he hk => by
    rw [List.map_append, List.map_cons] at hn
    have := (List.nodup_append.1 hn).2.1
    rw [List.nodup_cons] at this
    exact this.1 (List.mem_map.2 ⟨e, he, by unfold mkv; rw [hk]⟩)
  unfold setM
  rw [h]
  have e : ∀ (q : List (Bs × Int)), (∀ e ∈ q, e.1 ≠ k) → q.map (fun e => if e.1 = k then (e.1, v) else e) = q := fun q hq => by
    conv => rhs; rw [← List.map_id q]
    exact List.map_congr_left fun e he => by rw [if_neg (hq e he)]; rfl
  simp only [List.map_append, List.map_cons, if_true, e l1 h1, e l2 h2]

section
variable {w0 w : World} {t : Nat} {S : RtS} {R : List Thing} {rows : List (Value × Bs)}
/-- What moved[top] = shard makes. -/
theorem Rt.set (h : Rt w0 w t S R rows) (s : ByteArray) (v : Int) {m : Nat} (hm : w.cell? ⟨t, 2, none⟩ = some (.map (some m))) : ∃ w', (Instr.mapUpdate 61 (.map (some m)) (.string s) (.int .i64 v)).run Tryd.prog w = .ok () w' ∧ Rt w0 w' t { S with mv := setM s.data.toList v S.mv } R rows := by
  obtain ⟨m', hS⟩ := h
  have hb := hS.block (b := t) (o := .cells #[.int .i64 S.n, .int .i64 S.ver, .map (some m')] 63 (0, 0)) (by simp [rtTh])
  have hmm := (cell_of hb 2 rfl).symm.trans hm
  injection hmm with hmm
  injection hmm with hmm
  injection hmm with hmm
  subst hmm
  have h2 := hS.perm (List.Perm.swap _ _ _)
  have hM := h2.mapIs
  cases hk : lookM s.data.toList S.mv with
  | some v0 =>
    have hnd := hM.nodup
    rw [List.map_map] at hnd
    obtain ⟨l1, l2, he, hs⟩ := map_set (v := v) hk hnd
    rw [he, List.map_append, List.map_cons] at hM
    obtain ⟨w', hrun, hM', hU⟩ := mp_old (P := Tryd.prog) (v := .int .i64 v) hM Tryd.underlying61 Tryd.underlying9 trivial
    refine ⟨w', hrun, m', ?_⟩
    have h3 := (h2.mapTo hU (l' := (setM s.data.toList v S.mv).map mkv) (by rw [hs, List.map_append, List.map_cons]; exact hM')).perm (List.Perm.swap _ _ _)
    exact h3
  | none =>
    have hno := lookM_none hk
    obtain ⟨w', hrun, hM', hU⟩ := mp_new (P := Tryd.prog) (key := .string s) (v := .int .i64 v) hM Tryd.underlying61 Tryd.underlying9 trivial (fun q hq e => by
      obtain ⟨e0, he0, rfl⟩ := List.mem_map.1 hq
      exact hno e0 he0 (sv_inj (b := s.data.toList) e))
    refine ⟨w', hrun, m', ?_⟩
    have h3 := (h2.mapTo hU (l' := (setM s.data.toList v S.mv).map mkv) (by unfold setM; rw [hk, List.map_append]; exact hM')).perm (List.Perm.swap _ _ _)
    exact h3
theorem Rt.ver (h : Rt w0 w t S R rows) (v : Int) : Rt w0 (w.setCell ⟨t, 1, none⟩ (.int .i64 v)) t { S with ver := v } R rows := by
  obtain ⟨m, hS⟩ := h
  exact ⟨m, hS.set 1 (.int .i64 v)⟩



set_option maxRecDepth 100000 in
set_option maxHeartbeats 2000000 in
theorem move_any (h : Rt w0 w t S R rows) (hd : Door w0) (s : ByteArray) (shard : Int) (hs : s.size ≤ 1000000) (hv1 : 0 ≤ S.ver) (hv2 : S.ver ≤ 1000000) :
    Calls Tryd.prog 11 #[.pointer (some ⟨t, 0, none⟩), .string s, .int .i64 shard] w fun e w' => e = .returned (.int .i64 (moveS S s.data.toList shard).1) ∧ Rt w0 w' t (moveS S s.data.toList shard).2 R rows := by
  obtain ⟨m, hb, hlS, hlN, hlen⟩ := h.facts
  have c0 : w.cell? ⟨t, 0, none⟩ = some (.int .i64 S.n) := cell_of hb 0 rfl
  have c2 : w.cell? ⟨t, 2, none⟩ = some (.map (some m)) := cell_of hb 2 rfl
  have hlk : ∃ v0 there, (Instr.lookup 61 (.map (some m)) (.string s) true).run Tryd.prog w = .ok (.tuple #[.int .i64 v0, .bool there]) w ∧ there = (lookM s.data.toList S.mv).isSome := by
    cases hk : lookM s.data.toList S.mv with
    | some v => exact ⟨v, true, hlS s v hk w rfl, rfl⟩
    | none => exact ⟨0, false, hlN s hk w rfl, rfl⟩
  obtain ⟨v0, there, hlk, hth⟩ := hlk
  have ht := top_any (⟨#[47]⟩ ++ s) w (h.door hd) (by
    have : (⟨#[47]⟩ ++ s : ByteArray).size = 1 + s.size := by simp [ByteArray.size_append]; rfl
    unfold maxLen; omega)
  have hdt : (⟨#[47]⟩ ++ s : ByteArray).data.toList = 47 :: s.data.toList := by simp [ByteArray.data_append]
  rw [hdt] at ht
  have hbd : badM S s.data.toList shard = (!(topP (47 :: s.data.toList) == s.data.toList) || (s.data.toList == []) || decide (shard < 0) || decide (S.n ≤ shard)) := rfl
  obtain ⟨tp, htp⟩ : ∃ tp, topP (47 :: s.data.toList) = tp := ⟨_, rfl⟩
  rw [htp] at ht hbd
  have e1 : ((⟨tp.toArray⟩ : ByteArray).toList == s.toList) = (tp == s.data.toList) := str_eq _ _
  have e2 : (s.toList == []) = (s.data.toList == []) := by rw [Lib.toList_data]
  have e3 : s.toList.isEmpty = (s.data.toList == []) := by rw [Lib.toList_data]; cases s.data.toList <;> rfl
  have HT := Lib.hid ht
  have H := Lib.hid h
  obtain ⟨n, hn⟩ : ∃ n, S.n = n := ⟨_, rfl⟩
  rw [hn] at c0 hbd
  have HN := Lib.hid (show _ ∧ _ ∧ _ from ⟨hn, hlen, hth⟩)
  clear ht h htp hdt hb hlS hlN hn hlen hth
  unfold sv at HT
  obtain ⟨ts, hts⟩ : ∃ ts : ByteArray, ts = ⟨tp.toArray⟩ := ⟨_, rfl⟩
  rw [← hts] at HT e1
  clear hts
  cases h1 : (tp == s.data.toList) with
  | false =>
    have HBD := Lib.hid (show badM S s.data.toList shard = true by rw [hbd, h1]; simp)
    rw [h1] at e1
    clear hbd h1 e2 e3
    go_enter Tryd.func11, Tryd.ntmps11
    go_wp2_with fail
    refine HT.out.mono ?_
    rintro e w1 ⟨rfl, hu⟩
    have H1 := Lib.hid (H.out.keep hu)
    have c0 := upd_cell hu c0
    clear hu
    go_wp2_with fail
    go_ret
    rw [show moveS S s.data.toList shard = (1, S) by unfold moveS; rw [if_pos HBD.out]]
    exact ⟨rfl, H1.out⟩
  | true =>
  rw [h1] at e1
  cases h2 : (s.data.toList == []) with
  | true =>
    have HBD := Lib.hid (show badM S s.data.toList shard = true by rw [hbd, h2]; simp)
    rw [h2] at e2 e3
    clear hbd h1 h2
    go_enter Tryd.func11, Tryd.ntmps11
    go_wp2_with fail
    refine HT.out.mono ?_
    rintro e w1 ⟨rfl, hu⟩
    have H1 := Lib.hid (H.out.keep hu)
    have c0 := upd_cell hu c0
    clear hu
    go_wp2_with fail
    go_ret
    rw [show moveS S s.data.toList shard = (1, S) by unfold moveS; rw [if_pos HBD.out]]
    exact ⟨rfl, H1.out⟩
  | false =>
  rw [h2] at e2 e3
  by_cases h3 : shard < 0
  · have HBD := Lib.hid (show badM S s.data.toList shard = true by rw [hbd]; simp [h3])
    clear hbd h1 h2
    go_enter Tryd.func11, Tryd.ntmps11
    go_wp2_with fail
    refine HT.out.mono ?_
    rintro e w1 ⟨rfl, hu⟩
    have H1 := Lib.hid (H.out.keep hu)
    have c0 := upd_cell hu c0
    clear hu
    go_wp2_with fail
    go_ret
    rw [show moveS S s.data.toList shard = (1, S) by unfold moveS; rw [if_pos HBD.out]]
    exact ⟨rfl, H1.out⟩
  by_cases h4 : n ≤ shard
  · have HBD := Lib.hid (show badM S s.data.toList shard = true by rw [hbd]; simp [h4])
    clear hbd h1 h2
    go_enter Tryd.func11, Tryd.ntmps11
    go_wp2_with fail
    refine HT.out.mono ?_
    rintro e w1 ⟨rfl, hu⟩
    have H1 := Lib.hid (H.out.keep hu)
    have c0 := upd_cell hu c0
    clear hu
    go_wp2_with fail
    go_ret
    rw [show moveS S s.data.toList shard = (1, S) by unfold moveS; rw [if_pos HBD.out]]
    exact ⟨rfl, H1.out⟩
  have HBD := Lib.hid (show badM S s.data.toList shard = false by rw [hbd, h1, h2]; simp; omega)
  clear hbd h1 h2
  obtain ⟨vr, hvr⟩ : ∃ vr, S.ver = vr := ⟨_, rfl⟩
  rw [hvr] at hv1 hv2
  have HV := Lib.hid hvr
  clear hvr
  have hlim : ¬ (S.mv.length : Int) ≤ 1000000000 ∨ (S.mv.length : Int) ≤ 1000000000 := by omega
  clear hlim
  cases hk : lookM s.data.toList S.mv with
  | some q =>
    have hth : there = true := by rw [HN.out.2.2, hk]; rfl
    have HM := Lib.hid (show moveS S s.data.toList shard = (0, { S with ver := S.ver + 1, mv := setM s.data.toList shard S.mv }) by
      unfold moveS
      rw [if_neg (by rw [HBD.out]; simp), if_neg (by rw [hk]; simp)])
    subst hth
    clear hk
    go_enter Tryd.func11, Tryd.ntmps11
    go_wp2_with fail
    refine HT.out.mono ?_
    rintro e w1 ⟨rfl, hu⟩
    have H1 := Lib.hid (H.out.keep hu)
    obtain ⟨m', hb, -, -, hlen⟩ := H1.out.facts
    have k0 : w1.cell? ⟨t, 0, none⟩ = some (.int .i64 n) := upd_cell hu c0
    have k2 : w1.cell? ⟨t, 2, none⟩ = some (.map (some m)) := upd_cell hu c2
    have hmm := (cell_of hb 2 rfl).symm.trans k2
    injection hmm with hmm
    injection hmm with hmm
    injection hmm with hmm
    subst hmm
    have hlen := fun ty => hlen ty w1 rfl
    obtain ⟨w2, hrun, h2⟩ := H1.out.set s shard k2
    obtain ⟨m2, hb2, -⟩ := h2.facts
    have k1 := cell_of hb2 1 rfl
    rw [show (#[Value.int .i64 S.n, .int .i64 S.ver, .map (some m2)] : Array Value)[1] = .int .i64 vr by rw [HV.out]; rfl] at k1
    have y1 := frz_of hb2 1
    have H3 := Lib.hid (h2.ver (vr + 1))
    clear hu hb c0 c2 hb2 h2
    go_wp2_with fail
    go_ret
    rw [HM.out]
    refine ⟨rfl, ?_⟩
    have e := HV.out
    subst e
    exact H3.out
  | none =>
    have hth : there = false := by rw [HN.out.2.2, hk]; rfl
    subst hth
    by_cases h50 : 50 ≤ S.mv.length
    · have HM := Lib.hid (show moveS S s.data.toList shard = (2, S) by
        unfold moveS
        rw [if_neg (by rw [HBD.out]; simp), if_pos ⟨hk, h50⟩])
      clear hk
      go_enter Tryd.func11, Tryd.ntmps11
      go_wp2_with fail
      refine HT.out.mono ?_
      rintro e w1 ⟨rfl, hu⟩
      have H1 := Lib.hid (H.out.keep hu)
      obtain ⟨m', hb, -, -, hlen⟩ := H1.out.facts
      have k0 : w1.cell? ⟨t, 0, none⟩ = some (.int .i64 n) := upd_cell hu c0
      have k2 : w1.cell? ⟨t, 2, none⟩ = some (.map (some m)) := upd_cell hu c2
      have hmm := (cell_of hb 2 rfl).symm.trans k2
      injection hmm with hmm
      injection hmm with hmm
      injection hmm with hmm
      subst hmm
      have hlen := fun ty => hlen ty w1 rfl
      have h50' : (50 : Int) ≤ S.mv.length := by omega
      clear hu hb c0 c2
      go_wp2_with fail
      go_ret
      rw [HM.out]
      exact ⟨rfl, H1.out⟩
    · have HM := Lib.hid (show moveS S s.data.toList shard = (0, { S with ver := S.ver + 1, mv := setM s.data.toList shard S.mv }) by
        unfold moveS
        rw [if_neg (by rw [HBD.out]; simp), if_neg (fun h => h50 h.2)])
      have h50' : ¬ (50 : Int) ≤ S.mv.length := by omega
      clear hk h50
      go_enter Tryd.func11, Tryd.ntmps11
      go_wp2_with fail
      refine HT.out.mono ?_
      rintro e w1 ⟨rfl, hu⟩
      have H1 := Lib.hid (H.out.keep hu)
      obtain ⟨m', hb, -, -, hlen⟩ := H1.out.facts
      have k0 : w1.cell? ⟨t, 0, none⟩ = some (.int .i64 n) := upd_cell hu c0
      have k2 : w1.cell? ⟨t, 2, none⟩ = some (.map (some m)) := upd_cell hu c2
      have hmm := (cell_of hb 2 rfl).symm.trans k2
      injection hmm with hmm
      injection hmm with hmm
      injection hmm with hmm
      subst hmm
      have hlen := fun ty => hlen ty w1 rfl
      obtain ⟨w2, hrun, h2⟩ := H1.out.set s shard k2
      obtain ⟨m2, hb2, -⟩ := h2.facts
      have k1 := cell_of hb2 1 rfl
      rw [show (#[Value.int .i64 S.n, .int .i64 S.ver, .map (some m2)] : Array Value)[1] = .int .i64 vr by rw [HV.out]; rfl] at k1
      have y1 := frz_of hb2 1
      have H3 := Lib.hid (h2.ver (vr + 1))
      clear hu hb c0 c2 hb2 h2
      go_wp2_with fail
      go_ret
      rw [HM.out]
      refine ⟨rfl, ?_⟩
      have e := HV.out
      subst e
      exact H3.out
end
end Go.Proofs.YtfncdgnhiinmjaaDoor
