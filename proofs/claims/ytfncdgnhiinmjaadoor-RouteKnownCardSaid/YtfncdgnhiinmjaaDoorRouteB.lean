/-
  Routes: the walks of New, Version, Shards, Of.
-/
import Derived.Test.YtfncdgnhiinmjaaDoorRouteA
namespace Go.Proofs.YtfncdgnhiinmjaaDoor
open Go.RowKit Go.Av

theorem lookM_some {k : Bs} {l : List (Bs × Int)} {v : Int} (h : lookM k l = some v) : ∃ l1 l2, l = l1 ++ (k, v) :: l2 ∧ ∀ e ∈ l1, e.1 ≠ k := by
  unfold lookM at h
  cases hf : l.find? (fun e => decide (e.1 = k)) with
  | none => rw [hf] at h; cases h
  | some e =>
    rw [hf] at h
    cases h
    obtain ⟨hp, S1, S2, hS, hb⟩ := List.find?_eq_some_iff_append.1 hf
    have he : e.1 = k := by simpa using hp
    subst he
    exact ⟨S1, S2, hS, fun q hq => by simpa using hb q hq⟩
theorem lookM_none {k : Bs} {l : List (Bs × Int)} (h : lookM k l = none) : ∀ e ∈ l, e.1 ≠ k := by
  unfold lookM at h
  rw [Option.map_eq_none_iff, List.find?_eq_none] at h
  exact fun e he => by simpa using h e he
theorem sv_inj {a b : Bs} (h : sv a = sv b) : a = b := by
  unfold sv at h
  injection h with h
  injection h with h
  exact congrArg Array.toList h
theorem zeroInt (w : World) : (zeroValue 3).run Tryd.prog w = .ok (.int .i64 0) w := by kernel_rfl

section
variable {w0 w : World} {t : Nat} {S : RtS} {R : List Thing} {rows : List (Value × Bs)}
theorem Rt.below (h : Rt w0 w t S R rows) : Below w0.heap.size w0 w := by obtain ⟨m, hS⟩ := h; exact hS.below
theorem Rt.keep (h : Rt w0 w t S R rows) {w' : World} {D' : List Nat} (hu : Upd w w' [] D') : Rt w0 w' t S R rows := by obtain ⟨m, hS⟩ := h; exact ⟨m, hS.keep hu⟩
theorem Rt.door (h : Rt w0 w t S R rows) (hd : Door w0) : Door w := by obtain ⟨m, hS⟩ := h; exact hd.sep hS
theorem Rt.drew (h : Rt w0 w t S R rows) : Rt w0 w.drew t S R rows := h.keep (Upd.refl w []).drew
theorem Rt.side {A : List Thing} (h : Rt w0 w t S (A ++ R) rows) : ∃ X, Sep w0 w (A ++ X) rows ∧ ∀ (w' : World) (A' : List Thing), Sep w0 w' (A' ++ X) rows → Rt w0 w' t S (A' ++ R) rows := by
  obtain ⟨m, hS⟩ := h
  have e : ∀ B : List Thing, (B ++ (rtTh t m S ++ R)).Perm (rtTh t m S ++ (B ++ R)) := fun B => List.perm_append_comm_assoc _ _ _
  exact ⟨_, hS.perm (e A).symm, fun w' A' hS' => ⟨m, hS'.perm (e A')⟩⟩
/-- What its calls read. -/
theorem Rt.facts (h : Rt w0 w t S R rows) : ∃ m, w.heap[t]? = some (.cells #[.int .i64 S.n, .int .i64 S.ver, .map (some m)] 63 (0, 0)) ∧
    (∀ (s : ByteArray) (v : Int), lookM s.data.toList S.mv = some v → ∀ W : World, W.heap = w.heap → (Instr.lookup 61 (.map (some m)) (.string s) true).run Tryd.prog W = .ok (.tuple #[.int .i64 v, .bool true]) W) ∧
    (∀ (s : ByteArray), lookM s.data.toList S.mv = none → ∀ W : World, W.heap = w.heap → (Instr.lookup 61 (.map (some m)) (.string s) true).run Tryd.prog W = .ok (.tuple #[.int .i64 0, .bool false]) W) ∧
    (∀ ty, ∀ W : World, W.heap = w.heap → (Builtin.len_ #[61] ty #[.map (some m)]).run Tryd.prog W = .ok (.int .i64 S.mv.length) W) := by
  obtain ⟨m, hS⟩ := h
  have hb := hS.block (b := t) (o := .cells #[.int .i64 S.n, .int .i64 S.ver, .map (some m)] 63 (0, 0)) (by simp [rtTh])
  obtain ⟨E, hM, -⟩ := hS.has (T := ThMap .string m (S.mv.map mkv)) (by simp [rtTh])
  refine ⟨m, hb, fun s v hv W hW => ?_, fun s hv W hW => ?_, fun ty W hW => ?_⟩
  · obtain ⟨l1, l2, he, -⟩ := lookM_some hv
    have hM' := hM.frame (w' := W) (by rw [hW])
    exact mp_look hM' Tryd.underlying61 Tryd.underlying9 (key := .string s) trivial (List.mem_map.2 ⟨(s.data.toList, v), by rw [he]; simp, rfl⟩) true
  · have hM' := hM.frame (w' := W) (by rw [hW])
    refine mp_lookN hM' Tryd.underlying61 Tryd.underlying9 (key := .string s) trivial (fun q hq => ?_) (zeroInt _) true
    obtain ⟨e, he, rfl⟩ := List.mem_map.1 hq
    intro h
    exact lookM_none hv e he (sv_inj (b := s.data.toList) h)
  · have hM' := hM.frame (w' := W) (by rw [hW])
    have := mp_len (P := Tryd.prog) hM' Tryd.underlying61 ty
    simpa using this

set_option maxHeartbeats 400000 in
theorem rt_new (h : Sep w0 w R rows) (n : Int) (h1 : 1 ≤ n) (h4 : n ≤ 4) : Calls Tryd.prog 10 #[.int .i64 n] w fun e w' => ∃ t, e = .returned (.tuple #[.pointer (some ⟨t, 0, none⟩), .int .i64 0]) ∧ Rt w0 w' t ⟨n, 1, []⟩ R rows := by
  have h1' := (h.newMap .string).newCell (.cells #[.int .i64 n, .int .i64 1, .map (some w.heap.size)] 63 (0, 0))
  rw [show (w.alloc (.map #[] 0)).heap.size = w.heap.size + 1 by simp] at h1'
  have H := Lib.hid (show Sep w0 _ (rtTh (w.heap.size + 1) w.heap.size ⟨n, 1, []⟩ ++ R) rows from h1')
  clear h h1'
  have hmm := @run_makeMap Tryd.prog
  have h1b : ¬ n < 1 := by omega
  have h4b : ¬ 4 < n := by omega
  go_enter Tryd.func10, Tryd.ntmps10
  go_wp2_with fail
  go_ret2
  exact ⟨_, rfl, _, H.out⟩
theorem rt_new_no (w : World) (n : Int) (h : n < 1 ∨ 4 < n) : Calls Tryd.prog 10 #[.int .i64 n] w fun e w' => e = .returned (.tuple #[.pointer none, .int .i64 1]) ∧ w' = w := by
  by_cases h1 : n < 1
  case' neg => have h4 : 4 < n := by omega
  all_goals
    clear h
    go_enter Tryd.func10, Tryd.ntmps10
    go_wp2_with fail
    go_ret2
    exact ⟨rfl, rfl⟩
theorem rt_version (h : Rt w0 w t S R rows) : Calls Tryd.prog 13 #[.pointer (some ⟨t, 0, none⟩)] w fun e w' => e = .returned (.int .i64 S.ver) ∧ w' = w := by
  obtain ⟨m, hb, -⟩ := h.facts
  have c1 := cell_of hb 1 rfl
  obtain ⟨v, hv⟩ : ∃ v, S.ver = v := ⟨_, rfl⟩
  rw [show (#[Value.int .i64 S.n, .int .i64 S.ver, .map (some m)] : Array Value)[1] = .int .i64 v by rw [hv]; rfl] at c1
  rw [hv]
  clear h hb hv
  go_enter Tryd.func13, Tryd.ntmps13
  go_wp2_with fail
  go_ret
  exact ⟨rfl, rfl⟩
theorem rt_shards (h : Rt w0 w t S R rows) : Calls Tryd.prog 22 #[.pointer (some ⟨t, 0, none⟩)] w fun e w' => e = .returned (.int .i64 S.n) ∧ w' = w := by
  obtain ⟨m, hb, -⟩ := h.facts
  have c1 := cell_of hb 0 rfl
  obtain ⟨v, hv⟩ : ∃ v, S.n = v := ⟨_, rfl⟩
  rw [show (#[Value.int .i64 S.n, .int .i64 S.ver, .map (some m)] : Array Value)[0] = .int .i64 v by rw [hv]; rfl] at c1
  rw [hv]
  clear h hb hv
  go_enter Tryd.func22, Tryd.ntmps22
  go_wp2_with fail
  go_ret
  exact ⟨rfl, rfl⟩

theorem sum_step (l : Bs) (p : Nat) (hp : p < l.length) : sumB (l.take (p + 1)) = sumB (l.take p) + l[p].toNat := by
  unfold sumB
  rw [List.take_succ_eq_append_getElem hp, List.map_append, List.sum_append]
  simp
theorem sum_le : ∀ l : Bs, sumB l ≤ 255 * l.length
  | [] => by simp [sumB]
  | c :: l => by
    have := sum_le l
    have := c.toNat_lt
    unfold sumB at *
    rw [List.map_cons, List.sum_cons, List.length_cons]
    omega

set_option maxRecDepth 100000 in
set_option maxHeartbeats 1000000 in
theorem of_any (h : Rt w0 w t S R rows) (hd : Door w0) (s : ByteArray) (hs : s.size ≤ maxLen) (hn1 : 1 ≤ S.n) (hn2 : S.n ≤ 4) :
    Calls Tryd.prog 12 #[.pointer (some ⟨t, 0, none⟩), .string s] w fun e w' => e = .returned (.int .i64 (ofS S s.data.toList)) ∧ Rt w0 w' t S R rows := by
  have ht := top_any s w (h.door hd) hs
  have hlt : (topP s.data.toList).length ≤ 200 := by
    unfold topP partsP
    split
    · simp
    · rename_i x r hx
      split at hx
      · rename_i hg
        have := goodP_len hg
        have := cutS_mem (x := x) (l := s.data.toList.drop 1) (by rw [hx]; simp)
        rw [List.length_drop] at this
        omega
      · cases hx
  unfold ofS
  obtain ⟨tp, htp⟩ : ∃ tp, topP s.data.toList = tp := ⟨_, rfl⟩
  rw [htp] at ht hlt ⊢
  have HT := Lib.hid ht
  have H := Lib.hid h
  clear ht h htp hd
  have htl : (⟨tp.toArray⟩ : ByteArray).toList = tp := Lib.toList_data _
  by_cases h0 : tp = []
  · subst h0
    rw [if_pos rfl]
    clear htl
    go_enter Tryd.func12, Tryd.ntmps12
    go_wp2_with fail
    refine HT.out.mono ?_
    rintro e w1 ⟨rfl, hu⟩
    have H1 := Lib.hid (H.out.keep hu)
    clear hu
    unfold sv
    go_wp2_with fail
    go_ret
    exact ⟨rfl, H1.out⟩
  rw [if_neg h0]
  have hb0 : ((⟨tp.toArray⟩ : ByteArray).toList == []) = false := by rw [htl]; simpa using h0
  have hb1 : (⟨tp.toArray⟩ : ByteArray).toList.isEmpty = false := by rw [htl]; simpa using h0
  have hsz : (⟨tp.toArray⟩ : ByteArray).size = tp.length := by show tp.toArray.size = _; simp
  obtain ⟨ts, hts⟩ : ∃ ts : ByteArray, ts = ⟨tp.toArray⟩ := ⟨_, rfl⟩
  have hdt : ts.data.toList = tp := by rw [hts]
  unfold sv at HT
  rw [← hts] at HT hb0 hb1 htl hsz
  have HTS := Lib.hid (show _ ∧ _ from ⟨hts, hdt⟩)
  clear hts hdt htl h0
  cases hk : lookM tp S.mv with
  | some v =>
    go_enter Tryd.func12, Tryd.ntmps12
    go_wp2_with fail
    refine HT.out.mono ?_
    rintro e w1 ⟨rfl, hu⟩
    have H1 := Lib.hid (H.out.keep hu)
    obtain ⟨m, hb, hl, -, -⟩ := H1.out.facts
    have hl := hl ts v (by rw [HTS.out.2]; exact hk) w1 rfl
    have c2 := cell_of hb 2 rfl
    rw [show (#[Value.int .i64 S.n, .int .i64 S.ver, .map (some m)] : Array Value)[2] = .map (some m) from rfl] at c2
    clear hu hb hk
    go_wp2_with fail
    go_ret
    exact ⟨rfl, H1.out⟩
  | none =>
    have HK := Lib.hid hk
    clear hk
    obtain ⟨nn, hnn⟩ : ∃ nn, nn = S.n := ⟨_, rfl⟩
    have HNN := Lib.hid hnn
    have hn1' : 1 ≤ nn := by omega
    have hn2' : nn ≤ 4 := by omega
    rw [← hnn]
    clear hnn hn1 hn2
    go_enter Tryd.func12, Tryd.ntmps12
    go_wp2_with fail
    refine HT.out.mono ?_
    rintro e w1 ⟨rfl, hu⟩
    have H1 := Lib.hid (H.out.keep hu)
    obtain ⟨m, hb, -, hl, -⟩ := H1.out.facts
    have hl := hl ts (by rw [HTS.out.2]; exact HK.out) w1 rfl
    have c2 := cell_of hb 2 rfl
    have c0 := cell_of hb 0 rfl
    rw [show (#[Value.int .i64 S.n, .int .i64 S.ver, .map (some m)] : Array Value)[2] = .map (some m) from rfl] at c2
    rw [show (#[Value.int .i64 S.n, .int .i64 S.ver, .map (some m)] : Array Value)[0] = .int .i64 nn by rw [HNN.out]; rfl] at c0
    clear hu hb H HT
    go_wp2_with fail
    go_loopg [8, 27] tp.length (fun k vs vi wr => wr = w1 ∧ ∃ p : Nat, p ≤ tp.length ∧ k = tp.length - p ∧ vi = .int .i64 (p : Int) ∧ vs = .int .i64 (sumB (tp.take p) : Int))
    case atStart => exact ⟨rfl, 0, Nat.zero_le _, rfl, rfl, rfl⟩
    case round =>
      obtain ⟨hW, p, hp, hk, hvi, hvs⟩ := hrel
      subst wr hvi hvs
      have hsl := sum_le (tp.take p)
      rw [List.length_take] at hsl
      by_cases hlt2 : p < tp.length
      · have hst := sum_step tp p hlt2
        have hpz : p < ts.size := by omega
        have hch : ts[p].toNat = tp[p].toNat := by
          have : ts[p] = tp[p] := by
            have e := HTS.out.1
            subst e
            rfl
          rw [this]
        obtain ⟨x, hx⟩ : ∃ x : Nat, tp[p].toNat = x := ⟨_, rfl⟩
        have hx256 : x < 256 := by rw [← hx]; exact UInt8.toNat_lt _
        rw [hx] at hch hst
        have HST := Lib.hid hst
        obtain ⟨q, hq⟩ : ∃ q, sumB (tp.take p) = q := ⟨_, rfl⟩
        rw [hq] at hsl HST ⊢
        have HX := Lib.hid hch
        have hxi : ((ts[p].toNat : Nat) : Int) = (x : Int) := by rw [hch]
        clear hst hx hq hch
        go_wp2_with fail
        go_roundg (tp.length - (p + 1))
        case rel =>
          refine ⟨rfl, p + 1, by omega, rfl, by go_num, ?_⟩
          rw [HST.out]
          first | rfl | (rw [HX.out]; go_num) | go_num
        case measure => omega
      · obtain rfl : p = tp.length := by omega
        rw [List.take_length] at hsl ⊢
        obtain ⟨q, hq⟩ : ∃ q, sumB tp = q := ⟨_, rfl⟩
        rw [hq] at hsl ⊢
        have HQ := Lib.hid hq
        clear hq
        go_wp2_with fail
        go_ret
        exact ⟨by rw [HQ.out]; rfl, H1.out⟩
end
end Go.Proofs.YtfncdgnhiinmjaaDoor
