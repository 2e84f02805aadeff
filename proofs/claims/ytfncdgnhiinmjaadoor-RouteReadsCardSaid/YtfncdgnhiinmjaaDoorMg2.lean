/-
  Texts of this claim, laid together.
-/
import Derived.Test.YtfncdgnhiinmjaaDoorMg1
import Derived.Deep.Matrix
import Derived.Deep.Slices
import Derived.ChangeSame
import Derived.Deep.OwnRows
import Derived.Laws.OwnMore
import Derived.Deep.LoopGhost
import Derived.Deep.AppendSrc
import Derived.Shelf.SlIter.Nil
import Derived.Shelf.SortM.Plain
import Derived.Shelf.SortM.SortNone
import Derived.Ground.GgzProg
import Derived.Ground.SlgmProg
import Derived.Test.YtfncdgnhiinmjaaDoorProg
import Derived.Sort.KeysCollected
import Derived.Lib.SlKeysI
import Derived.WalkKit
import Derived.Sort.Walk0

/-
  Routes: the table in plain words, and in memory.
-/
namespace Go.Proofs.YtfncdgnhiinmjaaDoor
open Go.RowKit Go.Av

structure RtS where
  n : Int
  ver : Int
  mv : List (Bs × Int)
def lookM (k : Bs) (l : List (Bs × Int)) : Option Int := (l.find? fun e => decide (e.1 = k)).map (·.2)
def setM (k : Bs) (v : Int) (l : List (Bs × Int)) : List (Bs × Int) := match lookM k l with
  | some _ => l.map fun e => if e.1 = k then (e.1, v) else e
  | none => l ++ [(k, v)]
def sumB (l : Bs) : Nat := (l.map UInt8.toNat).sum
def ofS (S : RtS) (p : Bs) : Int := if topP p = [] then -1 else match lookM (topP p) S.mv with
  | some s => s
  | none => (sumB (topP p) : Int) % S.n
def badM (S : RtS) (top : Bs) (shard : Int) : Bool := !(topP (47 :: top) == top) || (top == []) || decide (shard < 0) || decide (S.n ≤ shard)
def moveS (S : RtS) (top : Bs) (shard : Int) : Int × RtS :=
  if badM S top shard then (1, S) else if lookM top S.mv = none ∧ 50 ≤ S.mv.length then (2, S) else (0, { S with ver := S.ver + 1, mv := setM top shard S.mv })

def mkv (e : Bs × Int) : Value × Value := (sv e.1, .int .i64 e.2)
def rtTh (t m : Nat) (S : RtS) : List Thing := [ThCell t (.cells #[.int .i64 S.n, .int .i64 S.ver, .map (some m)] 63 (0, 0)), ThMap .string m (S.mv.map mkv)]
/-- A table, in memory. -/
def Rt (w0 w : World) (t : Nat) (S : RtS) (R : List Thing) (rows : List (Value × Bs)) : Prop := ∃ m, Sep w0 w (rtTh t m S ++ R) rows
end Go.Proofs.YtfncdgnhiinmjaaDoor

/-
  Routes: the walks of New, Version, Shards, Of.
-/
namespace Go.Proofs.YtfncdgnhiinmjaaDoor
open Go.RowKit Go.Av

theorem lookM_some {k : Bs} {l : List (Bs × Int)} {v : Int} (h : lookM k l = some v) : ∃ l1 l2, l = l1 ++ (k, v) :: l2 ∧ ∀ e ∈ l1, e.1 ≠ k := by
  unfold lookM at h
  cases hf : l.find? (fun e => decide (e.1 = k)) with
  | none => rw [hf] at h; cases h
  | some e =>
    rw [hf] at h
    cases h
    obtain ⟨hp, S1, S2, hS, hb⟩ := List.find?_eq_some_iff_append.1 hf
    have he : e.1 = k := by simpa using hp
    subst he
    exact ⟨S1, S2, hS, fun q hq => by simpa using hb q hq⟩
theorem lookM_none {k : Bs} {l : List (Bs × Int)} (h : lookM k l = none) : ∀ e ∈ l, e.1 ≠ k := by
  unfold lookM at h
  rw [Option.map_eq_none_iff, List.find?_eq_none] at h
  exact fun e he => by simpa using h e he
theorem sv_inj {a b : Bs} (h : sv a = sv b) : a = b := by
  unfold sv at h
  injection h with h
  injection h with h
  exact congrArg Array.toList h
theorem zeroInt (w : World) : (zeroValue 3).run Tryd.prog w = .ok (.int .i64 0) w := by kernel_rfl

section
variable {w0 w : World} {t : Nat} {S : RtS} {R : List Thing} {rows : List (Value × Bs)}
theorem Rt.below (h : Rt w0 w t S R rows) : Below w0.heap.size w0 w := by obtain ⟨m, hS⟩ := h; exact hS.below
theorem Rt.keep (h : Rt w0 w t S R rows) {w' : World} {D' : List Nat} (hu : Upd w w' [] D') : Rt w0 w' t S R rows := by obtain ⟨m, hS⟩ := h; exact ⟨m, hS.keep hu⟩
theorem Rt.door (h : Rt w0 w t S R rows) (hd : Door w0) : Door w := by obtain ⟨m, hS⟩ := h; exact hd.sep hS
theorem Rt.drew (h : Rt w0 w t S R rows) : Rt w0 w.drew t S R rows := h.keep (Upd.refl w []).drew
theorem Rt.side {A : List Thing} (h : Rt w0 w t S (A ++ R) rows) : ∃ X, Sep w0 w (A ++ X) rows ∧ ∀ (w' : World) (A' : List Thing), Sep w0 w' (A' ++ X) rows → Rt w0 w' t S (A' ++ R) rows := by
  obtain ⟨m, hS⟩ := h
  have e : ∀ B : List Thing, (B ++ (rtTh t m S ++ R)).Perm (rtTh t m S ++ (B ++ R)) := fun B => List.perm_append_comm_assoc _ _ _
  exact ⟨_, hS.perm (e A).symm, fun w' A' hS' => ⟨m, hS'.perm (e A')⟩⟩
/-- What its calls read. -/
theorem Rt.facts (h : Rt w0 w t S R rows) : ∃ m, w.heap[t]? = some (.cells #[.int .i64 S.n, .int .i64 S.ver, .map (some m)] 63 (0, 0)) ∧
    (∀ (s : ByteArray) (v : Int), lookM s.data.toList S.mv = some v → ∀ W : World, W.heap = w.heap → (Instr.lookup 61 (.map (some m)) (.string s) true).run Tryd.prog W = .ok (.tuple #[.int .i64 v, .bool true]) W) ∧
    (∀ (s : ByteArray), lookM s.data.toList S.mv = none → ∀ W : World, W.heap = w.heap → (Instr.lookup 61 (.map (some m)) (.string s) true).run Tryd.prog W = .ok (.tuple #[.int .i64 0, .bool false]) W) ∧
    (∀ ty, ∀ W : World, W.heap = w.heap → (Builtin.len_ #[61] ty #[.map (some m)]).run Tryd.prog W = .ok (.int .i64 S.mv.length) W) := by
  obtain ⟨m, hS⟩ := h
  have hb := hS.block (b := t) (o := .cells #[.int .i64 S.n, .int .i64 S.ver, .map (some m)] 63 (0, 0)) (by simp [rtTh])
  obtain ⟨E, hM, -⟩ := hS.has (T := ThMap .string m (S.mv.map mkv)) (by simp [rtTh])
  refine ⟨m, hb, fun s v hv W hW => ?_, fun s hv W hW => ?_, fun ty W hW => ?_⟩
  · obtain ⟨l1, l2, he, -⟩ := lookM_some hv
    have hM' := hM.frame (w' := W) (by rw [hW])
    exact mp_look hM' Tryd.underlying61 Tryd.underlying9 (key := .string s) trivial (List.mem_map.2 ⟨(s.data.toList, v), by rw [he]; simp, rfl⟩) true
  · have hM' := hM.frame (w' := W) (by rw [hW])
    refine mp_lookN hM' Tryd.underlying61 Tryd.underlying9 (key := .string s) trivial (fun q hq => ?_) (zeroInt _) true
    obtain ⟨e, he, rfl⟩ := List.mem_map.1 hq
    intro h
    exact lookM_none hv e he (sv_inj (b := s.data.toList) h)
  · have hM' := hM.frame (w' := W) (by rw [hW])
    have := mp_len (P := Tryd.prog) hM' Tryd.underlying61 ty
    simpa using this

set_option maxHeartbeats 400000 in
theorem rt_new (h : Sep w0 w R rows) (n : Int) (h1 : 1 ≤ n) (h4 : n ≤ 4) : Calls Tryd.prog 10 #[.int .i64 n] w fun e w' => ∃ t, e = .returned (.tuple #[.pointer (some ⟨t, 0, none⟩), .int .i64 0]) ∧ Rt w0 w' t ⟨n, 1, []⟩ R rows := by
  have h1' := (h.newMap .string).newCell (.cells #[.int .i64 n, .int .i64 1, .map (some w.heap.size)] 63 (0, 0))
  rw [show (w.alloc (.map #[] 0)).heap.size = w.heap.size + 1 by simp] at h1'
  have H := Lib.hid (show Sep w0 _ (rtTh (w.heap.size + 1) w.heap.size ⟨n, 1, []⟩ ++ R) rows from h1')
  clear h h1'
  have hmm := @run_makeMap Tryd.prog
  have h1b : ¬ n < 1 := by omega
  have h4b : ¬ 4 < n := by omega
  go_enter Tryd.func10, Tryd.ntmps10
  go_wp2_with fail
  go_ret2
  exact ⟨_, rfl, _, H.out⟩
theorem rt_new_no (w : World) (n : Int) (h : n < 1 ∨ 4 < n) : Calls Tryd.prog 10 #[.int .i64 n] w fun e w' => e = .returned (.tuple #[.pointer none, .int .i64 1]) ∧ w' = w := by
  by_cases h1 : n < 1
  case' neg => have h4 : 4 < n := by omega
  all_goals
    clear h
    go_enter Tryd.func10, Tryd.ntmps10
    go_wp2_with fail
    go_ret2
    exact ⟨rfl, rfl⟩
theorem rt_version (h : Rt w0 w t S R rows) : Calls Tryd.prog 13 #[.pointer (some ⟨t, 0, none⟩)] w fun e w' => e = .returned (.int .i64 S.ver) ∧ w' = w := by
  obtain ⟨m, hb, -⟩ := h.facts
  have c1 := cell_of hb 1 rfl
  obtain ⟨v, hv⟩ : ∃ v, S.ver = v := ⟨_, rfl⟩
  rw [show (#[Value.int .i64 S.n, .int .i64 S.ver, .map (some m)] : Array Value)[1] = .int .i64 v by rw [hv]; rfl] at c1
  rw [hv]
  clear h hb hv
  go_enter Tryd.func13, Tryd.ntmps13
  go_wp2_with fail
  go_ret
  exact ⟨rfl, rfl⟩
theorem rt_shards (h : Rt w0 w t S R rows) : Calls Tryd.prog 22 #[.pointer (some ⟨t, 0, none⟩)] w fun e w' => e = .returned (.int .i64 S.n) ∧ w' = w := by
  obtain ⟨m, hb, -⟩ := h.facts
  have c1 := cell_of hb 0 rfl
  obtain ⟨v, hv⟩ : ∃ v, S.n = v := ⟨_, rfl⟩
  rw [show (#[Value.int .i64 S.n, .int .i64 S.ver, .map (some m)] : Array Value)[0] = .int .i64 v by rw [hv]; rfl] at c1
  rw [hv]
  clear h hb hv
  go_enter Tryd.func22, Tryd.ntmps22
  go_wp2_with fail
  go_ret
  exact ⟨rfl, rfl⟩

theorem sum_step (l : Bs) (p : Nat) (hp : p < l.length) : sumB (l.take (p + 1)) = sumB (l.take p) + l[p].toNat := by
  unfold sumB
  rw [List.take_succ_eq_append_getElem hp, List.map_append, List.sum_append]
  simp
theorem sum_le : ∀ l : Bs, sumB l ≤ 255 * l.length
  | [] => by simp [sumB]
  | c :: l => by
    have := sum_le l
    have := c.toNat_lt
    unfold sumB at *
    rw [List.map_cons, List.sum_cons, List.length_cons]
    omega

set_option maxRecDepth 100000 in
set_option maxHeartbeats 1000000 in
theorem of_any (h : Rt w0 w t S R rows) (hd : Door w0) (s : ByteArray) (hs : s.size ≤ maxLen) (hn1 : 1 ≤ S.n) (hn2 : S.n ≤ 4) :
    Calls Tryd.prog 12 #[.pointer (some ⟨t, 0, none⟩), .string s] w fun e w' => e = .returned (.int .i64 (ofS S s.data.toList)) ∧ Rt w0 w' t S R rows := by
  have ht := top_any s w (h.door hd) hs
  have hlt : (topP s.data.toList).length ≤ 200 := by
    unfold topP partsP
    split
    · simp
    · rename_i x r hx
      split at hx
      · rename_i hg
        have := goodP_len hg
        have := cutS_mem (x := x) (l := s.data.toList.drop 1) (by rw [hx]; simp)
        rw [List.length_drop] at this
        omega
      · cases hx
  unfold ofS
  obtain ⟨tp, htp⟩ : ∃ tp, topP s.data.toList = tp := ⟨_, rfl⟩
  rw [htp] at ht hlt ⊢
  have HT := Lib.hid ht
  have H := Lib.hid h
  clear ht h htp hd
  have htl : (⟨tp.toArray⟩ : ByteArray).toList = tp := Lib.toList_data _
  by_cases h0 : tp = []
  · subst h0
    rw [if_pos rfl]
    clear htl
    go_enter Tryd.func12, Tryd.ntmps12
    go_wp2_with fail
    refine HT.out.mono ?_
    rintro e w1 ⟨rfl, hu⟩
    have H1 := Lib.hid (H.out.keep hu)
    clear hu
    unfold sv
    go_wp2_with fail
    go_ret
    exact ⟨rfl, H1.out⟩
  rw [if_neg h0]
  have hb0 : ((⟨tp.toArray⟩ : ByteArray).toList == []) = false := by rw [htl]; simpa using h0
  have hb1 : (⟨tp.toArray⟩ : ByteArray).toList.isEmpty = false := by rw [htl]; simpa using h0
  have hsz : (⟨tp.toArray⟩ : ByteArray).size = tp.length := by show tp.toArray.size = _; simp
  obtain ⟨ts, hts⟩ : ∃ ts : ByteArray, ts = ⟨tp.toArray⟩ := ⟨_, rfl⟩
  have hdt : ts.data.toList = tp := by rw [hts]
  unfold sv at HT
  rw [← hts] at HT hb0 hb1 htl hsz
  have HTS := Lib.hid (show _ ∧ _ from ⟨hts, hdt⟩)
  clear hts hdt htl h0
  cases hk : lookM tp S.mv with
  | some v =>
    go_enter Tryd.func12, Tryd.ntmps12
    go_wp2_with fail
    refine HT.out.mono ?_
    rintro e w1 ⟨rfl, hu⟩
    have H1 := Lib.hid (H.out.keep hu)
    obtain ⟨m, hb, hl, -, -⟩ := H1.out.facts
    have hl := hl ts v (by rw [HTS.out.2]; exact hk) w1 rfl
    have c2 := cell_of hb 2 rfl
    rw [show (#[Value.int .i64 S.n, .int .i64 S.ver, .map (some m)] : Array Value)[2] = .map (some m) from rfl] at c2
    clear hu hb hk
    go_wp2_with fail
    go_ret
    exact ⟨rfl, H1.out⟩
  | none =>
    have HK := Lib.hid hk
    clear hk
    obtain ⟨nn, hnn⟩ : ∃ nn, nn = S.n := ⟨_, rfl⟩
    have HNN := Lib.hid hnn
    have hn1' : 1 ≤ nn := by omega
    have hn2' : nn ≤ 4 := by omega
    rw [← hnn]
    clear hnn hn1 hn2
    go_enter Tryd.func12, Tryd.ntmps12
    go_wp2_with fail
    refine HT.out.mono ?_
    rintro e w1 ⟨rfl, hu⟩
    have H1 := Lib.hid (H.out.keep hu)
    obtain ⟨m, hb, -, hl, -⟩ := H1.out.facts
    have hl := hl ts (by rw [HTS.out.2]; exact HK.out) w1 rfl
    have c2 := cell_of hb 2 rfl
    have c0 := cell_of hb 0 rfl
    rw [show (#[Value.int .i64 S.n, .int .i64 S.ver, .map (some m)] : Array Value)[2] = .map (some m) from rfl] at c2
    rw [show (#[Value.int .i64 S.n, .int .i64 S.ver, .map (some m)] : Array Value)[0] = .int .i64 nn by rw [HNN.out]; rfl] at c0
    clear hu hb H HT
    go_wp2_with fail
    go_loopg [8, 27] tp.length (fun k vs vi wr => wr = w1 ∧ ∃ p : Nat, p ≤ tp.length ∧ k = tp.length - p ∧ vi = .int .i64 (p : Int) ∧ vs = .int .i64 (sumB (tp.take p) : Int))
    case atStart => exact ⟨rfl, 0, Nat.zero_le _, rfl, rfl, rfl⟩
    case round =>
      obtain ⟨hW, p, hp, hk, hvi, hvs⟩ := hrel
      subst wr hvi hvs
      have hsl := sum_le (tp.take p)
      rw [List.length_take] at hsl
      by_cases hlt2 : p < tp.length
      · have hst := sum_step tp p hlt2
        have hpz : p < ts.size := by omega
        have hch : ts[p].toNat = tp[p].toNat := by
          have : ts[p] = tp[p] := by
            have e := HTS.out.1
            subst e
            rfl
          rw [this]
        obtain ⟨x, hx⟩ : ∃ x : Nat, tp[p].toNat = x := ⟨_, rfl⟩
        have hx256 : x < 256 := by rw [← hx]; exact UInt8.toNat_lt _
        rw [hx] at hch hst
        have HST := Lib.hid hst
        obtain ⟨q, hq⟩ : ∃ q, sumB (tp.take p) = q := ⟨_, rfl⟩
        rw [hq] at hsl HST ⊢
        have HX := Lib.hid hch
        have hxi : ((ts[p].toNat : Nat) : Int) = (x : Int) := by rw [hch]
        clear hst hx hq hch
        go_wp2_with fail
        go_roundg (tp.length - (p + 1))
        case rel =>
          refine ⟨rfl, p + 1, by omega, rfl, by go_num, ?_⟩
          rw [HST.out]
          first | rfl | (rw [HX.out]; go_num) | go_num
        case measure => omega
      · obtain rfl : p = tp.length := by omega
        rw [List.take_length] at hsl ⊢
        obtain ⟨q, hq⟩ : ∃ q, sumB tp = q := ⟨_, rfl⟩
        rw [hq] at hsl ⊢
        have HQ := Lib.hid hq
        clear hq
        go_wp2_with fail
        go_ret
        exact ⟨by rw [HQ.out]; rfl, H1.out⟩
end
end Go.Proofs.YtfncdgnhiinmjaaDoor

/-
  Routes: the walk of Move.
-/
namespace Go.Proofs.YtfncdgnhiinmjaaDoor
open Go.RowKit Go.Av

theorem str_eq (a b : ByteArray) : (a.toList == b.toList) = (a.data.toList == b.data.toList) := by rw [Lib.toList_data, Lib.toList_data]
theorem map_set {k : Bs} {v : Int} {l : List (Bs × Int)} {v0 : Int} (h : lookM k l = some v0) (hn : (l.map fun e => (mkv e).1).Nodup) : ∃ l1 l2, l = l1 ++ (k, v0) :: l2 ∧ setM k v l = l1 ++ (k, v) :: l2 := by
  obtain ⟨l1, l2, rfl, h1⟩ := lookM_some h
  refine ⟨l1, l2, rfl, ?_⟩
  have h2 : ∀ e ∈ l2, e.1 ≠ k := fun e he hk => by
    rw [List.map_append, List.map_cons] at hn
    have := (List.nodup_append.1 hn).2.1
    rw [List.nodup_cons] at this
    exact this.1 (List.mem_map.2 ⟨e, he, by unfold mkv; rw [hk]⟩)
  unfold setM
  rw [h]
  have e : ∀ (q : List (Bs × Int)), (∀ e ∈ q, e.1 ≠ k) → q.map (fun e => if e.1 = k then (e.1, v) else e) = q := fun q hq => by
    conv => rhs; rw [← List.map_id q]
    exact List.map_congr_left fun e he => by rw [if_neg (hq e he)]; rfl
  simp only [List.map_append, List.map_cons, if_true, e l1 h1, e l2 h2]

section
variable {w0 w : World} {t : Nat} {S : RtS} {R : List Thing} {rows : List (Value × Bs)}
/-- What moved[top] = shard makes. -/
theorem Rt.set (h : Rt w0 w t S R rows) (s : ByteArray) (v : Int) {m : Nat} (hm : w.cell? ⟨t, 2, none⟩ = some (.map (some m))) : ∃ w', (Instr.mapUpdate 61 (.map (some m)) (.string s) (.int .i64 v)).run Tryd.prog w = .ok () w' ∧ Rt w0 w' t { S with mv := setM s.data.toList v S.mv } R rows := by
  obtain ⟨m', hS⟩ := h
  have hb := hS.block (b := t) (o := .cells #[.int .i64 S.n, .int .i64 S.ver, .map (some m')] 63 (0, 0)) (by simp [rtTh])
  have hmm := (cell_of hb 2 rfl).symm.trans hm
  injection hmm with hmm
  injection hmm with hmm
  injection hmm with hmm
  subst hmm
  have h2 := hS.perm (List.Perm.swap _ _ _)
  have hM := h2.mapIs
  cases hk : lookM s.data.toList S.mv with
  | some v0 =>
    have hnd := hM.nodup
    rw [List.map_map] at hnd
    obtain ⟨l1, l2, he, hs⟩ := map_set (v := v) hk hnd
    rw [he, List.map_append, List.map_cons] at hM
    obtain ⟨w', hrun, hM', hU⟩ := mp_old (P := Tryd.prog) (v := .int .i64 v) hM Tryd.underlying61 Tryd.underlying9 trivial
    refine ⟨w', hrun, m', ?_⟩
    have h3 := (h2.mapTo hU (l' := (setM s.data.toList v S.mv).map mkv) (by rw [hs, List.map_append, List.map_cons]; exact hM')).perm (List.Perm.swap _ _ _)
    exact h3
  | none =>
    have hno := lookM_none hk
    obtain ⟨w', hrun, hM', hU⟩ := mp_new (P := Tryd.prog) (key := .string s) (v := .int .i64 v) hM Tryd.underlying61 Tryd.underlying9 trivial (fun q hq e => by
      obtain ⟨e0, he0, rfl⟩ := List.mem_map.1 hq
      exact hno e0 he0 (sv_inj (b := s.data.toList) e))
    refine ⟨w', hrun, m', ?_⟩
    have h3 := (h2.mapTo hU (l' := (setM s.data.toList v S.mv).map mkv) (by unfold setM; rw [hk, List.map_append]; exact hM')).perm (List.Perm.swap _ _ _)
    exact h3
theorem Rt.ver (h : Rt w0 w t S R rows) (v : Int) : Rt w0 (w.setCell ⟨t, 1, none⟩ (.int .i64 v)) t { S with ver := v } R rows := by
  obtain ⟨m, hS⟩ := h
  exact ⟨m, hS.set 1 (.int .i64 v)⟩



set_option maxRecDepth 100000 in
set_option maxHeartbeats 2000000 in
theorem move_any (h : Rt w0 w t S R rows) (hd : Door w0) (s : ByteArray) (shard : Int) (hs : s.size ≤ 1000000) (hv1 : 0 ≤ S.ver) (hv2 : S.ver ≤ 1000000) :
    Calls Tryd.prog 11 #[.pointer (some ⟨t, 0, none⟩), .string s, .int .i64 shard] w fun e w' => e = .returned (.int .i64 (moveS S s.data.toList shard).1) ∧ Rt w0 w' t (moveS S s.data.toList shard).2 R rows := by
  obtain ⟨m, hb, hlS, hlN, hlen⟩ := h.facts
  have c0 : w.cell? ⟨t, 0, none⟩ = some (.int .i64 S.n) := cell_of hb 0 rfl
  have c2 : w.cell? ⟨t, 2, none⟩ = some (.map (some m)) := cell_of hb 2 rfl
  have hlk : ∃ v0 there, (Instr.lookup 61 (.map (some m)) (.string s) true).run Tryd.prog w = .ok (.tuple #[.int .i64 v0, .bool there]) w ∧ there = (lookM s.data.toList S.mv).isSome := by
    cases hk : lookM s.data.toList S.mv with
    | some v => exact ⟨v, true, hlS s v hk w rfl, rfl⟩
    | none => exact ⟨0, false, hlN s hk w rfl, rfl⟩
  obtain ⟨v0, there, hlk, hth⟩ := hlk
  have ht := top_any (⟨#[47]⟩ ++ s) w (h.door hd) (by
    have : (⟨#[47]⟩ ++ s : ByteArray).size = 1 + s.size := by simp [ByteArray.size_append]; rfl
    unfold maxLen; omega)
  have hdt : (⟨#[47]⟩ ++ s : ByteArray).data.toList = 47 :: s.data.toList := by simp [ByteArray.data_append]
  rw [hdt] at ht
  have hbd : badM S s.data.toList shard = (!(topP (47 :: s.data.toList) == s.data.toList) || (s.data.toList == []) || decide (shard < 0) || decide (S.n ≤ shard)) := rfl
  obtain ⟨tp, htp⟩ : ∃ tp, topP (47 :: s.data.toList) = tp := ⟨_, rfl⟩
  rw [htp] at ht hbd
  have e1 : ((⟨tp.toArray⟩ : ByteArray).toList == s.toList) = (tp == s.data.toList) := str_eq _ _
  have e2 : (s.toList == []) = (s.data.toList == []) := by rw [Lib.toList_data]
  have e3 : s.toList.isEmpty = (s.data.toList == []) := by rw [Lib.toList_data]; cases s.data.toList <;> rfl
  have HT := Lib.hid ht
  have H := Lib.hid h
  obtain ⟨n, hn⟩ : ∃ n, S.n = n := ⟨_, rfl⟩
  rw [hn] at c0 hbd
  have HN := Lib.hid (show _ ∧ _ ∧ _ from ⟨hn, hlen, hth⟩)
  clear ht h htp hdt hb hlS hlN hn hlen hth
  unfold sv at HT
  obtain ⟨ts, hts⟩ : ∃ ts : ByteArray, ts = ⟨tp.toArray⟩ := ⟨_, rfl⟩
  rw [← hts] at HT e1
  clear hts
  cases h1 : (tp == s.data.toList) with
  | false =>
    have HBD := Lib.hid (show badM S s.data.toList shard = true by rw [hbd, h1]; simp)
    rw [h1] at e1
    clear hbd h1 e2 e3
    go_enter Tryd.func11, Tryd.ntmps11
    go_wp2_with fail
    refine HT.out.mono ?_
    rintro e w1 ⟨rfl, hu⟩
    have H1 := Lib.hid (H.out.keep hu)
    have c0 := upd_cell hu c0
    clear hu
    go_wp2_with fail
    go_ret
    rw [show moveS S s.data.toList shard = (1, S) by unfold moveS; rw [if_pos HBD.out]]
    exact ⟨rfl, H1.out⟩
  | true =>
  rw [h1] at e1
  cases h2 : (s.data.toList == []) with
  | true =>
    have HBD := Lib.hid (show badM S s.data.toList shard = true by rw [hbd, h2]; simp)
    rw [h2] at e2 e3
    clear hbd h1 h2
    go_enter Tryd.func11, Tryd.ntmps11
    go_wp2_with fail
    refine HT.out.mono ?_
    rintro e w1 ⟨rfl, hu⟩
    have H1 := Lib.hid (H.out.keep hu)
    have c0 := upd_cell hu c0
    clear hu
    go_wp2_with fail
    go_ret
    rw [show moveS S s.data.toList shard = (1, S) by unfold moveS; rw [if_pos HBD.out]]
    exact ⟨rfl, H1.out⟩
  | false =>
  rw [h2] at e2 e3
  by_cases h3 : shard < 0
  · have HBD := Lib.hid (show badM S s.data.toList shard = true by rw [hbd]; simp [h3])
    clear hbd h1 h2
    go_enter Tryd.func11, Tryd.ntmps11
    go_wp2_with fail
    refine HT.out.mono ?_
    rintro e w1 ⟨rfl, hu⟩
    have H1 := Lib.hid (H.out.keep hu)
    have c0 := upd_cell hu c0
    clear hu
    go_wp2_with fail
    go_ret
    rw [show moveS S s.data.toList shard = (1, S) by unfold moveS; rw [if_pos HBD.out]]
    exact ⟨rfl, H1.out⟩
  by_cases h4 : n ≤ shard
  · have HBD := Lib.hid (show badM S s.data.toList shard = true by rw [hbd]; simp [h4])
    clear hbd h1 h2
    go_enter Tryd.func11, Tryd.ntmps11
    go_wp2_with fail
    refine HT.out.mono ?_
    rintro e w1 ⟨rfl, hu⟩
    have H1 := Lib.hid (H.out.keep hu)
    have c0 := upd_cell hu c0
    clear hu
    go_wp2_with fail
    go_ret
    rw [show moveS S s.data.toList shard = (1, S) by unfold moveS; rw [if_pos HBD.out]]
    exact ⟨rfl, H1.out⟩
  have HBD := Lib.hid (show badM S s.data.toList shard = false by rw [hbd, h1, h2]; simp; omega)
  clear hbd h1 h2
  obtain ⟨vr, hvr⟩ : ∃ vr, S.ver = vr := ⟨_, rfl⟩
  rw [hvr] at hv1 hv2
  have HV := Lib.hid hvr
  clear hvr
  have hlim : ¬ (S.mv.length : Int) ≤ 1000000000 ∨ (S.mv.length : Int) ≤ 1000000000 := by omega
  clear hlim
  cases hk : lookM s.data.toList S.mv with
  | some q =>
    have hth : there = true := by rw [HN.out.2.2, hk]; rfl
    have HM := Lib.hid (show moveS S s.data.toList shard = (0, { S with ver := S.ver + 1, mv := setM s.data.toList shard S.mv }) by
      unfold moveS
      rw [if_neg (by rw [HBD.out]; simp), if_neg (by rw [hk]; simp)])
    subst hth
    clear hk
    go_enter Tryd.func11, Tryd.ntmps11
    go_wp2_with fail
    refine HT.out.mono ?_
    rintro e w1 ⟨rfl, hu⟩
    have H1 := Lib.hid (H.out.keep hu)
    obtain ⟨m', hb, -, -, hlen⟩ := H1.out.facts
    have k0 : w1.cell? ⟨t, 0, none⟩ = some (.int .i64 n) := upd_cell hu c0
    have k2 : w1.cell? ⟨t, 2, none⟩ = some (.map (some m)) := upd_cell hu c2
    have hmm := (cell_of hb 2 rfl).symm.trans k2
    injection hmm with hmm
    injection hmm with hmm
    injection hmm with hmm
    subst hmm
    have hlen := fun ty => hlen ty w1 rfl
    obtain ⟨w2, hrun, h2⟩ := H1.out.set s shard k2
    obtain ⟨m2, hb2, -⟩ := h2.facts
    have k1 := cell_of hb2 1 rfl
    rw [show (#[Value.int .i64 S.n, .int .i64 S.ver, .map (some m2)] : Array Value)[1] = .int .i64 vr by rw [HV.out]; rfl] at k1
    have y1 := frz_of hb2 1
    have H3 := Lib.hid (h2.ver (vr + 1))
    clear hu hb c0 c2 hb2 h2
    go_wp2_with fail
    go_ret
    rw [HM.out]
    refine ⟨rfl, ?_⟩
    have e := HV.out
    subst e
    exact H3.out
  | none =>
    have hth : there = false := by rw [HN.out.2.2, hk]; rfl
    subst hth
    by_cases h50 : 50 ≤ S.mv.length
    · have HM := Lib.hid (show moveS S s.data.toList shard = (2, S) by
        unfold moveS
        rw [if_neg (by rw [HBD.out]; simp), if_pos ⟨hk, h50⟩])
      clear hk
      go_enter Tryd.func11, Tryd.ntmps11
      go_wp2_with fail
      refine HT.out.mono ?_
      rintro e w1 ⟨rfl, hu⟩
      have H1 := Lib.hid (H.out.keep hu)
      obtain ⟨m', hb, -, -, hlen⟩ := H1.out.facts
      have k0 : w1.cell? ⟨t, 0, none⟩ = some (.int .i64 n) := upd_cell hu c0
      have k2 : w1.cell? ⟨t, 2, none⟩ = some (.map (some m)) := upd_cell hu c2
      have hmm := (cell_of hb 2 rfl).symm.trans k2
      injection hmm with hmm
      injection hmm with hmm
      injection hmm with hmm
      subst hmm
      have hlen := fun ty => hlen ty w1 rfl
      have h50' : (50 : Int) ≤ S.mv.length := by omega
      clear hu hb c0 c2
      go_wp2_with fail
      go_ret
      rw [HM.out]
      exact ⟨rfl, H1.out⟩
    · have HM := Lib.hid (show moveS S s.data.toList shard = (0, { S with ver := S.ver + 1, mv := setM s.data.toList shard S.mv }) by
        unfold moveS
        rw [if_neg (by rw [HBD.out]; simp), if_neg (fun h => h50 h.2)])
      have h50' : ¬ (50 : Int) ≤ S.mv.length := by omega
      clear hk h50
      go_enter Tryd.func11, Tryd.ntmps11
      go_wp2_with fail
      refine HT.out.mono ?_
      rintro e w1 ⟨rfl, hu⟩
      have H1 := Lib.hid (H.out.keep hu)
      obtain ⟨m', hb, -, -, hlen⟩ := H1.out.facts
      have k0 : w1.cell? ⟨t, 0, none⟩ = some (.int .i64 n) := upd_cell hu c0
      have k2 : w1.cell? ⟨t, 2, none⟩ = some (.map (some m)) := upd_cell hu c2
      have hmm := (cell_of hb 2 rfl).symm.trans k2
      injection hmm with hmm
      injection hmm with hmm
      injection hmm with hmm
      subst hmm
      have hlen := fun ty => hlen ty w1 rfl
      obtain ⟨w2, hrun, h2⟩ := H1.out.set s shard k2
      obtain ⟨m2, hb2, -⟩ := h2.facts
      have k1 := cell_of hb2 1 rfl
      rw [show (#[Value.int .i64 S.n, .int .i64 S.ver, .map (some m2)] : Array Value)[1] = .int .i64 vr by rw [HV.out]; rfl] at k1
      have y1 := frz_of hb2 1
      have H3 := Lib.hid (h2.ver (vr + 1))
      clear hu hb c0 c2 hb2 h2
      go_wp2_with fail
      go_ret
      rw [HM.out]
      refine ⟨rfl, ?_⟩
      have e := HV.out
      subst e
      exact H3.out
end
end Go.Proofs.YtfncdgnhiinmjaaDoor

/-
  Inputs of layer 16: a slice of moves, opened.
-/
namespace Go.Av
theorem add_twice (x : Addr) (i j : Nat) : (x.add i).add j = x.add (i + j) := (Go.Deep.add_add x i j).symm ▸ rfl
theorem spot_of {w : World} {x : Addr} {v : Value} (h : w.cell? x = some v) : x.spot = none := by
  cases hs : x.spot with
  | none => rfl
  | some _ =>
    unfold World.cell? at h
    split at h <;> simp [hs] at h
theorem add_field {w : World} {x : Addr} {k : Nat} {v : Value} (h : w.cell? (x.add k) = some v) (j : Nat) : x.add (k + j) = ⟨(x.add k).block, (x.add k).off + j, none⟩ := by
  have h1 := spot_of h
  rw [← Go.Deep.add_add]
  generalize x.add k = y at h1 ⊢
  obtain ⟨b, o, sp⟩ := y
  simp only at h1
  subst h1
  exact Addr.add_lit b o j
end Go.Av
namespace Go.Proofs.YtfncdgnhiinmjaaDoor
open Go.RowKit Go.Av Go.ChangeShapes Go.WideShapes

/-- What the walk is told of a slice of moves. -/
def IsMvs (w : World) (a : Option Addr) (len cap : Nat) (l : List (ByteArray × Int)) : Prop :=
  l.length = len ∧ len ≤ cap ∧ cap ≤ maxLen ∧ (a = none → cap = 0) ∧
    (∀ x, a = some x → ∀ i, (h : i < l.length) → w.cell? (x.add (i * 2)) = some (.string l[i].1) ∧ w.cell? (x.add (i * 2 + 1)) = some (.int .i64 l[i].2)) ∧ ∀ c ∈ l, c.1.size ≤ maxLen

theorem mvCells : Tryd.prog.cellsOf 29 = 2 ∧ Tryd.prog.cellsOf 3 = 1 ∧ Tryd.prog.cellsOf 9 = 1 := by
  refine ⟨?_, ?_, ?_⟩ <;> kernel_rfl

set_option maxRecDepth 100000 in
theorem mvs_of {H : Type} {enc : TypeId × Value → H} {w : World} {base : Nat} {held : Bool} {fuel : Nat} {a : Option Addr} {len cap : Nat} {x : DataW H × List MemPlace}
    (h : DataW.trod enc Tryd.prog w base (fun _ => true) held fuel 22 [.slice a len cap] = some x) : ∃ l, IsMvs w a len cap l := by
  obtain ⟨c1, c2, c3⟩ := mvCells
  rcases Deep.open_slice Tryd.underlying22 h with ⟨hcs, _⟩ | ⟨x, l, c, m, n, D, Pl, hcs, hb, hl, hm, hmm, hx, hi⟩
  · cases hcs
    exact ⟨[], rfl, Nat.le_refl _, by decide, fun _ => rfl, by simp, by simp⟩
  · cases hcs
    rw [c1] at hi
    have each : ∀ i, i < len → ∃ q : ByteArray × Int, (w.cell? (x.add (i * 2)) = some (.string q.1) ∧ w.cell? (x.add (i * 2 + 1)) = some (.int .i64 q.2)) ∧ q.1.size ≤ maxLen := by
      intro i hil
      obtain ⟨cs', hc, ht⟩ := hi i (by rw [hmm]; split <;> omega)
      obtain ⟨_, hcl, hat⟩ := World.cells?_some hc
      obtain ⟨ys, n', -, -, -, hyl, hf⟩ := DataW.trod_struct Tryd.underlying29 ht
      match cs', hcl with
      | [k0, k1], _ =>
        have f0 : DataW.trod enc Tryd.prog w base (fun _ => true) held n' 9 (List.take (Tryd.prog.cellsOf 9) (List.drop 0 [k0, k1])) = ys[0]? := hf 0 _ rfl
        have f1 : DataW.trod enc Tryd.prog w base (fun _ => true) held n' 3 (List.take (Tryd.prog.cellsOf 3) (List.drop (Tryd.prog.cellsOf 9) [k0, k1])) = ys[1]? := hf 1 _ rfl
        rw [c3] at f0 f1
        rw [c2] at f1
        have hy : ∀ j, j < 2 → ∃ y, ys[j]? = some y := fun j hj => ⟨ys[j]'(by rw [hyl]; exact hj), List.getElem?_eq_getElem _⟩
        obtain ⟨y0, e0⟩ := hy 0 (by omega)
        obtain ⟨y1, e1⟩ := hy 1 (by omega)
        obtain ⟨n0, g0, -, w0⟩ := DataW.trod_string Tryd.underlying9 (f0.trans e0)
        obtain ⟨n1, g1, -, -⟩ := DataW.trod_int Tryd.underlying3 (f1.trans e1)
        simp at g0 g1
        subst g0 g1
        refine ⟨⟨n0, n1⟩, ⟨?_, ?_⟩, w0⟩
        · have := hat 0 (by omega); rw [add_twice] at this; exact this
        · have := hat 1 (by omega); rw [add_twice] at this; exact this
    obtain ⟨y, hy⟩ := Deep.choose_lt each
    refine ⟨(List.range len).map y, by simp, hl, hm, by simp, ?_, ?_⟩
    · intro x' hx' i hi'
      cases hx'
      simp at hi'
      simpa using (hy i hi').1
    · intro q hq
      obtain ⟨i, hi', rfl⟩ := List.mem_map.1 hq
      exact (hy i (List.mem_range.1 hi')).2
end Go.Proofs.YtfncdgnhiinmjaaDoor

/-
  Routes: what all the laws of layer 16 begin with.
-/
namespace Go.Proofs.YtfncdgnhiinmjaaDoor
open Go.RowKit Go.Av

theorem aw1 : ofS ⟨2, 1, []⟩ [47, 97] = 1 := by decide +kernel
theorem aw2 : moveS ⟨2, 1, []⟩ [97] 0 = (0, ⟨2, 2, [([97], 0)]⟩) := by rfl
theorem aw3 : ofS ⟨2, 2, [([97], 0)]⟩ [47, 97, 47, 98] = 0 := by decide +kernel

set_option maxRecDepth 100000 in
set_option maxHeartbeats 1000000 in
theorem awake16_any (w : World) (hd : Door w) : Calls Tryd.prog 9 #[] w fun e w' => e = .returned (.bool true) ∧ Upd w w' [] [] := by
  have HD := Lib.hid hd
  clear hd
  go_enter Tryd.func9, Tryd.ntmps9
  go_wp2_with fail
  refine (rt_new (Sep.start w) 2 (by decide) (by decide)).mono ?_
  rintro e w1 ⟨t, rfl, h⟩
  have H1 := Lib.hid h
  clear h
  go_wp2_with fail
  have c := of_any H1.out HD.out ⟨#[47, 97]⟩ (by decide) (by decide) (by decide)
  rw [show (⟨#[47, 97]⟩ : ByteArray).data.toList = [47, 97] from rfl, aw1] at c
  refine c.mono ?_
  clear c
  rintro e w2 ⟨rfl, h⟩
  have H2 := Lib.hid h
  clear h H1
  go_wp2_with fail
  have c := move_any H2.out HD.out ⟨#[97]⟩ 0 (by decide) (by decide) (by decide)
  rw [show (⟨#[97]⟩ : ByteArray).data.toList = [97] from rfl, aw2] at c
  refine c.mono ?_
  clear c
  rintro e w3 ⟨rfl, h⟩
  have H3 := Lib.hid h
  clear h H2
  go_wp2_with fail
  have c := of_any H3.out HD.out ⟨#[47, 97, 47, 98]⟩ (by decide) (by decide) (by decide)
  rw [show (⟨#[47, 97, 47, 98]⟩ : ByteArray).data.toList = [47, 97, 47, 98] from rfl, aw3] at c
  refine c.mono ?_
  clear c
  rintro e w4 ⟨rfl, h⟩
  have H4 := Lib.hid h
  clear h H3
  go_wp2_with fail
  refine (rt_version H4.out).mono ?_
  rintro e w5 ⟨rfl, hW⟩
  subst w5
  go_wp2_with fail
  refine (rt_shards H4.out).mono ?_
  rintro e w5 ⟨rfl, hW⟩
  subst w5
  go_wp2_with fail
  go_ret
  obtain ⟨m, D, -, hu, -⟩ := H4.out
  exact ⟨rfl, hu.mono (fun _ h => h) (fun b hb => by cases hb)⟩
end Go.Proofs.YtfncdgnhiinmjaaDoor

/-
  Routes in plain words: what a move makes of whose a path is.
-/
namespace Go.Proofs.YtfncdgnhiinmjaaDoor
open Go.RowKit Go.Av

theorem move_n (S : RtS) (top : Bs) (sh : Int) : (moveS S top sh).2.n = S.n ∧ S.ver ≤ (moveS S top sh).2.ver ∧ (moveS S top sh).2.ver ≤ S.ver + 1 := by
  unfold moveS
  split
  · simp; omega
  · split
    · simp; omega
    · simp; omega
theorem move_no {S : RtS} {top : Bs} {sh : Int} (h : (moveS S top sh).1 ≠ 0) : (moveS S top sh).2 = S := by
  unfold moveS at h ⊢
  split
  · rfl
  · split
    · rfl
    · rename_i h1 h2
      rw [if_neg h1, if_neg h2] at h
      exact absurd rfl h
theorem move_ok {S : RtS} {top : Bs} {sh : Int} (h : (moveS S top sh).1 = 0) : badM S top sh = false ∧ (moveS S top sh).2 = { S with ver := S.ver + 1, mv := setM top sh S.mv } := by
  unfold moveS at h ⊢
  cases hb : badM S top sh with
  | true => rw [hb, if_pos rfl] at h; cases h
  | false =>
    rw [hb, if_neg (by simp)] at h
    rw [if_neg (by simp)]
    by_cases h2 : lookM top S.mv = none ∧ 50 ≤ S.mv.length
    · rw [if_pos h2] at h; cases h
    · rw [if_neg h2]; exact ⟨rfl, rfl⟩
theorem look_cons (k : Bs) (e : Bs × Int) (l : List (Bs × Int)) : lookM k (e :: l) = if e.1 = k then some e.2 else lookM k l := by
  unfold lookM
  rw [List.find?_cons]
  by_cases h : e.1 = k
  · simp [h]
  · simp [h]
theorem look_appM (k : Bs) (l : List (Bs × Int)) (e : Bs × Int) : lookM k (l ++ [e]) = match lookM k l with | some v => some v | none => if e.1 = k then some e.2 else none := by
  induction l with
  | nil => rw [List.nil_append, look_cons]; rfl
  | cons x l ih =>
    rw [List.cons_append, look_cons, look_cons, ih]
    split <;> rfl
theorem look_mapM (k k' : Bs) (v : Int) (l : List (Bs × Int)) : lookM k' (l.map fun e => if e.1 = k then (e.1, v) else e) = if k' = k then (lookM k' l).map (fun _ => v) else lookM k' l := by
  induction l with
  | nil => simp [lookM]
  | cons e l ih =>
    rw [List.map_cons, look_cons, look_cons, ih]
    by_cases h1 : e.1 = k
    · rw [if_pos h1]
      by_cases h2 : k' = k
      · simp [h1, h2]
      · have h3 : ¬ k = k' := fun h => h2 h.symm
        simp [h1, h2, h3]
    · rw [if_neg h1]
      by_cases h2 : k' = k
      · have h3 : ¬ e.1 = k' := fun h => h1 (h.trans h2)
        simp [h1, h2]
      · simp [h2]
theorem look_set (k k' : Bs) (v : Int) (l : List (Bs × Int)) : lookM k' (setM k v l) = if k' = k then some v else lookM k' l := by
  unfold setM
  cases h : lookM k l with
  | some v0 =>
    dsimp only
    rw [look_mapM]
    by_cases h2 : k' = k
    · subst h2; rw [h]; rfl
    · rw [if_neg h2, if_neg h2]
  | none =>
    dsimp only
    rw [look_appM]
    by_cases h2 : k' = k
    · subst h2; rw [h]
    · have h3 : ¬ k = k' := fun h => h2 h.symm
      rw [if_neg h2]
      cases lookM k' l with
      | some _ => rfl
      | none => simp [h3]

/-! ### first names -/
theorem cut_head : ∀ (l : Bs), ∃ t, ∃ r, cutS l = t :: r ∧ ((r = [] ∧ l = t) ∨ ∃ q, l = t ++ 47 :: q ∧ r = cutS q) ∧ 47 ∉ t
  | [] => ⟨[], [], rfl, .inl ⟨rfl, rfl⟩, by simp⟩
  | c :: l => by
    obtain ⟨t, r, h1, h2, h3⟩ := cut_head l
    by_cases hc : c = 47
    · subst hc
      refine ⟨[], cutS l, by rw [cutS, if_pos rfl], .inr ⟨l, rfl, rfl⟩, by simp⟩
    · refine ⟨c :: t, r, by rw [cutS, if_neg hc, h1], ?_, by simp; exact ⟨fun h => hc h.symm, h3⟩⟩
      rcases h2 with ⟨h2, rfl⟩ | ⟨q, rfl, h2⟩
      · exact .inl ⟨h2, rfl⟩
      · exact .inr ⟨q, rfl, h2⟩
theorem cut_none : ∀ {l : Bs}, 47 ∉ l → cutS l = [l]
  | [], _ => rfl
  | c :: l, h => by
    simp only [List.mem_cons, not_or] at h
    rw [cutS, if_neg (fun e => h.1 e.symm), cut_none h.2]
theorem cut_slash : ∀ {t : Bs}, 47 ∉ t → ∀ q : Bs, cutS (t ++ 47 :: q) = t :: cutS q
  | [], _, q => by rw [List.nil_append, cutS, if_pos rfl]
  | c :: t, h, q => by
    simp only [List.mem_cons, not_or] at h
    rw [List.cons_append, cutS, if_neg (fun e => h.1 e.symm), cut_slash h.2]
/-- A path's first name. -/
theorem top_path {p : Bs} (h : topP p ≠ []) : goodP p = true ∧ ∃ q, p = 47 :: q ∧ (q = topP p ∨ ∃ r, q = topP p ++ 47 :: r) ∧ 47 ∉ topP p ∧ nameS (topP p) = true := by
  unfold topP partsP at h
  cases hg : goodP p with
  | false => rw [hg] at h; exact absurd rfl h
  | true =>
    refine ⟨rfl, ?_⟩
    cases p with
    | nil => cases hg
    | cons c q =>
      have hg' := hg
      unfold goodP at hg'
      simp only [Bool.and_eq_true, decide_eq_true_eq] at hg'
      obtain ⟨⟨⟨rfl, h2⟩, h3⟩, h4⟩ := hg'
      have ht : topP (47 :: q) = match cutS q with | [] => [] | x :: _ => x := by unfold topP partsP; rw [hg]; rfl
      obtain ⟨t, r, e1, e2, e3⟩ := cut_head q
      rw [e1] at ht
      dsimp only at ht
      rw [ht]
      refine ⟨q, rfl, ?_, e3, ?_⟩
      · rcases e2 with ⟨_, rfl⟩ | ⟨q', rfl, _⟩
        · exact .inl rfl
        · exact .inr ⟨q', rfl⟩
      · rw [e1, List.all_cons, Bool.and_eq_true] at h3
        exact h3.1
/-- One name behind the root; and another behind it. -/
theorem top_one {t : Bs} (h1 : nameS t = true) (h2 : 47 ∉ t) : topP (47 :: t) = t := by
  have hl : t.length ≤ 40 := by
    unfold nameS at h1
    simp only [Bool.and_eq_true, decide_eq_true_eq] at h1
    exact h1.1.1.2
  have hg : goodP (47 :: t) = true := by
    unfold goodP
    simp only [cut_none h2, List.all_cons, h1, List.all_nil, Bool.and_true, List.length_singleton, decide_true, Bool.true_and, Bool.and_eq_true, decide_eq_true_eq]
    omega
  unfold topP partsP
  rw [hg, if_pos rfl]
  show (match cutS t with | [] => [] | x :: _ => x) = t
  rw [cut_none h2]
theorem top_two {t x : Bs} (h1 : nameS t = true) (h2 : 47 ∉ t) (h3 : nameS x = true) (h4 : 47 ∉ x) : topP (47 :: (t ++ 47 :: x)) = t := by
  have hl : ∀ {t : Bs}, nameS t = true → t.length ≤ 40 := fun h1 => by
    unfold nameS at h1
    simp only [Bool.and_eq_true, decide_eq_true_eq] at h1
    exact h1.1.1.2
  have ht := hl h1
  have hx := hl h3
  have hc : cutS (t ++ 47 :: x) = [t, x] := by rw [cut_slash h2, cut_none h4]
  have hg : goodP (47 :: (t ++ 47 :: x)) = true := by
    unfold goodP
    simp only [hc, List.all_cons, h1, h3, List.all_nil, Bool.and_true, List.length_cons, List.length_append, List.length_nil, decide_true, Bool.true_and, Bool.and_eq_true, decide_eq_true_eq]
    omega
  unfold topP partsP
  rw [hg, if_pos rfl]
  show (match cutS (t ++ 47 :: x) with | [] => [] | x :: _ => x) = t
  rw [hc]
theorem badM_false {S : RtS} {top : Bs} {sh : Int} (h : badM S top sh = false) : topP (47 :: top) = top ∧ top ≠ [] ∧ 0 ≤ sh ∧ sh < S.n := by
  unfold badM at h
  simp only [Bool.or_eq_false_iff, Bool.not_eq_false', decide_eq_false_iff_not, beq_eq_false_iff_ne, beq_iff_eq] at h
  exact ⟨h.1.1.1, h.1.1.2, by omega, by omega⟩

/-- Whose a path is, behind a move. -/
theorem of_move {S : RtS} {top : Bs} {sh : Int} (h : badM S top sh = false) (ver : Int) (p : Bs) :
    ofS { S with ver := ver, mv := setM top sh S.mv } p = if topP p = top then sh else ofS S p := by
  obtain ⟨h1, h2, -, -⟩ := badM_false h
  unfold ofS
  by_cases h0 : topP p = []
  · rw [if_pos h0, if_pos h0, if_neg (by rw [h0]; exact fun e => h2 e.symm)]
  · rw [if_neg h0, if_neg h0]
    dsimp only
    rw [look_set]
    by_cases h3 : topP p = top
    · rw [if_pos h3, if_pos h3]
    · rw [if_neg h3, if_neg h3]
theorem moved_one {S : RtS} {top : Bs} {sh : Int} (h : badM S top sh = false) (ver : Int) : ofS { S with ver := ver, mv := setM top sh S.mv } (47 :: top) = sh ∧ ofS { S with ver := ver, mv := setM top sh S.mv } (47 :: (top ++ [47, 120])) = sh := by
  obtain ⟨h1, h2, -, -⟩ := badM_false h
  obtain ⟨-, q, hq, -, h4, h5⟩ := top_path (p := 47 :: top) (by rw [h1]; exact h2)
  rw [h1] at h4 h5
  rw [of_move h, of_move h, h1, top_two h5 h4 (by decide) (by decide)]
  exact ⟨if_pos rfl, if_pos rfl⟩
theorem moved_part {p top : Bs} (h0 : top ≠ []) (h : topP p = top) : top.length < p.length ∧ (p.drop 1).take top.length = top := by
  subst h
  obtain ⟨-, q, rfl, h1, -⟩ := top_path h0
  have : ∃ r, q = topP (47 :: q) ++ r := by
    rcases h1 with h1 | ⟨r, h1⟩
    · exact ⟨[], by rw [List.append_nil]; exact h1⟩
    · exact ⟨_, h1⟩
  obtain ⟨r, hr⟩ := this
  generalize topP (47 :: q) = t at hr
  subst hr
  constructor
  · simp; omega
  · simp
end Go.Proofs.YtfncdgnhiinmjaaDoor

/-
  A slice of Ops, opened.
-/
namespace Go.Av
open Go.RowKit
structure OpS where
  kind : Int
  path : ByteArray
  data : ByteArray
  ver : Int
  flags : Int
instance : Inhabited OpS := ⟨⟨0, ⟨#[]⟩, ⟨#[]⟩, 0, 0⟩⟩
/-- What the walk is told of a slice of Ops. -/
def IsOps (w : World) (a : Option Addr) (len cap : Nat) (l : List OpS) : Prop :=
  l.length = len ∧ len ≤ cap ∧ cap ≤ maxLen ∧ (a = none → cap = 0) ∧
    (∀ x, a = some x → ∀ i, (h : i < l.length) → w.cell? (x.add (i * 5)) = some (.int .i64 l[i].kind) ∧ w.cell? (x.add (i * 5 + 1)) = some (.string l[i].path) ∧ w.cell? (x.add (i * 5 + 2)) = some (.string l[i].data) ∧
      w.cell? (x.add (i * 5 + 3)) = some (.int .i64 l[i].ver) ∧ w.cell? (x.add (i * 5 + 4)) = some (.int .i64 l[i].flags)) ∧ ∀ c ∈ l, c.path.size ≤ maxLen ∧ c.data.size ≤ maxLen
theorem IsOps.below {w w' : World} {a : Option Addr} {len cap : Nat} {l : List OpS} (h : IsOps w a len cap l) (hb : Below w.heap.size w w') : IsOps w' a len cap l := by
  obtain ⟨h1, h2, h3, h4, h5, h6⟩ := h
  have up : ∀ {x : Addr} {v : Value}, w.cell? x = some v → w'.cell? x = some v := fun hv => (hb.cell (World.block_lt_of_cell? w _ hv)).trans hv
  refine ⟨h1, h2, h3, h4, fun x hx i hi => ?_, h6⟩
  obtain ⟨g0, g1, g2, g3, g4⟩ := h5 x hx i hi
  exact ⟨up g0, up g1, up g2, up g3, up g4⟩
/-- One of them, its cells where the walk looks for them. -/
theorem IsOps.at {w : World} {a : Option Addr} {len cap : Nat} {l : List OpS} (h : IsOps w a len cap l) {i : Nat} (hi : i < l.length) : ∃ x, a = some x ∧ w.cell? (x.add (i * 5)) = some (.int .i64 l[i].kind) ∧
    w.cell? ⟨(x.add (i * 5)).block, (x.add (i * 5)).off + 1, none⟩ = some (.string l[i].path) ∧ w.cell? ⟨(x.add (i * 5)).block, (x.add (i * 5)).off + 2, none⟩ = some (.string l[i].data) ∧
    w.cell? ⟨(x.add (i * 5)).block, (x.add (i * 5)).off + 3, none⟩ = some (.int .i64 l[i].ver) ∧ w.cell? ⟨(x.add (i * 5)).block, (x.add (i * 5)).off + 4, none⟩ = some (.int .i64 l[i].flags) ∧ l[i].path.size ≤ maxLen ∧ l[i].data.size ≤ maxLen := by
  obtain ⟨h1, h2, h3, h4, h5, h6⟩ := h
  cases a with
  | none => have := h4 rfl; omega
  | some x =>
    obtain ⟨g0, g1, g2, g3, g4⟩ := h5 x rfl i hi
    rw [add_field g0 1] at g1
    rw [add_field g0 2] at g2
    rw [add_field g0 3] at g3
    rw [add_field g0 4] at g4
    exact ⟨x, rfl, g0, g1, g2, g3, g4, h6 _ (List.getElem_mem hi)⟩
end Go.Av
namespace Go.Proofs.YtfncdgnhiinmjaaDoor
open Go.RowKit Go.Av Go.ChangeShapes Go.WideShapes
theorem opCells : Tryd.prog.cellsOf 43 = 5 ∧ Tryd.prog.cellsOf 3 = 1 ∧ Tryd.prog.cellsOf 9 = 1 := by
  refine ⟨?_, ?_, ?_⟩ <;> kernel_rfl
set_option maxRecDepth 100000 in
theorem ops_of {H : Type} {enc : TypeId × Value → H} {w : World} {base : Nat} {held : Bool} {fuel : Nat} {a : Option Addr} {len cap : Nat} {x : DataW H × List MemPlace}
    (h : DataW.trod enc Tryd.prog w base (fun _ => true) held fuel 34 [.slice a len cap] = some x) : ∃ l, IsOps w a len cap l := by
  obtain ⟨c1, c2, c3⟩ := opCells
  rcases Deep.open_slice Tryd.underlying34 h with ⟨hcs, _⟩ | ⟨x, l, c, m, n, D, Pl, hcs, hb, hl, hm, hmm, hx, hi⟩
  · cases hcs
    exact ⟨[], rfl, Nat.le_refl _, by decide, fun _ => rfl, by simp, by simp⟩
  · cases hcs
    rw [c1] at hi
    have each : ∀ i, i < len → ∃ q : OpS, (w.cell? (x.add (i * 5)) = some (.int .i64 q.kind) ∧ w.cell? (x.add (i * 5 + 1)) = some (.string q.path) ∧ w.cell? (x.add (i * 5 + 2)) = some (.string q.data) ∧
        w.cell? (x.add (i * 5 + 3)) = some (.int .i64 q.ver) ∧ w.cell? (x.add (i * 5 + 4)) = some (.int .i64 q.flags)) ∧ q.path.size ≤ maxLen ∧ q.data.size ≤ maxLen := by
      intro i hil
      obtain ⟨cs', hc, ht⟩ := hi i (by rw [hmm]; split <;> omega)
      obtain ⟨_, hcl, hat⟩ := World.cells?_some hc
      obtain ⟨ys, n', -, -, -, hyl, hf⟩ := DataW.trod_struct Tryd.underlying43 ht
      match cs', hcl with
      | [k0, k1, k2, k3, k4], _ =>
        have f0 : DataW.trod enc Tryd.prog w base (fun _ => true) held n' 3 (List.take (Tryd.prog.cellsOf 3) (List.drop 0 [k0, k1, k2, k3, k4])) = ys[0]? := hf 0 _ rfl
        have f1 : DataW.trod enc Tryd.prog w base (fun _ => true) held n' 9 (List.take (Tryd.prog.cellsOf 9) (List.drop 1 [k0, k1, k2, k3, k4])) = ys[1]? := hf 1 _ rfl
        have f2 : DataW.trod enc Tryd.prog w base (fun _ => true) held n' 9 (List.take (Tryd.prog.cellsOf 9) (List.drop 2 [k0, k1, k2, k3, k4])) = ys[2]? := hf 2 _ rfl
        have f3 : DataW.trod enc Tryd.prog w base (fun _ => true) held n' 3 (List.take (Tryd.prog.cellsOf 3) (List.drop 3 [k0, k1, k2, k3, k4])) = ys[3]? := hf 3 _ rfl
        have f4 : DataW.trod enc Tryd.prog w base (fun _ => true) held n' 3 (List.take (Tryd.prog.cellsOf 3) (List.drop 4 [k0, k1, k2, k3, k4])) = ys[4]? := hf 4 _ rfl
        rw [c2] at f0 f3 f4
        rw [c3] at f1 f2
        have hy : ∀ j, j < 5 → ∃ y, ys[j]? = some y := fun j hj => ⟨ys[j]'(by rw [hyl]; exact hj), List.getElem?_eq_getElem _⟩
        obtain ⟨y0, e0⟩ := hy 0 (by omega)
        obtain ⟨y1, e1⟩ := hy 1 (by omega)
        obtain ⟨y2, e2⟩ := hy 2 (by omega)
        obtain ⟨y3, e3⟩ := hy 3 (by omega)
        obtain ⟨y4, e4⟩ := hy 4 (by omega)
        obtain ⟨n0, g0, -, -⟩ := DataW.trod_int Tryd.underlying3 (f0.trans e0)
        obtain ⟨n1, g1, -, w1⟩ := DataW.trod_string Tryd.underlying9 (f1.trans e1)
        obtain ⟨n2, g2, -, w2⟩ := DataW.trod_string Tryd.underlying9 (f2.trans e2)
        obtain ⟨n3, g3, -, -⟩ := DataW.trod_int Tryd.underlying3 (f3.trans e3)
        obtain ⟨n4, g4, -, -⟩ := DataW.trod_int Tryd.underlying3 (f4.trans e4)
        simp at g0 g1 g2 g3 g4
        subst g0 g1 g2 g3 g4
        refine ⟨⟨n0, n1, n2, n3, n4⟩, ⟨?_, ?_, ?_, ?_, ?_⟩, w1, w2⟩
        · have := hat 0 (by omega); rw [add_twice] at this; exact this
        · have := hat 1 (by omega); rw [add_twice] at this; exact this
        · have := hat 2 (by omega); rw [add_twice] at this; exact this
        · have := hat 3 (by omega); rw [add_twice] at this; exact this
        · have := hat 4 (by omega); rw [add_twice] at this; exact this
    obtain ⟨y, hy⟩ := Deep.choose_lt each
    refine ⟨(List.range len).map y, by simp, hl, hm, by simp, ?_, ?_⟩
    · intro x' hx' i hi'
      cases hx'
      simp at hi'
      simpa using (hy i hi').1
    · intro q hq
      obtain ⟨i, hi', rfl⟩ := List.mem_map.1 hq
      exact (hy i (List.mem_range.1 hi')).2
end Go.Proofs.YtfncdgnhiinmjaaDoor

/-
  Routes: the walk of Split.
-/
namespace Go.Av
open Go.RowKit
def ivv (n : Int) : Value := .int .i64 n
/-- Rows of numbers, each beside the others. -/
def zipT (vs : List Value) (ls : List (List Int)) : List Thing := (vs.zip ls).map fun p => ThRow 1 p.1 (p.2.map ivv)
theorem zip_focus : ∀ {vs : List Value} {ls : List (List Int)} {s : Nat}, vs.length = ls.length → s < vs.length → ∃ v l A B, vs[s]? = some v ∧ ls[s]? = some l ∧ zipT vs ls = A ++ ThRow 1 v (l.map ivv) :: B ∧
    ∀ v' l', zipT (vs.set s v') (ls.set s l') = A ++ ThRow 1 v' (l'.map ivv) :: B
  | [], _, s, _, hs => by simp at hs
  | v :: vs, [], s, h, _ => by simp at h
  | v :: vs, l :: ls, 0, _, _ => ⟨v, l, [], zipT vs ls, rfl, rfl, rfl, fun _ _ => rfl⟩
  | v :: vs, l :: ls, s + 1, h, hs => by
    obtain ⟨v1, l1, A, B, h1, h2, h3, h4⟩ := zip_focus (vs := vs) (ls := ls) (s := s) (by simpa using h) (by simpa using hs)
    refine ⟨v1, l1, ThRow 1 v (l.map ivv) :: A, B, by simpa using h1, by simpa using h2, ?_, fun v' l' => ?_⟩
    · show ThRow 1 v (l.map ivv) :: zipT vs ls = _
      rw [h3]; rfl
    · show ThRow 1 v (l.map ivv) :: zipT (vs.set s v') (ls.set s l') = _
      rw [h4]; rfl
theorem Sep.nils {w0 w : World} {R : List Thing} {rows : List (Value × Bs)} (h : Sep w0 w R rows) : ∀ n : Nat, Sep w0 w (zipT (List.replicate n (.slice none 0 0)) (List.replicate n []) ++ R) rows
  | 0 => h
  | n + 1 => (Sep.nils h n).nilRow 1
end Go.Av
namespace Go.Proofs.YtfncdgnhiinmjaaDoor
open Go.RowKit Go.Av

/-- A table in which each name that was moved is a shard's. -/
def RtOK (S : RtS) : Prop := 1 ≤ S.n ∧ S.n ≤ 4 ∧ ∀ e ∈ S.mv, 0 ≤ e.2 ∧ e.2 < S.n
theorem of_bd {S : RtS} (h : RtOK S) (p : Bs) : -1 ≤ ofS S p ∧ ofS S p < S.n := by
  obtain ⟨h1, h2, h3⟩ := h
  unfold ofS
  split
  · omega
  · split
    · rename_i s hs
      obtain ⟨l1, l2, he, -⟩ := lookM_some hs
      have := h3 (topP p, s) (by rw [he]; simp)
      simp only at this
      omega
    · have := Int.emod_nonneg (sumB (topP p) : Int) (show S.n ≠ 0 by omega)
      have := Int.emod_lt_of_pos (sumB (topP p) : Int) (show 0 < S.n by omega)
      omega
theorem set_mem {k : Bs} {v : Int} {l : List (Bs × Int)} {e : Bs × Int} (h : e ∈ setM k v l) : e ∈ l ∨ e = (k, v) := by
  unfold setM at h
  split at h
  · obtain ⟨e0, he, rfl⟩ := List.mem_map.1 h
    split
    · rename_i hk; exact .inr (by rw [hk])
    · exact .inl he
  · simpa using h
theorem move_okS {S : RtS} (h : RtOK S) (top : Bs) (sh : Int) : RtOK (moveS S top sh).2 := by
  by_cases hz : (moveS S top sh).1 = 0
  · obtain ⟨hb, hS⟩ := move_ok hz
    obtain ⟨-, -, h1, h2⟩ := badM_false hb
    rw [hS]
    refine ⟨h.1, h.2.1, fun e he => ?_⟩
    rcases set_mem he with he | rfl
    · exact h.2.2 e he
    · exact ⟨h1, h2⟩
  · rw [move_no hz]; exact h

/-- Whose are the first p Ops? -/
def rowS (S : RtS) (ps : List Bs) (p s : Nat) : List Int := ((List.range p).filter fun i => decide (ofS S (ps.getD i []) = (s : Int))).map Int.ofNat
def gridS (S : RtS) (ps : List Bs) (p : Nat) : List (List Int) := (List.range S.n.toNat).map (rowS S ps p)
theorem row_step (S : RtS) (ps : List Bs) (p s : Nat) : rowS S ps (p + 1) s = if ofS S (ps.getD p []) = (s : Int) then rowS S ps p s ++ [(p : Int)] else rowS S ps p s := by
  unfold rowS
  rw [List.range_succ, List.filter_append, List.filter_cons, List.filter_nil, List.map_append]
  by_cases h : ofS S (ps.getD p []) = (s : Int)
  · rw [if_pos h, if_pos (by simpa using h)]; rfl
  · rw [if_neg h, if_neg (by simpa using h)]; simp
theorem grid_len (S : RtS) (ps : List Bs) (p : Nat) : (gridS S ps p).length = S.n.toNat := by unfold gridS; simp
theorem grid_get {S : RtS} {ps : List Bs} {p s : Nat} (h : s < S.n.toNat) : (gridS S ps p)[s]? = some (rowS S ps p s) := by
  unfold gridS
  rw [List.getElem?_map, List.getElem?_range h]; rfl
theorem grid_none {S : RtS} {ps : List Bs} {p : Nat} (h : ofS S (ps.getD p []) < 0) : gridS S ps (p + 1) = gridS S ps p := by
  unfold gridS
  refine List.map_congr_left fun s _ => ?_
  rw [row_step, if_neg (by omega)]
theorem grid_set {S : RtS} {ps : List Bs} {p s : Nat} (h : ofS S (ps.getD p []) = (s : Int)) (hs : s < S.n.toNat) : gridS S ps (p + 1) = (gridS S ps p).set s (rowS S ps p s ++ [(p : Int)]) := by
  apply List.ext_getElem?
  intro j
  rw [List.getElem?_set, grid_len]
  by_cases hj : s = j
  · subst hj
    rw [if_pos rfl, if_pos hs, grid_get hs, row_step, if_pos h]
  · rw [if_neg hj]
    by_cases hjl : j < S.n.toNat
    · rw [grid_get hjl, grid_get hjl, row_step, if_neg (by omega)]
    · rw [List.getElem?_eq_none (by rw [grid_len]; omega), List.getElem?_eq_none (by rw [grid_len]; omega)]
theorem row_len (S : RtS) (ps : List Bs) (p s : Nat) : (rowS S ps p s).length ≤ p := by
  unfold rowS
  rw [List.length_map]
  have := List.length_filter_le (fun i => decide (ofS S (ps.getD i []) = (s : Int))) (List.range p)
  rw [List.length_range] at this
  exact this
theorem grid_zero (S : RtS) (ps : List Bs) : gridS S ps 0 = List.replicate S.n.toNat [] := by
  unfold gridS rowS
  simp [List.map_const']

theorem infoII : (Tryd.prog.info? 41).map (fun i => (i.zero, i.size, i.bytes)) = some (some (.slice none 0 0), 1, 24) := by kernel_rfl
theorem infoI' : (Tryd.prog.info? 3).map (fun i => (i.zero, i.size, i.bytes)) = some (some (.int .i64 0), 1, 8) := by kernel_rfl
theorem nilRows (w : World) (z : Nat) (hz : z ≤ 30000) : OwnRow (w.alloc (.cells (madeCells #[.slice none 0 0] z) 41)) 1 (.slice (some ⟨w.heap.size, 0, none⟩) z z) (List.replicate z (.slice none 0 0)) [w.heap.size] :=
  OwnRow.made w 41 1 z z (madeCells #[.slice none 0 0] z) _ (by simp) (Nat.le_refl _) (by unfold maxLen; omega) (by rw [size_madeCells]; omega) (by
    rw [toList_madeCells_one, Nat.mul_one, List.take_of_length_le (by simp)])

/-- A grid beside a table. -/
def RtG (w0 w : World) (t : Nat) (S : RtS) (v : Value) (ls : List (List Int)) (R : List Thing) (rows : List (Value × Bs)) : Prop :=
  ∃ vs, vs.length = ls.length ∧ Rt w0 w t S (ThRow 1 v vs :: (zipT vs ls ++ R)) rows
section
variable {w0 w : World} {t : Nat} {S : RtS} {R : List Thing} {rows : List (Value × Bs)}
/-- One row of the grid, taken up; and laid back with another. -/
theorem RtG.take {v : Value} {ls : List (List Int)} (h : RtG w0 w t S v ls R rows) {s : Nat} {l : List Int} (hs : ls[s]? = some l) : ∃ (vi : Value) (D : List Nat), w.cell? ⟨t, 0, none⟩ = some (.int .i64 S.n) ∧
    (∃ a n c, v = .slice (some a) n c ∧ n = ls.length ∧ a.spot = none ∧ w.cell? (a.add s) = some vi) ∧ OwnRow w 1 vi (l.map ivv) D ∧
    ∀ (w' : World) D' vi' l', OwnRow w' 1 vi' (l'.map ivv) D' → Upd w w' D D' → ∀ a n c, v = .slice (some a) n c → w'.frozen? (a.add s) = false ∧ (∃ u, w'.cell? (a.add s) = some u) ∧ RtG w0 (w'.setCell (a.add s) vi') t S v (ls.set s l') R rows := by
  obtain ⟨vs, hlen, m, hS⟩ := h
  have hsl : s < vs.length := by rw [hlen]; exact (List.getElem?_eq_some_iff.1 hs).1
  obtain ⟨vi, l0, A, B, h1, h2, h3, h4⟩ := zip_focus hlen hsl
  have e := hs.symm.trans h2
  injection e with e
  subst e
  have hb := hS.block (b := t) (o := .cells #[.int .i64 S.n, .int .i64 S.ver, .map (some m)] 63 (0, 0)) (by simp [rtTh])
  have hp : ∀ (vs' : List Value) (vi' : Value) (l' : List Int), (ThRow 1 vi' (l'.map ivv) :: ThRow 1 v vs' :: (A ++ B ++ (rtTh t m S ++ R))).Perm (rtTh t m S ++ ThRow 1 v vs' :: ((A ++ ThRow 1 vi' (l'.map ivv) :: B) ++ R)) := fun vs' vi' l' => by
    refine List.Perm.symm ?_
    refine (List.perm_append_comm (l₁ := rtTh t m S)).trans ?_
    rw [List.cons_append]
    refine List.Perm.trans ?_ (List.Perm.swap _ _ _)
    refine List.Perm.cons _ ?_
    rw [List.append_assoc, List.append_assoc, List.cons_append]
    refine List.perm_middle.trans (List.Perm.cons _ ?_)
    rw [List.append_assoc]
    exact List.Perm.append_left _ (List.Perm.append_left _ List.perm_append_comm)
  rw [h3] at hS
  have hS1 := hS.perm (hp vs vi l).symm
  obtain ⟨D, ho, -, back⟩ := hS1.use
  obtain ⟨a, n, c, rfl, hl, hn, hc⟩ := hS1.swap.rowLen
  rw [Nat.mul_one] at hl
  obtain ⟨y, rfl, hys, hcy⟩ := hS1.swap.rowCell (i := s) (x := vi) h1
  refine ⟨vi, D, cell_of hb 0 rfl, ⟨y, n, c, rfl, by omega, hys, hcy⟩, ho, fun w' D' vi' l' ho' hu a' n' c' hv => ?_⟩
  cases hv
  have hS2 := (back w' D' (ThRow 1 vi' (l'.map ivv)) hu ho').swap
  obtain ⟨f1, -, f3, f4⟩ := hS2.rowSet (i := s) (by omega) vi'
  refine ⟨f1, f3, vs.set s vi', by simp [hlen], m, ?_⟩
  rw [h4]
  exact (f4.swap).perm (hp (vs.set s vi') vi' l')

theorem RtG.table {v : Value} {ls : List (List Int)} (h : RtG w0 w t S v ls R rows) : ∃ R', Rt w0 w t S R' rows ∧ ∀ w', Rt w0 w' t S R' rows → RtG w0 w' t S v ls R rows := by
  obtain ⟨vs, h1, h2⟩ := h
  exact ⟨_, h2, fun w' h' => ⟨vs, h1, h'⟩⟩
theorem RtG.keep {v : Value} {ls : List (List Int)} (h : RtG w0 w t S v ls R rows) {w' : World} {D' : List Nat} (hu : Upd w w' [] D') : RtG w0 w' t S v ls R rows := by
  obtain ⟨vs, h1, h2⟩ := h
  exact ⟨vs, h1, h2.keep hu⟩
theorem RtG.below {v : Value} {ls : List (List Int)} (h : RtG w0 w t S v ls R rows) : Below w0.heap.size w0 w := by
  obtain ⟨vs, h1, h2⟩ := h
  exact h2.below

set_option maxRecDepth 100000 in
set_option maxHeartbeats 4000000 in
theorem split_gen (h : Rt w0 w t S R rows) (hd : Door w0) (hok : RtOK S) (a : Option Addr) (len cap : Nat) (ops : List OpS) (hop0 : IsOps w a len cap ops) (hops : ∀ (w' : World) v ls, RtG w0 w' t S v ls R rows → IsOps w' a len cap ops) (hl : ops.length ≤ 1000) :
    Calls Tryd.prog 17 #[.pointer (some ⟨t, 0, none⟩), .slice a len cap] w fun e w' => ∃ v, e = .returned v ∧ RtG w0 w' t S v (gridS S (ops.map fun o => o.path.data.toList) ops.length) R rows := by
  obtain ⟨i0, hi0, hz0, hz1, hz2⟩ := info_parts infoI'
  obtain ⟨N, hN⟩ : ∃ N : Nat, S.n = N := ⟨S.n.toNat, by have := hok.1; omega⟩
  have hN1 : 1 ≤ N := by have := hok.1; omega
  have hN4 : N ≤ 4 := by have := hok.2.1; omega
  obtain ⟨m, hb, -⟩ := h.facts
  have c0 := cell_of hb 0 rfl
  rw [show (#[Value.int .i64 S.n, .int .i64 S.ver, .map (some m)] : Array Value)[0] = .int .i64 (N : Int) by rw [← hN]; rfl] at c0
  have hmk := fun W => run_make_row' (P := Tryd.prog) 39 41 (.slice none 0 0) 24 Tryd.underlying39 infoII rfl .i64 .i64 N (by omega) (by omega) W
  have hla : ops.length = len := hop0.1
  subst hla
  obtain ⟨ps, hps⟩ : ∃ ps, ps = ops.map fun o => o.path.data.toList := ⟨_, rfl⟩
  rw [← hps]
  have hG : RtG w0 (w.alloc (.cells (madeCells #[.slice none 0 0] N) 41)) t S (.slice (some ⟨w.heap.size, 0, none⟩) N N) (gridS S ps 0) R rows := by
    obtain ⟨m', hS⟩ := h
    refine ⟨List.replicate N (.slice none 0 0), by rw [grid_len, hN]; simp, m', ?_⟩
    have h1 := (hS.addRow (nilRows w N (by omega)) (Upd.alloc1 w _ [])).nils N
    rw [grid_zero, hN, Int.toNat_natCast]
    refine h1.perm ?_
    exact (List.perm_append_comm_assoc (zipT (List.replicate N (.slice none 0 0)) (List.replicate N [])) (ThRow 1 (.slice (some ⟨w.heap.size, 0, none⟩) N N) (List.replicate N (.slice none 0 0)) :: rtTh t m' S) R).trans (List.perm_middle (l₁ := rtTh t m' S)).symm
  have HG := Lib.hid hG
  have HD := Lib.hid hd
  have HOK := Lib.hid hok
  have HOP := Lib.hid hops
  have hcap : ops.length ≤ cap := hop0.2.1
  have hcm := hop0.2.2.1
  unfold maxLen at hcm
  have HN := Lib.hid hN
  have hpl : ps.length = ops.length := by rw [hps, List.length_map]
  have HPS := Lib.hid (show _ ∧ _ from ⟨hps, hpl⟩)
  clear h hb hG hd hok hops hop0 hN hps hpl
  go_enter Tryd.func17, Tryd.ntmps17
  go_wp2_with fail
  go_loopg [16] ops.length (fun k vi wr => ∃ p : Nat, p ≤ ops.length ∧ k = ops.length - p ∧ vi = .int .i64 (p : Int) ∧ RtG w0 wr t S (.slice (some ⟨w.heap.size, 0, none⟩) N N) (gridS S ps p) R rows)
  case atStart => exact ⟨0, Nat.zero_le _, rfl, rfl, HG.out⟩
  case round =>
    obtain ⟨p, hp, hk, hvi, H⟩ := hrel
    subst hvi
    clear HG
    by_cases hlt : p < ops.length
    case neg =>
      obtain rfl : p = ops.length := by omega
      have HO := Lib.hid H
      clear H
      go_wp2_with fail
      go_ret
      exact ⟨_, rfl, HO.out⟩
    obtain ⟨x, rfl, g0, g1, g2, g3, g4, hsz, -⟩ := (HOP.out _ _ _ H).at hlt
    have hget : ps.getD p [] = ops[p].path.data.toList := by
      rw [HPS.out.1, List.getD_eq_getElem?_getD, List.getElem?_map, List.getElem?_eq_getElem hlt]; rfl
    obtain ⟨o, ho⟩ : ∃ o, ops[p] = o := ⟨_, rfl⟩
    rw [ho] at g0 g1 g2 g3 g4 hsz hget
    have h1 := H.keep (Upd.alloc0 wr (.cells #[.int .i64 o.kind, .string o.path, .string o.data, .int .i64 o.ver, .int .i64 o.flags] 43) [])
    obtain ⟨R1, ht, bk⟩ := h1.table
    have hOf := of_any ht HD.out o.path hsz HOK.out.1 HOK.out.2.1
    rw [← hget] at hOf
    have hbd := of_bd HOK.out (ps.getD p [])
    obtain ⟨z, hz⟩ : ∃ z, ofS S (ps.getD p []) = z := ⟨_, rfl⟩
    rw [hz] at hOf hbd
    have HOF := Lib.hid hOf
    have HBK := Lib.hid bk
    have HZ := Lib.hid hz
    have hbd1 : z < N := by have := HN.out; omega
    clear H h1 ht bk hOf hz hget ho
    go_wp2_with fail
    refine HOF.out.mono ?_
    rintro e w2 ⟨rfl, h2⟩
    have H2 := HBK.out _ h2
    clear HOF HBK h2
    by_cases hneg : z < 0
    · have HX := Lib.hid H2
      have hb0 : ¬ 0 ≤ z := by omega
      clear H2
      go_wp2_with fail
      go_roundg (ops.length - (p + 1))
      case rel => exact ⟨p + 1, by omega, rfl, by go_num, by rw [grid_none (by rw [HZ.out]; exact hneg)]; exact HX.out⟩
      case measure => omega
    obtain ⟨s, rfl⟩ : ∃ s : Nat, z = s := ⟨z.toNat, by omega⟩
    have hsN : s < N := by omega
    have hsN' : s < S.n.toNat := by rw [HN.out]; simpa using hsN
    obtain ⟨vi, D, -, ⟨y, n, c, hv, hn, hys, hcy⟩, hown, back⟩ := H2.take (grid_get hsN')
    cases hv
    have hrl := row_len S ps p s
    obtain ⟨al, nl, cl, rfl, hll⟩ := hown.len
    have ha1 := Upd.alloc0 w2 (.cells #[.int .i64 (p : Int)] 3 (0, 0)) []
    have hcy2 := upd_cell ha1 hcy
    have hownA : OwnRow _ 1 _ _ D := OwnRow.frame hown (ha1.same (OwnRow.lt hown) (by simp))
    obtain ⟨nb, hnb, hsrc⟩ := (cell_new w2 (.int .i64 (p : Int)) 3 (0, 0)).src (P := Tryd.prog) (tx := 41) Tryd.underlying41 (by intro u hu; rw [List.mem_singleton.1 hu]; rfl)
    obtain rfl : 1 = nb := by simpa using hnb
    have HBD := Lib.hid (show ∀ n', ((rowS S ps p s).map ivv).length = n' * 1 → n' + 1 ≤ 140737488355328 ∧ (n' + 1) * i0.bytes ≤ 140737488355328 from fun n' hn' => by
      rw [List.length_map] at hn'
      rw [hz2]; omega)
    have HB2 := Lib.hid back
    rw [Addr.add_lit, Nat.zero_add] at hcy
    have hb0 : 0 ≤ (s : Int) := by omega
    have hs1 : (s : Int) < N := by omega
    clear hown back H2 hnb hll hn hcy2 hrl
    go_wp2_with (at_builtin; go_must (refine wpList_app rfl _ _ 41 41 rfl 1 _ _ _ rfl hownA _ i0 _ Tryd.underlying41 hi0 hz0 hz1 rfl _ _ _ rfl hsrc HBD.out ?_); intro a7 n7 c7 w7 D7 hown7 hu7; obtain ⟨f7, u7, HN7⟩ := HB2.out w7 D7 _ (rowS S ps p s ++ [(p : Int)]) (by rw [List.map_append]; exact hown7) ((ha1.mono (by simp) (fun b hb => .inr hb) : Upd w2 _ D D).trans hu7) _ _ _ rfl; rw [Addr.add_lit, Nat.zero_add] at f7 u7 HN7; obtain ⟨u7, hu7c⟩ := u7; have HX := Lib.hid HN7; clear HN7 hown7 hu7)
    go_roundg (ops.length - (p + 1))
    case rel => exact ⟨p + 1, by omega, rfl, by go_num, by rw [grid_set HZ.out hsN']; exact HX.out⟩
    case measure => omega
theorem split_walk (h : Rt w0 w t S R rows) (hd : Door w0) (hok : RtOK S) (a : Option Addr) (len cap : Nat) (ops : List OpS) (hops : IsOps w0 a len cap ops) (hl : ops.length ≤ 1000) :
    Calls Tryd.prog 17 #[.pointer (some ⟨t, 0, none⟩), .slice a len cap] w fun e w' => ∃ v, e = .returned v ∧ RtG w0 w' t S v (gridS S (ops.map fun o => o.path.data.toList) ops.length) R rows :=
  split_gen h hd hok a len cap ops (hops.below h.below) (fun _ _ _ H => hops.below H.below) hl
end
end Go.Proofs.YtfncdgnhiinmjaaDoor

/-
  Numbers and texts in bytes, in plain words.
-/
namespace Go.Av
open Go.RowKit

def be8 (n : Nat) : Bs := [UInt8.ofNat (n / 72057594037927936), UInt8.ofNat (n / 281474976710656), UInt8.ofNat (n / 1099511627776), UInt8.ofNat (n / 4294967296), UInt8.ofNat (n / 16777216), UInt8.ofNat (n / 65536), UInt8.ofNat (n / 256), UInt8.ofNat n]
/-- A number's eight bytes. -/
def packI (v : Int) : Bs := be8 (v % 18446744073709551616).toNat
def rdStep (v : Nat) (x : UInt8) : Nat := v * 256 % 18446744073709551616 + x.toNat
def rdFold (l : Bs) : Nat := l.foldl rdStep 0
/-- The number that eight bytes are. -/
def rdI (l : Bs) : Int := IntKind.i64.wrap (rdFold (l.take 8) : Int)

theorem be8_length (n : Nat) : (be8 n).length = 8 := rfl
theorem packI_length (v : Int) : (packI v).length = 8 := rfl
theorem rdFold_be8 (n : Nat) (h : n < 18446744073709551616) : rdFold (be8 n) = n := by
  simp only [rdFold, be8, List.foldl_cons, List.foldl_nil, rdStep, UInt8.toNat_ofNat']
  omega
theorem rdI_pack (v : Int) (x : Bs) (h1 : -9223372036854775808 ≤ v) (h2 : v ≤ 9223372036854775807) : rdI (packI v ++ x) = v := by
  have ht : (packI v ++ x).take 8 = packI v := by rw [List.take_append_of_le_length (by rw [packI_length]; omega), List.take_of_length_le (by rw [packI_length]; omega)]
  unfold rdI
  rw [ht]
  unfold packI
  rw [rdFold_be8 _ (by omega), IntKind.wrap_i64]
  omega
theorem rdStep_lt {v : Nat} (x : UInt8) : rdStep v x < 18446744073709551616 := by
  have := x.toNat_lt
  unfold rdStep
  omega
end Go.Av

/-
  The walks of numbers in bytes.
-/
namespace Go.Proofs.YtfncdgnhiinmjaaDoor
open Go.RowKit Go.Av

def byteAt (n j : Nat) : Nat := n / 2 ^ (8 * j) % 256
theorem packI_step (v : Int) (j : Nat) (hj : j < 8) : (packI v).take (7 - j + 1) = (packI v).take (7 - j) ++ [UInt8.ofNat ((v % 18446744073709551616).toNat / 2 ^ (8 * j))] := by
  unfold packI be8
  match j, hj with
  | 0, _ => simp
  | 1, _ => simp
  | 2, _ => simp
  | 3, _ => simp
  | 4, _ => simp
  | 5, _ => simp
  | 6, _ => simp
  | 7, _ => simp
  | n + 8, h => omega

set_option maxRecDepth 100000 in
set_option maxHeartbeats 1000000 in
theorem pack_any (b : Value) (l : Bs) (E : List Nat) (v : Int) (w : World) (h : ReadRow w 1 b (l.map bv) E) (hl : l.length ≤ 1073741824) :
    Calls Tryd.prog 38 #[b, .int .i64 v] w (AppPost w [] (l ++ packI v)) := by
  obtain ⟨i0, hi0, hz0, hz1, hz2⟩ := info_parts info5
  obtain ⟨nn, hnn⟩ : ∃ nn : Nat, nn = (v % 18446744073709551616).toNat := ⟨_, rfl⟩
  have e64 : IntKind.u64.wrap v = (nn : Int) := by rw [hnn, IntKind.wrap_u64]; omega
  have HN := Lib.hid hnn
  clear hnn
  have h0 := h.frame ((Upd.alloc0 w (.cells #[] 5 (0, 0)) []).same h.lt (by simp))
  obtain ⟨nb, hnb, hsrc⟩ := h0.src (P := Tryd.prog) (tx := 47) Tryd.underlying47 bv_one
  rw [List.length_map, Nat.mul_one] at hnb
  subst hnb
  have HBD := Lib.hid (show ∀ n', ([] : List Value).length = n' * 1 → n' + l.length ≤ 140737488355328 ∧ (n' + l.length) * i0.bytes ≤ 140737488355328 from fun n' hn' => by simp at hn'; rw [hz2]; omega)
  clear h0
  go_enter Tryd.func38, Tryd.ntmps38
  go_wp2_with (at_builtin; go_must (refine wpList_app rfl _ _ 47 47 rfl 1 _ [] [] rfl (OwnRow.zero _ _ _) _ i0 _ Tryd.underlying47 hi0 hz0 hz1 rfl _ _ _ rfl hsrc HBD.out ?_); intro a3 n3 c3' w3 D3 hown3 hu3)
  have hu0 : Upd w w3 [] D3 := (Upd.alloc0 w (.cells #[] 5 (0, 0)) []).trans hu3
  have hst : ∃ (m : Nat) (D : List Nat), m ≤ 8 ∧ (8 : Nat) = m ∧ (Value.int .i64 7) = .int .i64 ((m : Int) - 1) ∧ OwnRow w3 1 (.slice a3 n3 c3') ((l ++ (packI v).take (8 - m)).map bv) D ∧ Upd w w3 [] D :=
    ⟨8, D3, by omega, rfl, rfl, by simpa using hown3, hu0⟩
  clear hown3 hu3 hu0 hsrc
  go_loopg [5, 6] 8 (fun k o i wr => ∃ (m : Nat) (D : List Nat), m ≤ 8 ∧ k = m ∧ i = .int .i64 ((m : Int) - 1) ∧ OwnRow wr 1 o ((l ++ (packI v).take (8 - m)).map bv) D ∧ Upd w wr [] D)
  case atStart => exact hst
  case round =>
    obtain ⟨m, D, hm, hk, rfl, hown, hu⟩ := hrel
    cases m with
    | zero =>
      have HO := Lib.hid hown
      have HU := Lib.hid hu
      clear hown hu
      go_wp2_with fail
      go_ret
      exact ⟨_, D, rfl, by have := HO.out; rwa [List.take_of_length_le (by rw [packI_length]; omega)] at this, HU.out⟩
    | succ j =>
      rw [show ((j + 1 : Nat) : Int) - 1 = (j : Int) by omega]
      obtain ⟨bt, hbt⟩ : ∃ bt : Nat, bt = nn / 2 ^ (8 * j) % 256 := ⟨_, rfl⟩
      have e8 : IntKind.i64.wrap (8 * (j : Int)) = ((8 * j : Nat) : Int) := by rw [IntWalk.i64_in _ (by omega)]; omega
      have eb : IntKind.u8.wrap ((nn : Int) / 2 ^ (8 * j)) = (bt : Int) := by
        rw [hbt, IntKind.wrap_u8]
        simp
      have HB := Lib.hid hbt
      have hU2 := Upd.alloc0 wr (.cells #[.int .u8 bt] 5 (0, 0)) []
      have hown2 := hown.frame (hU2.same hown.lt (by simp))
      obtain ⟨nb, hnb, hsrc⟩ := (cell_new wr (.int .u8 bt) 5 (0, 0)).src (P := Tryd.prog) (tx := 47) Tryd.underlying47 (by intro u hu; rw [List.mem_singleton.1 hu]; rfl)
      have hnb1 : 1 = nb := by simpa using hnb
      subst hnb1
      have HBD := Lib.hid (show ∀ n', ((l ++ (packI v).take (8 - (j + 1))).map bv).length = n' * 1 → n' + 1 ≤ 140737488355328 ∧ (n' + 1) * i0.bytes ≤ 140737488355328 from fun n' hn' => by simp at hn'; rw [hz2]; omega)
      have HU := Lib.hid (hu.trans (Upd.alloc0 wr (.cells #[.int .u8 bt] 5 (0, 0)) D))
      clear hbt hown hu hnb hU2
      go_wp2_with (at_builtin; go_must (refine wpList_app rfl _ _ 47 47 rfl 1 _ _ _ rfl hown2 _ i0 _ Tryd.underlying47 hi0 hz0 hz1 rfl _ _ _ rfl hsrc HBD.out ?_); intro a4 n4 c4 w4 D4 hown4 hu4)
      go_roundg j
      case rel =>
        refine ⟨j, D4, by omega, rfl, rfl, ?_, HU.out.trans hu4⟩
        have e1 : 8 - j = 7 - j + 1 := by omega
        have e2 : 8 - (j + 1) = 7 - j := by omega
        rw [e2] at hown4
        rw [e1, packI_step v j (by omega), ← HN.out, ← List.append_assoc, List.map_append]
        have e3 : ([UInt8.ofNat (nn / 2 ^ (8 * j))] : Bs).map bv = [.int .u8 bt] := by simp [bv, HB.out]
        rw [e3]
        exact hown4
      case measure => omega
end Go.Proofs.YtfncdgnhiinmjaaDoor

/-
  Parts of a slice that is read.
-/
namespace Go.Proofs.YtfncdgnhiinmjaaDoor
open Go.RowKit Go.Av

theorem slice_run {P : Program} {t e : TypeId} {i : TypeInfo} (ht : P.underlying t = some (.slice e)) (hi : P.info? e = some i) (hz : i.size = 1) (g off n c lo k : Nat) (h1 : lo ≤ k) (hk : k ≤ c) (W : World) :
    (Instr.slice t (.slice (some ⟨g, off, none⟩) n c) (some (.int .i64 (lo : Int))) (some (.int .i64 (k : Int))) none).run P W = .ok (.slice (some ⟨g, if c = lo then off else off + lo, none⟩) (k - lo) (c - lo)) W := by
  simp [Instr.slice, run_underlying ht, Instr.sliceBounds, Instr.sliceBound, asIntOf, hk, h1, sizeOf, typeInfo, hi, Result.andThen, Addr.add, hz]
  split
  · rfl
  · split
    · simp_all
    · rfl
theorem slice_run' {P : Program} {t e : TypeId} {i : TypeInfo} (ht : P.underlying t = some (.slice e)) (hi : P.info? e = some i) (hz : i.size = 1) (g off n c lo : Nat) (h1 : lo ≤ n) (W : World) :
    (Instr.slice t (.slice (some ⟨g, off, none⟩) n c) (some (.int .i64 (lo : Int))) none none).run P W = .ok (.slice (some ⟨g, if c = lo then off else off + lo, none⟩) (n - lo) (c - lo)) W := by
  simp [Instr.slice, run_underlying ht, Instr.sliceBounds, Instr.sliceBound, asIntOf, h1, sizeOf, typeInfo, hi, Result.andThen, Addr.add, hz]
  split
  · rfl
  · split
    · simp_all
    · rfl
theorem slice_nil {P : Program} {t e : TypeId} {i : TypeInfo} (ht : P.underlying t = some (.slice e)) (hi : P.info? e = some i) (W : World) :
    (Instr.slice t (.slice none 0 0) (some (.int .i64 (0 : Nat))) (some (.int .i64 (0 : Nat))) none).run P W = .ok (.slice none 0 0) W ∧
    (Instr.slice t (.slice none 0 0) (some (.int .i64 (0 : Nat))) none none).run P W = .ok (.slice none 0 0) W := by
  constructor <;> simp [Instr.slice, run_underlying ht, Instr.sliceBounds, Instr.sliceBound, asIntOf, sizeOf, typeInfo, hi, Result.andThen, Addr.add]

theorem read_part {w : World} {g off n c lo k : Nat} {l : Bs} {E : List Nat} (h : ReadRow w 1 (.slice (some ⟨g, off, none⟩) n c) (l.map bv) E) (h1 : lo ≤ k) (hk : k ≤ n) :
    ∃ E', ReadRow w 1 (.slice (some ⟨g, if c = lo then off else off + lo, none⟩) (k - lo) (c - lo)) (((l.drop lo).take (k - lo)).map bv) E' ∧ ∀ b ∈ E', b ∈ E := by
  obtain ⟨a', n', c', hv, hl, hn, hc, ha, hr⟩ := h
  cases hv
  have hln : l.length = n := by simpa using hl
  by_cases h0 : k - lo = 0
  · rw [h0, List.take_zero]
    exact ⟨[], ⟨_, 0, _, rfl, rfl, Nat.zero_le _, by omega, (fun h => by cases h), .inl ⟨rfl, rfl⟩⟩, by simp⟩
  · rw [if_neg (by omega)]
    rcases hr with ⟨h2, _⟩ | ⟨g', off', h2, h3, h4, h5⟩
    · have : l = [] := by simpa using h2
      subst this; simp at hln; omega
    · cases h2
      refine ⟨E, ⟨_, _, _, rfl, by simp; omega, by omega, by omega, (fun h => by cases h), .inr ⟨g, off + lo, rfl, h3, h4, fun i x hx => ?_⟩⟩, fun _ h => h⟩
      have hx' : (l.map bv)[lo + i]? = some x := by
        rw [List.getElem?_map, List.getElem?_take] at hx
        split at hx
        · rw [List.getElem?_drop] at hx
          rw [List.getElem?_map]; exact hx
        · cases hx
      rw [show off + lo + i = off + (lo + i) by omega]
      exact h5 _ _ hx'

/-- b[lo:k], read. -/
theorem slice_cut {P : Program} {t e : TypeId} {i : TypeInfo} (ht : P.underlying t = some (.slice e)) (hi : P.info? e = some i) (hz : i.size = 1) {w : World} {a : Option Addr} {n c : Nat} {l : Bs} {E : List Nat} (h : ReadRow w 1 (.slice a n c) (l.map bv) E) (lo k : Nat) (h1 : lo ≤ k) (hk : k ≤ n) :
    ∃ a', (∀ W, (Instr.slice t (.slice a n c) (some (.int .i64 (lo : Int))) (some (.int .i64 (k : Int))) none).run P W = .ok (.slice a' (k - lo) (c - lo)) W) ∧
      ∃ E', ReadRow w 1 (.slice a' (k - lo) (c - lo)) (((l.drop lo).take (k - lo)).map bv) E' ∧ ∀ b ∈ E', b ∈ E := by
  have h0 := h
  obtain ⟨a', n', c', hv, hl, hn, hc, ha, hr⟩ := h
  cases hv
  cases a with
  | none =>
    have := ha rfl
    subst this
    obtain rfl : n = 0 := by omega
    obtain rfl : k = 0 := by omega
    obtain rfl : lo = 0 := by omega
    exact ⟨none, fun W => (slice_nil ht hi W).1, [], ⟨none, 0, 0, rfl, by simp, Nat.le_refl _, by decide, fun _ => rfl, .inl ⟨by simp, rfl⟩⟩, by simp⟩
  | some x =>
    by_cases hn0 : n = 0
    · subst hn0
      obtain rfl : k = 0 := by omega
      obtain rfl : lo = 0 := by omega
      obtain rfl : l = [] := by simpa using hl
      exact ⟨some x, fun W => by simp [Instr.slice, run_underlying ht, Instr.sliceBounds, Instr.sliceBound, asIntOf, sizeOf, typeInfo, hi, Result.andThen, Addr.add], [], ⟨some x, 0, c, rfl, by simp, Nat.zero_le _, hc, (fun h => by cases h), .inl ⟨by simp, rfl⟩⟩, by simp⟩
    · rcases hr with ⟨h2, _⟩ | ⟨g, off, h2, h3, h4, h5⟩
      · rw [h2] at hl; simp at hl; omega
      · cases h2
        exact ⟨_, fun W => slice_run ht hi hz g off n c lo k h1 (by omega) W, read_part h0 h1 hk⟩
/-- b[lo:], read. -/
theorem slice_from {P : Program} {t e : TypeId} {i : TypeInfo} (ht : P.underlying t = some (.slice e)) (hi : P.info? e = some i) (hz : i.size = 1) {w : World} {a : Option Addr} {n c : Nat} {l : Bs} {E : List Nat} (h : ReadRow w 1 (.slice a n c) (l.map bv) E) (lo : Nat) (h1 : lo ≤ n) :
    ∃ a', (∀ W, (Instr.slice t (.slice a n c) (some (.int .i64 (lo : Int))) none none).run P W = .ok (.slice a' (n - lo) (c - lo)) W) ∧
      ∃ E', ReadRow w 1 (.slice a' (n - lo) (c - lo)) ((l.drop lo).map bv) E' ∧ ∀ b ∈ E', b ∈ E := by
  have h0 := h
  obtain ⟨a', n', c', hv, hl, hn, hc, ha, hr⟩ := h
  cases hv
  have hln : l.length = n := by simpa using hl
  have hd : (l.drop lo).take (n - lo) = l.drop lo := List.take_of_length_le (by simp; omega)
  cases a with
  | none =>
    have := ha rfl
    subst this
    obtain rfl : n = 0 := by omega
    obtain rfl : lo = 0 := by omega
    have : l = [] := List.length_eq_zero_iff.1 hln
    subst this
    exact ⟨none, fun W => (slice_nil ht hi W).2, [], ⟨none, 0, 0, rfl, by simp, Nat.le_refl _, by decide, fun _ => rfl, .inl ⟨by simp, rfl⟩⟩, by simp⟩
  | some x =>
    by_cases hn0 : n = 0
    · subst hn0
      obtain rfl : lo = 0 := by omega
      have : l = [] := List.length_eq_zero_iff.1 hln
      subst this
      exact ⟨some x, fun W => by simp [Instr.slice, run_underlying ht, Instr.sliceBounds, Instr.sliceBound, asIntOf, sizeOf, typeInfo, hi, Result.andThen, Addr.add], [], ⟨some x, 0, c, rfl, by simp, Nat.zero_le _, hc, (fun h => by cases h), .inl ⟨by simp, rfl⟩⟩, by simp⟩
    · rcases hr with ⟨h2, _⟩ | ⟨g, off, h2, h3, h4, h5⟩
      · rw [h2] at hl; simp at hl; omega
      · cases h2
        obtain ⟨E', hE, hEE⟩ := read_part h0 h1 (Nat.le_refl n)
        rw [hd] at hE
        exact ⟨_, fun W => slice_run' ht hi hz g off n c lo h1 W, E', hE, hEE⟩
end Go.Proofs.YtfncdgnhiinmjaaDoor

/-
  The walks of a reader of numbers.
-/
namespace Go.Proofs.YtfncdgnhiinmjaaDoor
open Go.RowKit Go.Av

def ReaderAt (w : World) (r : Nat) (l : Bs) (bad : Bool) (D : List Nat) : Prop :=
  ∃ v E T, w.heap[r]? = some (.cells #[v, .bool bad] T (0, 0)) ∧ ReadRow w 1 v (l.map bv) E ∧ (∀ x ∈ E, x ≠ r) ∧ D = r :: E

theorem ReaderAt.frame {w w' : World} {r : Nat} {l : Bs} {bad : Bool} {D : List Nat} (h : ReaderAt w r l bad D) (hs : Same w w' D) : ReaderAt w' r l bad D := by
  obtain ⟨v, E, T, h1, h2, h3, rfl⟩ := h
  exact ⟨v, E, T, (hs r (by simp)).trans h1, h2.frame (fun b hb => hs b (by simp [hb])), h3, rfl⟩
theorem ReaderAt.lt {w : World} {r : Nat} {l : Bs} {bad : Bool} {D : List Nat} (h : ReaderAt w r l bad D) : ∀ b ∈ D, b < w.heap.size := by
  obtain ⟨v, E, T, h1, h2, h3, rfl⟩ := h
  intro b hb
  rcases List.mem_cons.1 hb with rfl | hb
  · exact lt_of_heap h1
  · exact h2.lt b hb

def RdrPost (w : World) (D : List Nat) (r : Nat) (l : Bs) (bad : Bool) (ret : Ending) (e : Ending) (w' : World) : Prop := e = ret ∧ ∃ D', ReaderAt w' r l bad D' ∧ Upd w w' D D'

theorem wrap_is (x : Int) : wrap64 x = IntKind.i64.wrap x := by
  rw [IntKind.wrap_i64]
  unfold wrap64
  omega
theorem or_join64 (x y : Nat) (hx : x % 256 = 0) (hx1 : x < 18446744073709551616) (hy : y < 256) : bits .or .u64 (x : Int) (y : Int) = ((x + y : Nat) : Int) := by
  have := bits_join .u64 64 (by decide) (fun n h0 h1 => by rw [IntKind.wrap_u64]; omega) 8 (x : Int) (y : Int) (by omega) (by omega) (by omega) (by omega) (by omega) (by omega)
  rw [this]
  omega
theorem rd_join (v x : Nat) (hx : x < 256) (u : UInt8) (hu : u.toNat = x) : bits .or .u64 (IntKind.u64.wrap ((v : Int) * 256)) (x : Int) = ((rdStep v u : Nat) : Int) := by
  have e1 : IntKind.u64.wrap ((v : Int) * 256) = ((v * 256 % 18446744073709551616 : Nat) : Int) := by rw [IntKind.wrap_u64]; omega
  rw [e1, or_join64 _ _ (by omega) (by omega) hx]
  unfold rdStep
  rw [hu]

set_option maxRecDepth 100000 in
set_option maxHeartbeats 1000000 in
theorem rdr_new (b : Value) (l : Bs) (E : List Nat) (w : World) (h : ReadRow w 1 b (l.map bv) E) (hl : l.length ≤ 1073741824) :
    Calls Tryd.prog 30 #[b] w fun e w' => ∃ r D, e = .returned (.pointer (some ⟨r, 0, none⟩)) ∧ ReaderAt w' r l false D ∧ Upd w w' [] D := by
  obtain ⟨i0, hi0, hz0, hz1, hz2⟩ := info_parts info5
  have h0 := h.frame ((Upd.alloc0 w (.cells #[] 5 (0, 0)) []).same h.lt (by simp))
  obtain ⟨nb, hnb, hsrc⟩ := h0.src (P := Tryd.prog) (tx := 47) Tryd.underlying47 bv_one
  rw [List.length_map, Nat.mul_one] at hnb
  subst hnb
  have HBD := Lib.hid (show ∀ n', ([] : List Value).length = n' * 1 → n' + l.length ≤ 140737488355328 ∧ (n' + l.length) * i0.bytes ≤ 140737488355328 from fun n' hn' => by simp at hn'; rw [hz2]; omega)
  clear h0
  go_enter Tryd.func30, Tryd.ntmps30
  go_wp2_with (at_builtin; go_must (refine wpList_app rfl _ _ 47 47 rfl 1 _ [] [] rfl (OwnRow.zero _ _ _) _ i0 _ Tryd.underlying47 hi0 hz0 hz1 rfl _ _ _ rfl hsrc HBD.out ?_); intro a3 n3 c3' w3 D3 hown3 hu3)
  go_ret
  have hu0 : Upd w w3 [] D3 := (Upd.alloc0 w (.cells #[] 5 (0, 0)) []).trans hu3
  rw [List.nil_append] at hown3
  obtain ⟨E3, hr3, hE3⟩ := hown3.read
  refine ⟨w3.heap.size, w3.heap.size :: E3, rfl, ⟨_, E3, _, heap_alloc_new w3 _, hr3.frame ((Upd.alloc0 w3 _ []).same hr3.lt (by simp)), fun x hx he => ?_, rfl⟩, ?_⟩
  · have := hr3.lt x hx; omega
  · refine (hu0.trans (Upd.alloc1 w3 _ D3)).mono (by simp) (fun b hb => .inl ?_)
    rcases List.mem_cons.1 hb with rfl | hb
    · simp
    · simp [hE3 b hb]

theorem rdr_spoil (r : Nat) (l : Bs) (bad : Bool) (D : List Nat) (w : World) (h : ReaderAt w r l bad D) :
    Calls Tryd.prog 49 #[.pointer (some ⟨r, 0, none⟩)] w (RdrPost w D r [] true (.returned (.tuple #[]))) := by
  obtain ⟨v, E, T, h1, h2, h3, rfl⟩ := h
  have y0 := frz_of h1 0
  have y1 := frz_of h1 1
  have c0 := cell_of h1 0 rfl
  have c1 := cell_of h1 1 rfl
  have H1 := Lib.hid h1
  clear h1
  go_enter Tryd.func49, Tryd.ntmps49
  go_wp2_with fail
  go_end0
  have e1 := heap_setCell_same w r 0 _ T (.slice none 0 0) H1.out
  have e2 := heap_setCell_same _ r 1 _ T (.bool true) e1
  refine ⟨rfl, [r], ⟨.slice none 0 0, [], T, e2, ⟨none, 0, 0, rfl, by simp, Nat.le_refl _, by decide, fun _ => rfl, .inl ⟨rfl, rfl⟩⟩, by simp, rfl⟩, ?_⟩
  exact (((Upd.refl w (r :: E)).setCell ⟨r, 0, none⟩ (.slice none 0 0) (by simp)).setCell ⟨r, 1, none⟩ (.bool true) (by simp)).mono (fun _ h => h) (by simp)

set_option maxRecDepth 100000 in
theorem rdr_end (r : Nat) (l : Bs) (bad : Bool) (D : List Nat) (w : World) (h : ReaderAt w r l bad D) :
    Calls Tryd.prog 34 #[.pointer (some ⟨r, 0, none⟩)] w fun e w' => e = .returned (.bool (!bad && l.isEmpty)) ∧ w' = w := by
  obtain ⟨v, E, T, h1, h2, h3, rfl⟩ := h
  obtain ⟨a, n, c, rfl, -⟩ := id h2
  obtain ⟨hn, hnc, hcm, -⟩ := row_cell h2
  rw [List.length_map] at hn
  subst hn
  have c0 := cell_of h1 0 rfl
  have c1 := cell_of h1 1 rfl
  clear h1 h2
  cases bad with
  | true =>
    go_enter Tryd.func34, Tryd.ntmps34
    go_wp2_with fail
    go_ret
    exact ⟨rfl, rfl⟩
  | false =>
    cases l with
    | nil =>
      go_enter Tryd.func34, Tryd.ntmps34
      go_wp2_with fail
      go_ret
      exact ⟨rfl, rfl⟩
    | cons x l =>
      have hne : ((((x :: l).length : Nat) : Int) == 0) = false := by simp; omega
      go_enter Tryd.func34, Tryd.ntmps34
      go_wp2_with fail
      go_ret
      exact ⟨congrArg (fun b => Ending.returned (.bool b)) (show (((l.length : Int) + 1) == 0) = false by simp; omega), rfl⟩

set_option maxRecDepth 100000 in
set_option maxHeartbeats 1000000 in
theorem rdr_i64 (r : Nat) (l : Bs) (bad : Bool) (D : List Nat) (w : World) (h : ReaderAt w r l bad D) :
    Calls Tryd.prog 32 #[.pointer (some ⟨r, 0, none⟩)] w
      (RdrPost w D r (if l.length < 8 then [] else l.drop 8) (if l.length < 8 then true else bad) (.returned (.int .i64 (if l.length < 8 then 0 else rdI l)))) := by
  obtain ⟨i0, hi0, hz0, hz1, hz2⟩ := info_parts info5
  obtain ⟨v, E, T, h1, h2, h3, rfl⟩ := h
  obtain ⟨a, n, c, rfl, -⟩ := id h2
  obtain ⟨hn, hnc, hcm, hcell⟩ := row_cell h2
  rw [List.length_map] at hn
  subst hn
  unfold maxLen at hcm
  have c0 : w.cell? ⟨r, 0, none⟩ = some (.slice a l.length c) := cell_of h1 0 rfl
  have y0 := frz_of h1 0
  have y1 := frz_of h1 1
  have H1 := Lib.hid h1
  have H2 := Lib.hid h2
  have H3 := Lib.hid h3
  clear h1 h2 h3
  by_cases h8 : l.length < 8
  · rw [if_pos h8, if_pos h8, if_pos h8]
    clear hcell
    have hsp := rdr_spoil r l bad (r :: E) w ⟨_, E, T, H1.out, H2.out, H3.out, rfl⟩
    have HSP := Lib.hid hsp
    clear hsp
    go_enter Tryd.func32, Tryd.ntmps32
    go_wp2_with fail
    refine HSP.out.mono ?_
    rintro e w1 ⟨rfl, D1, hR, hu⟩
    go_wp2_with fail
    go_ret
    exact ⟨rfl, D1, hR, hu⟩
  · rw [if_neg h8, if_neg h8, if_neg h8]
    have HC := Lib.hid hcell
    clear hcell
    have hsl1 : ∀ W : World, (Instr.slice 47 (.slice a l.length c) none (some (.int .i64 8)) none).run Tryd.prog W = .ok (.slice a 8 c) W := fun W => run_slice_hi (P := Tryd.prog) Tryd.underlying47 hi0 a l.length c 8 (by omega) W
    obtain ⟨ap, hsp, Ep, hrp, hEp⟩ := slice_from Tryd.underlying47 hi0 hz1 H2.out 8 (by omega)
    have hsp2 : ∀ W : World, (Instr.slice 47 (.slice a l.length c) (some (.int .i64 8)) none none).run Tryd.prog W = .ok (.slice ap (l.length - 8) (c - 8)) W := fun W => hsp W
    have HP := Lib.hid (show ReadRow w 1 (.slice ap (l.length - 8) (c - 8)) ((l.drop 8).map bv) Ep ∧ ∀ b ∈ Ep, b ∈ E from ⟨hrp, hEp⟩)
    clear hsp hrp hEp
    go_enter Tryd.func32, Tryd.ntmps32
    go_wp2_with fail
    go_loopg [3, 20] 8 (fun k s i wr => wr = w ∧ ∃ m : Nat, m ≤ 8 ∧ k = 8 - m ∧ i = .int .i64 m ∧ s = .int .u64 (rdFold (l.take m)))
    case atStart => exact ⟨rfl, 0, by omega, rfl, rfl, rfl⟩
    case round =>
      obtain ⟨hW, m, hm, hk, rfl, rfl⟩ := hrel
      subst wr
      by_cases hlt : m < 8
      · obtain ⟨x, rfl, -, hx⟩ := HC.out (by omega)
        have hcl : w.cell? (x.add m) = some (bv l[m]) := hx m _ (by rw [List.getElem?_map, List.getElem?_eq_getElem (by omega)]; rfl)
        unfold bv at hcl
        obtain ⟨xv, hxv⟩ : ∃ xv : Nat, xv = l[m].toNat := ⟨_, rfl⟩
        have hxl : xv < 256 := by rw [hxv]; exact UInt8.toNat_lt _
        rw [← hxv] at hcl
        have hj := rd_join (rdFold (l.take m)) xv hxl l[m] hxv.symm
        obtain ⟨f0, hf0⟩ : ∃ f0, f0 = rdFold (l.take m) := ⟨_, rfl⟩
        rw [← hf0] at hj ⊢
        have HJ := Lib.hid hj
        have HF := Lib.hid hf0
        clear hj hf0 hx hxv
        go_wp2_with fail
        go_roundg (8 - (m + 1))
        case rel =>
          refine ⟨rfl, m + 1, by omega, rfl, by go_num, ?_⟩
          have e : rdFold (l.take (m + 1)) = rdStep (rdFold (l.take m)) l[m] := by
            unfold rdFold
            rw [List.take_succ_eq_append_getElem (show m < l.length by omega), List.foldl_append]
            rfl
          rw [HJ.out, HF.out, e]
        case measure => omega
      · obtain rfl : m = 8 := by omega
        go_wp2_with fail
        go_ret
        refine ⟨congrArg (fun z => Ending.returned (.int .i64 z)) (wrap_is _), r :: Ep, ⟨_, Ep, T, heap_setCell_same w r 0 _ T (.slice ap (l.length - 8) (c - 8)) H1.out, HP.out.1.frame (fun b hb => heap_setCell_other _ _ _ _ (fun e => H3.out b (HP.out.2 b hb) e)), fun x hx => H3.out x (HP.out.2 x hx), rfl⟩, ?_⟩
        refine (Upd.set1 w ⟨r, 0, none⟩ (.slice ap (l.length - 8) (c - 8)) (r :: E) (by simp)).mono (fun _ h => h) (fun b hb => .inr ?_)
        rcases List.mem_cons.1 hb with rfl | hb
        · simp
        · simp [HP.out.2 b hb]
end Go.Proofs.YtfncdgnhiinmjaaDoor

/-
  A reader's counts: the walk.
-/
namespace Go.Proofs.YtfncdgnhiinmjaaDoor
open Go.RowKit Go.Av

def cntS (l : Bs) (bad : Bool) (most : Int) : Bs × Bool × Int :=
  if l.length < 8 then ([], true, 0) else if rdI l < 0 ∨ most < rdI l then ([], true, 0) else (l.drop 8, bad, rdI l)

set_option maxRecDepth 100000 in
set_option maxHeartbeats 1000000 in
theorem rdr_count (r : Nat) (l : Bs) (bad : Bool) (most : Int) (hm : 0 ≤ most) (D : List Nat) (w : World) (h : ReaderAt w r l bad D) :
    Calls Tryd.prog 31 #[.pointer (some ⟨r, 0, none⟩), .int .i64 most] w (RdrPost w D r (cntS l bad most).1 (cntS l bad most).2.1 (.returned (.int .i64 (cntS l bad most).2.2))) := by
  have hi := rdr_i64 r l bad D w h
  unfold cntS
  by_cases h8 : l.length < 8
  · rw [if_pos h8, if_pos h8, if_pos h8] at hi
    rw [if_pos h8]
    have HI := Lib.hid hi
    clear hi h h8
    go_enter Tryd.func31, Tryd.ntmps31
    go_wp2_with fail
    refine HI.out.mono ?_
    rintro e w1 ⟨rfl, D1, h1, hu1⟩
    have H1 := Lib.hid (show _ ∧ _ from ⟨h1, hu1⟩)
    have b1 : ¬ most < 0 := by omega
    clear h1 hu1
    go_wp2_with fail
    go_ret
    exact ⟨rfl, D1, H1.out.1, H1.out.2⟩
  · rw [if_neg h8, if_neg h8, if_neg h8] at hi
    rw [if_neg h8]
    obtain ⟨n, hn⟩ : ∃ n, rdI l = n := ⟨_, rfl⟩
    rw [hn] at hi ⊢
    have HI := Lib.hid hi
    clear hi h h8 hn
    by_cases hbad : n < 0 ∨ most < n
    · rw [if_pos hbad]
      by_cases hn0 : n < 0
      case' pos => clear hbad
      case' neg =>
        have hn1 : most < n := by omega
        clear hbad
      all_goals
        go_enter Tryd.func31, Tryd.ntmps31
        go_wp2_with fail
        refine HI.out.mono ?_
        rintro e w1 ⟨rfl, D1, h1, hu1⟩
        have hs := rdr_spoil r _ _ D1 w1 h1
        have HS := Lib.hid hs
        have HU := Lib.hid hu1
        clear h1 hu1 hs
        go_wp2_with fail
        refine HS.out.mono ?_
        rintro e w2 ⟨rfl, D2, h2, hu2⟩
        have H2 := Lib.hid (show _ ∧ _ from ⟨h2, HU.out.trans hu2⟩)
        clear h2 hu2
        go_wp2_with fail
        go_ret
        exact ⟨rfl, D2, H2.out.1, H2.out.2⟩
    · rw [if_neg hbad]
      have hn0 : ¬ n < 0 := fun h => hbad (.inl h)
      have hn1 : ¬ most < n := fun h => hbad (.inr h)
      clear hbad
      go_enter Tryd.func31, Tryd.ntmps31
      go_wp2_with fail
      refine HI.out.mono ?_
      rintro e w1 ⟨rfl, D1, h1, hu1⟩
      have H1 := Lib.hid (show _ ∧ _ from ⟨h1, hu1⟩)
      clear h1 hu1
      go_wp2_with fail
      go_ret
      exact ⟨rfl, D1, H1.out.1, H1.out.2⟩
end Go.Proofs.YtfncdgnhiinmjaaDoor

/-
  A reader in plain words; side by side with all else.
-/
namespace Go.Proofs.YtfncdgnhiinmjaaDoor
open Go.RowKit Go.Av

theorem packI_len (v : Int) : (packI v).length = 8 := rfl
theorem flat_len : ∀ l : List Int, (l.flatMap packI).length = 8 * l.length
  | [] => rfl
  | x :: l => by rw [List.flatMap_cons, List.length_append, packI_len, flat_len l, List.length_cons]; omega
/-! ### a reader, in plain words -/
abbrev Rd := Bs × Bool
def i64R (r : Rd) : Int × Rd := if r.1.length < 8 then (0, [], true) else (rdI r.1, r.1.drop 8, r.2)
def cntR (most : Int) (r : Rd) : Int × Rd := ((cntS r.1 r.2 most).2.2, (cntS r.1 r.2 most).1, (cntS r.1 r.2 most).2.1)
def cntN (most : Int) : Nat → Rd → List Int × Rd
  | 0, r => ([], r)
  | n + 1, r => ((cntR most r).1 :: (cntN most n (cntR most r).2).1, (cntN most n (cntR most r).2).2)
theorem cntN_snoc (most : Int) : ∀ (n : Nat) (r : Rd), cntN most (n + 1) r = ((cntN most n r).1 ++ [(cntR most (cntN most n r).2).1], (cntR most (cntN most n r).2).2)
  | 0, r => rfl
  | n + 1, r => by
    rw [cntN, cntN_snoc most n]
    rfl
theorem cntN_len (most : Int) : ∀ (n : Nat) (r : Rd), (cntN most n r).1.length = n
  | 0, r => rfl
  | n + 1, r => by rw [cntN, List.length_cons, cntN_len most n]
theorem cntR_bd {most : Int} (h : 0 ≤ most) (r : Rd) : 0 ≤ (cntR most r).1 ∧ (cntR most r).1 ≤ most := by
  unfold cntR cntS
  split
  · exact ⟨Int.le_refl _, h⟩
  · split
    · exact ⟨Int.le_refl _, h⟩
    · simp only; omega

theorem i64R_pack (v : Int) (x : Bs) (bad : Bool) (h1 : -9223372036854775808 ≤ v) (h2 : v ≤ 9223372036854775807) : i64R (packI v ++ x, bad) = (v, x, bad) := by
  unfold i64R
  rw [if_neg (by simp [packI_len])]
  simp only [rdI_pack v x h1 h2]
  rw [List.drop_append_of_le_length (by rw [packI_len]; omega), List.drop_of_length_le (by rw [packI_len]; omega)]
  rfl
theorem cntR_pack (most v : Int) (x : Bs) (bad : Bool) (h1 : 0 ≤ v) (h2 : v ≤ most) (h3 : most ≤ 9223372036854775807) : cntR most (packI v ++ x, bad) = (v, x, bad) := by
  unfold cntR cntS
  simp only
  rw [rdI_pack v x (by omega) (by omega), if_neg (by simp [packI_len]), if_neg (by omega)]
  simp only
  rw [List.drop_append_of_le_length (by rw [packI_len]; omega), List.drop_of_length_le (by rw [packI_len]; omega)]
  rfl
theorem cntN_pack (most : Int) (h3 : most ≤ 9223372036854775807) : ∀ (l : List Int) (x : Bs) (bad : Bool), (∀ v ∈ l, 0 ≤ v ∧ v ≤ most) → cntN most l.length (l.flatMap packI ++ x, bad) = (l, x, bad)
  | [], x, bad, _ => rfl
  | v :: l, x, bad, h => by
    have h1 := h v (by simp)
    rw [List.length_cons, cntN, List.flatMap_cons, List.append_assoc, cntR_pack most v _ bad h1.1 h1.2 h3]
    simp only
    rw [cntN_pack most h3 l x bad (fun v hv => h v (by simp [hv]))]
def ThRdr (r : Nat) (d : Rd) : Thing := ⟨fun w D => ReaderAt w r d.1 d.2 D, fun h hs => h.frame hs, fun h => h.lt⟩
section
variable {w0 w : World} {r : Nat} {d : Rd} {R : List Thing} {rows : List (Value × Bs)}
theorem rdrSep_count (h : Sep w0 w (ThRdr r d :: R) rows) (most : Int) (hm : 0 ≤ most) :
    Calls Tryd.prog 31 #[.pointer (some ⟨r, 0, none⟩), .int .i64 most] w fun e w' => e = .returned (.int .i64 (cntR most d).1) ∧ Sep w0 w' (ThRdr r (cntR most d).2 :: R) rows := by
  obtain ⟨D, hP, -, back⟩ := h.use
  refine (rdr_count r d.1 d.2 most hm D w hP).mono ?_
  rintro e w' ⟨rfl, D', h', hu⟩
  exact ⟨rfl, back w' D' (ThRdr r (cntR most d).2) hu h'⟩
theorem rdrSep_i64 (h : Sep w0 w (ThRdr r d :: R) rows) :
    Calls Tryd.prog 32 #[.pointer (some ⟨r, 0, none⟩)] w fun e w' => e = .returned (.int .i64 (i64R d).1) ∧ Sep w0 w' (ThRdr r (i64R d).2 :: R) rows := by
  obtain ⟨D, hP, -, back⟩ := h.use
  refine (rdr_i64 r d.1 d.2 D w hP).mono ?_
  rintro e w' ⟨rfl, D', h', hu⟩
  have e1 : (i64R d).1 = if d.1.length < 8 then 0 else rdI d.1 := by unfold i64R; split <;> rfl
  have e2 : (i64R d).2.1 = if d.1.length < 8 then [] else d.1.drop 8 := by unfold i64R; split <;> rfl
  have e3 : (i64R d).2.2 = if d.1.length < 8 then true else d.2 := by unfold i64R; split <;> rfl
  exact ⟨by rw [e1], back w' D' (ThRdr r (i64R d).2) hu (by show ReaderAt w' r (i64R d).2.1 (i64R d).2.2 D'; rw [e2, e3]; exact h')⟩
theorem rdrSep_end (h : Sep w0 w (ThRdr r d :: R) rows) :
    Calls Tryd.prog 34 #[.pointer (some ⟨r, 0, none⟩)] w fun e w' => e = .returned (.bool (!d.2 && d.1.isEmpty)) ∧ w' = w := by
  obtain ⟨D, hP⟩ := h.fst
  exact rdr_end r d.1 d.2 D w hP

end
end Go.Proofs.YtfncdgnhiinmjaaDoor

/-
  Texts and rows of numbers in bytes: the walks.
-/
namespace Go.Av
open Go.RowKit
def ivn (n : Int) : Value := .int .i64 n
def textB (s : Bs) : Bs := packI s.length ++ s
end Go.Av
namespace Go.Proofs.YtfncdgnhiinmjaaDoor
open Go.RowKit Go.Av

def textR (most : Int) (d : Rd) : Bs × Rd :=
  if ((cntR most d).2.1.length : Int) < (cntR most d).1 then ([], [], true) else ((cntR most d).2.1.take (cntR most d).1.toNat, (cntR most d).2.1.drop (cntR most d).1.toNat, (cntR most d).2.2)
theorem textR_text (most : Int) (s x : Bs) (bad : Bool) (h1 : (s.length : Int) ≤ most) (h3 : most ≤ 9223372036854775807) : textR most (textB s ++ x, bad) = (s, x, bad) := by
  unfold textR textB
  rw [List.append_assoc, cntR_pack most _ _ bad (by omega) h1 h3]
  simp only
  rw [if_neg (by rw [List.length_append]; omega), Int.toNat_natCast, List.take_append_of_le_length (Nat.le_refl _), List.take_length, List.drop_append_of_le_length (Nat.le_refl _), List.drop_length]
  rfl

theorem bytes_src {s : ByteArray} : byteCells s = s.data.toList.map bv := by
  unfold byteCells
  first | rfl | simp [bv]

set_option maxRecDepth 100000 in
set_option maxHeartbeats 1000000 in
theorem textW_any (b : Value) (l : Bs) (E : List Nat) (s : ByteArray) (w : World) (h : ReadRow w 1 b (l.map bv) E) (hl : l.length ≤ 1000000) (hs : s.size ≤ 1000000) :
    Calls Tryd.prog 39 #[b, .string s] w (AppPost w [] (l ++ textB s.data.toList)) := by
  obtain ⟨i0, hi0, hz0, hz1, hz2⟩ := info_parts info5
  have hsz : s.size = s.data.toList.length := by simp
  have hp := pack_any b l E (s.size : Int) w h (by omega)
  have HP := Lib.hid hp
  have hln : (l ++ packI (s.size : Int)).length ≤ 1000008 := by rw [List.length_append, packI_len]; omega
  have HT := Lib.hid (show l ++ textB s.data.toList = (l ++ packI (s.size : Int)) ++ s.data.toList by unfold textB; rw [hsz, List.append_assoc])
  obtain ⟨lp, hlp⟩ : ∃ lp, l ++ packI (s.size : Int) = lp := ⟨_, rfl⟩
  rw [hlp] at hln HP HT
  clear h hp hlp hsz
  go_enter Tryd.func39, Tryd.ntmps39
  go_wp2_with fail
  refine HP.out.mono ?_
  rintro e w1 ⟨v1, D1, rfl, ho1, hu1⟩
  have hsrc : Src Tryd.prog 1 9 (.string s) s.size (byteCells s) w1 := Src.ofString _ Tryd.underlying9 s
  have HBD := Lib.hid (show ∀ n', (lp.map bv).length = n' * 1 → n' + s.size ≤ 140737488355328 ∧ (n' + s.size) * i0.bytes ≤ 140737488355328 from fun n' hn' => by
    rw [List.length_map] at hn'
    rw [hz2]; omega)
  have HU := Lib.hid hu1
  clear hu1 HP
  obtain ⟨a1, n1, c1, rfl, -⟩ := ho1.len
  go_wp2_with (at_builtin; go_must (refine wpList_app rfl _ _ 47 9 rfl 1 _ _ _ rfl ho1 _ i0 _ Tryd.underlying47 hi0 hz0 hz1 rfl _ _ _ rfl hsrc HBD.out ?_); intro a3 n3 c3' w3 D3 hown3 hu3)
  go_ret
  rw [HT.out]
  rw [bytes_src, ← List.map_append] at hown3
  exact ⟨_, D3, rfl, hown3, HU.out.trans hu3⟩

set_option maxRecDepth 100000 in
set_option maxHeartbeats 1000000 in
theorem all_any (b v : Value) (l : Bs) (xs : List Int) (E F : List Nat) (w : World) (h : ReadRow w 1 b (l.map bv) E) (hv : ReadRow w 1 v (xs.map ivn) F) (hl : l.length ≤ 1000000) (hx : xs.length ≤ 1000) :
    Calls Tryd.prog 35 #[b, v] w (AppPost w [] (l ++ xs.flatMap packI)) := by
  obtain ⟨i0, hi0, hz0, hz1, hz2⟩ := info_parts info5
  obtain ⟨av, nv, cv, rfl, -⟩ := _root_.id hv
  obtain ⟨hnv, hncv, hcmv, hcell⟩ := row_cell hv
  rw [List.length_map] at hnv
  subst hnv
  unfold maxLen at hcmv
  have h0 := h.frame ((Upd.alloc0 w (.cells #[] 5 (0, 0)) []).same h.lt (by simp))
  obtain ⟨nb, hnb, hsrc⟩ := h0.src (P := Tryd.prog) (tx := 47) Tryd.underlying47 bv_one
  rw [List.length_map, Nat.mul_one] at hnb
  subst hnb
  have HBD := Lib.hid (show ∀ n', ([] : List Value).length = n' * 1 → n' + l.length ≤ 140737488355328 ∧ (n' + l.length) * i0.bytes ≤ 140737488355328 from fun n' hn' => by simp at hn'; rw [hz2]; omega)
  have HC := Lib.hid hcell
  clear h0 h hv hcell
  go_enter Tryd.func35, Tryd.ntmps35
  go_wp2_with (at_builtin; go_must (refine wpList_app rfl _ _ 47 47 rfl 1 _ [] [] rfl (OwnRow.zero _ _ _) _ i0 _ Tryd.underlying47 hi0 hz0 hz1 rfl _ _ _ rfl hsrc HBD.out ?_); intro a3 n3 c3' w3 D3 hown3 hu3)
  have HST := Lib.hid (show _ ∧ _ from ⟨hown3, ((Upd.alloc0 w (.cells #[] 5 (0, 0)) []).trans hu3 : Upd w w3 [] D3)⟩)
  clear hown3 hu3 hsrc
  go_loopg [5, 13] xs.length (fun k vb vi wr => ∃ (p : Nat) (D : List Nat), p ≤ xs.length ∧ k = xs.length - p ∧ vi = .int .i64 (p : Int) ∧
    OwnRow wr 1 vb ((l ++ (xs.take p).flatMap packI).map bv) D ∧ Upd w wr [] D)
  case atStart => exact ⟨0, D3, Nat.zero_le _, rfl, rfl, by simpa using HST.out.1, HST.out.2⟩
  case round =>
    obtain ⟨p, D, hp, hk, hvi, ho, hu⟩ := hrel
    subst hvi
    clear HST
    by_cases hlt : p < xs.length
    · obtain ⟨x, rfl, hsx, hcx⟩ := HC.out (by simpa using by omega)
      have hcx1 := hcx p (ivn xs[p]) (by rw [List.getElem?_map, List.getElem?_eq_getElem hlt]; rfl)
      have hcx1 := (hu.below.cell (World.block_lt_of_cell? w _ hcx1)).trans hcx1
      have hst : (l ++ (xs.take p).flatMap packI) ++ packI xs[p] = l ++ (xs.take (p + 1)).flatMap packI := by
        rw [List.take_succ_eq_append_getElem hlt, List.flatMap_append]; simp
      obtain ⟨z, hz⟩ : ∃ z, xs[p] = z := ⟨_, rfl⟩
      rw [hz] at hcx1 hst
      unfold ivn at hcx1
      obtain ⟨E1, hr1, hE1⟩ := ho.read
      have hp2 := pack_any _ _ E1 z wr hr1 (by
        simp only [List.length_append, flat_len, List.length_take]; omega)
      rw [hst] at hp2
      have HP := Lib.hid hp2
      have HU := Lib.hid hu
      clear ho hu hr1 hE1 hp2 hz hst hcx
      go_wp2_with fail
      refine HP.out.mono ?_
      rintro e w2 ⟨v2, D2, rfl, ho2, hu2⟩
      have HN := Lib.hid (show _ ∧ _ from ⟨ho2, HU.out.trans (hu2.mono (by simp) (fun _ hb => .inl hb))⟩)
      clear ho2 hu2 HU HP
      go_wp2_with fail
      go_roundg (xs.length - (p + 1))
      case rel => exact ⟨p + 1, D2, by omega, rfl, by go_num, HN.out.1, HN.out.2⟩
      case measure => omega
    · obtain rfl : p = xs.length := by omega
      rw [List.take_length] at ho
      have HO := Lib.hid (show _ ∧ _ from ⟨ho, hu⟩)
      clear ho hu
      go_wp2_with fail
      go_ret
      exact ⟨_, D, rfl, HO.out.1, HO.out.2⟩
end Go.Proofs.YtfncdgnhiinmjaaDoor

/-
  A reader's texts: the walk.
-/
namespace Go.Av
open Go.RowKit
theorem ReadRow.take {w : World} {size : Nat} {a : Option Addr} {n c : Nat} {xs : List Value} {D : List Nat} (h : ReadRow w size (.slice a n c) xs D) {k : Nat} (hk : k ≤ n) : ReadRow w size (.slice a k c) (xs.take (k * size)) D := by
  obtain ⟨a', n', c', hv, hl, hn, hc, ha, hr⟩ := h
  cases hv
  have hle : k * size ≤ n * size := Nat.mul_le_mul_right _ hk
  refine ⟨a, k, c, rfl, by rw [List.length_take, hl]; omega, by omega, hc, ha, ?_⟩
  rcases hr with ⟨rfl, h2⟩ | ⟨g, off, h1, h2, h3, h4⟩
  · exact .inl ⟨by simp, h2⟩
  · refine .inr ⟨g, off, h1, h2, h3, fun i x hx => h4 i x ?_⟩
    rw [List.getElem?_take] at hx
    split at hx
    · exact hx
    · cases hx
end Go.Av
namespace Go.Proofs.YtfncdgnhiinmjaaDoor
open Go.RowKit Go.Av

set_option maxRecDepth 100000 in
set_option maxHeartbeats 1000000 in
theorem rdr_text (r : Nat) (l : Bs) (bad : Bool) (most : Int) (hm : 0 ≤ most) (D : List Nat) (w : World) (h : ReaderAt w r l bad D) :
    Calls Tryd.prog 33 #[.pointer (some ⟨r, 0, none⟩), .int .i64 most] w (RdrPost w D r (textR most (l, bad)).2.1 (textR most (l, bad)).2.2 (.returned (sv (textR most (l, bad)).1))) := by
  obtain ⟨i0, hi0, hz0, hz1, hz2⟩ := info_parts info5
  have hc := rdr_count r l bad most hm D w h
  have hbd := cntR_bd hm (l, bad)
  have htx : textR most (l, bad) = textR most (l, bad) := rfl
  conv at htx => rhs; unfold textR
  unfold cntR at htx hbd
  obtain ⟨q, hq⟩ : ∃ q, cntS l bad most = q := ⟨_, rfl⟩
  simp only [hq] at htx hbd
  rw [hq] at hc
  obtain ⟨l1, bad1, n⟩ := q
  dsimp only at htx hbd hc
  obtain ⟨k, rfl⟩ : ∃ k : Nat, n = k := ⟨n.toNat, by omega⟩
  rw [Int.toNat_natCast] at htx
  have HC := Lib.hid hc
  clear hc hq h hbd
  obtain ⟨tx, htx2⟩ : ∃ tx, textR most (l, bad) = tx := ⟨_, rfl⟩
  rw [htx2] at htx ⊢
  clear htx2
  have HT := Lib.hid htx
  clear htx
  go_enter Tryd.func33, Tryd.ntmps33
  go_wp2_with fail
  refine HC.out.mono ?_
  rintro e w1 ⟨rfl, D1, h1, hu1⟩
  have h1' := h1
  obtain ⟨v, E, T, hb, hr, hE, rfl⟩ := h1'
  obtain ⟨a, nn, cp, rfl, -⟩ := id hr
  obtain ⟨hn, hnc, hcm, hcell⟩ := row_cell hr
  rw [List.length_map] at hn
  subst hn
  unfold maxLen at hcm
  have c0 : w1.cell? ⟨r, 0, none⟩ = some (.slice a l1.length cp) := cell_of hb 0 rfl
  have y0 := frz_of hb 0
  by_cases hlt : (l1.length : Int) < (k : Int)
  · have HS := Lib.hid (rdr_spoil r l1 bad1 (r :: E) w1 h1)
    have HTX := Lib.hid (show tx = ([], [], true) by rw [HT.out, if_pos hlt])
    have HU := Lib.hid hu1
    clear h1 hb hr hE hcell hu1 HC
    go_wp2_with fail
    refine HS.out.mono ?_
    rintro e w2 ⟨rfl, D2, h2, hu2⟩
    have H2 := Lib.hid (show _ ∧ _ from ⟨h2, HU.out.trans hu2⟩)
    clear h2 hu2
    go_wp2_with fail
    go_ret
    rw [HTX.out]
    exact ⟨rfl, D2, H2.out.1, H2.out.2⟩
  · have HTX := Lib.hid (show tx = (l1.take k, l1.drop k, bad1) by rw [HT.out, if_neg hlt])
    have hkl : k ≤ l1.length := by omega
    have hsl1 : ∀ W : World, (Instr.slice 47 (.slice a l1.length cp) none (some (.int .i64 (k : Int))) none).run Tryd.prog W = .ok (.slice a k cp) W := fun W => run_slice_hi (P := Tryd.prog) Tryd.underlying47 hi0 a l1.length cp k (by omega) W
    have hrt := hr.take hkl
    rw [Nat.mul_one, ← List.map_take] at hrt
    have hcv := conv_str (P := Tryd.prog) (src := 47) (dst := 9) Tryd.underlying47 Tryd.underlying5 Tryd.underlying9 hrt w1 (fun _ _ => rfl)
    obtain ⟨ap, hsp, Ep, hrp, hEp⟩ := slice_from Tryd.underlying47 hi0 hz1 hr k hkl
    have hsp2 : ∀ W : World, (Instr.slice 47 (.slice a l1.length cp) (some (.int .i64 (k : Int))) none none).run Tryd.prog W = .ok (.slice ap (l1.length - k) (cp - k)) W := fun W => hsp W
    have HP := Lib.hid (show _ ∧ _ ∧ _ ∧ _ ∧ _ from ⟨hrp, hEp, hE, hb, hu1⟩)
    clear h1 hb hr hE hcell hu1 HC hsp hrp hEp hrt
    go_wp2_with fail
    go_ret
    rw [HTX.out]
    obtain ⟨hrp, hEp, hE, hb, hu1⟩ := HP.out
    refine ⟨rfl, r :: Ep, ⟨_, Ep, T, heap_setCell_same w1 r 0 _ T (.slice ap (l1.length - k) (cp - k)) hb, hrp.frame (fun b hb => heap_setCell_other _ _ _ _ (fun e => hE b (hEp b hb) e)), fun x hx => hE x (hEp x hx), rfl⟩, ?_⟩
    refine hu1.trans ((Upd.set1 w1 ⟨r, 0, none⟩ (.slice ap (l1.length - k) (cp - k)) (r :: E) (by simp)).mono (fun _ h => h) (fun b hb => .inr ?_))
    rcases List.mem_cons.1 hb with rfl | hb
    · simp
    · simp [hEp b hb]
section
variable {w0 w : World} {r : Nat} {d : Rd} {R : List Thing} {rows : List (Value × Bs)}
theorem rdrSep_text (h : Sep w0 w (ThRdr r d :: R) rows) (most : Int) (hm : 0 ≤ most) :
    Calls Tryd.prog 33 #[.pointer (some ⟨r, 0, none⟩), .int .i64 most] w fun e w' => e = .returned (sv (textR most d).1) ∧ Sep w0 w' (ThRdr r (textR most d).2 :: R) rows := by
  obtain ⟨D, hP, -, back⟩ := h.use
  refine (rdr_text r d.1 d.2 most hm D w hP).mono ?_
  rintro e w' ⟨rfl, D', h', hu⟩
  exact ⟨rfl, back w' D' (ThRdr r (textR most d).2) hu h'⟩
end
end Go.Proofs.YtfncdgnhiinmjaaDoor

/-
  The library's contracts on 'slices.Sorted(maps.Keys(m))' laid at this program, in plain words (written by the kit's tools).
-/
namespace Go.Proofs
open Go.Shelf
def Tryd.keys37_ren : Go.Shelf.Ren := ⟨fun | 7 => 37 | 10 => 52 | n => n, fun | 23 => 61 | 26 => 9 | 3 => 3 | 28 => 74 | 0 => 0 | 27 => 73 | 33 => 36 | 4 => 4 | n => n, fun | n => n⟩
theorem Tryd.keys37 : Go.Proofs.SlLaysZ.n7 Tryd.prog Tryd.keys37_ren := {
  mixed := by kernel_rfl
  f7 := ⟨Tryd.f37.name, by decide, Tryd.func37.trans (congrArg some (by kernel_rfl))⟩
  f10 := ⟨Tryd.f52.name, by decide, Tryd.func52.trans (congrArg some (by kernel_rfl))⟩
  t0 := Tryd.underlying0
  a0 := Tryd.isAgg0
  z0 := Tryd.sizeOf0
  v0 := Tryd.zeroValue0
  t4 := Tryd.underlying4
  a4 := Tryd.isAgg4
  z4 := Tryd.sizeOf4
  v4 := Tryd.zeroValue4
  t23 := Tryd.underlying61
  a23 := Tryd.isAgg61
  z23 := Tryd.sizeOf61
  v23 := Tryd.zeroValue61
  t26 := Tryd.underlying9
  a26 := Tryd.isAgg9
  z26 := Tryd.sizeOf9
  v26 := Tryd.zeroValue9
  t27 := Tryd.underlying73
  a27 := Tryd.isAgg73
  z27 := Tryd.sizeOf73
  v27 := Tryd.zeroValue73
  t28 := Tryd.underlying74
  a28 := Tryd.isAgg74
  z28 := Tryd.sizeOf74
  v28 := Tryd.zeroValue74
  t33 := Tryd.underlying36
  a33 := Tryd.isAgg36
  z33 := Tryd.sizeOf36
  v33 := Tryd.zeroValue36 }
def Tryd.sorted36_ren : Go.Shelf.Ren := ⟨fun | 6 => 36 | 8 => 50 | 9 => 51 | 11 => 55 | 13 => 57 | 12 => 56 | 23 => 70 | 24 => 71 | 14 => 61 | 15 => 62 | 16 => 63 | 17 => 64 | 18 => 65 | 19 => 66 | 20 => 67 | 21 => 68 | 22 => 69 | 25 => 76 | 26 => 77 | 27 => 78 | 28 => 79 | 29 => 80 | 30 => 81 | 31 => 87 | n => n, fun | 26 => 9 | 28 => 74 | 24 => 65 | 0 => 0 | 3 => 3 | 37 => 87 | 48 => 106 | 50 => 86 | 4 => 4 | 40 => 99 | 39 => 98 | 45 => 64 | 5 => 5 | 9 => 9 | 51 => 110 | 55 => 114 | 57 => 119 | 58 => 120 | 33 => 36 | n => n, fun | n => n⟩
theorem Tryd.sorted36 : Go.Proofs.SlLaysZ.n6 Tryd.prog Tryd.sorted36_ren := {
  mixed := by kernel_rfl
  f6 := ⟨Tryd.f36.name, by decide, Tryd.func36.trans (congrArg some (by kernel_rfl))⟩
  f8 := ⟨Tryd.f50.name, by decide, Tryd.func50.trans (congrArg some (by kernel_rfl))⟩
  f11 := ⟨Tryd.f55.name, by decide, Tryd.func55.trans (congrArg some (by kernel_rfl))⟩
  t0 := Tryd.underlying0
  a0 := Tryd.isAgg0
  z0 := Tryd.sizeOf0
  v0 := Tryd.zeroValue0
  t24 := Tryd.underlying65
  a24 := Tryd.isAgg65
  z24 := Tryd.sizeOf65
  v24 := Tryd.zeroValue65
  t26 := Tryd.underlying9
  a26 := Tryd.isAgg9
  z26 := Tryd.sizeOf9
  v26 := Tryd.zeroValue9
  t28 := Tryd.underlying74
  a28 := Tryd.isAgg74
  z28 := Tryd.sizeOf74
  v28 := Tryd.zeroValue74
  i26 := by kernel_rfl }
def Tryd.sort51_ren : Go.Shelf.Ren := ⟨fun | 6 => 51 | 8 => 57 | 9 => 56 | 19 => 70 | 20 => 71 | 21 => 61 | 22 => 62 | 23 => 63 | 24 => 64 | 25 => 65 | 26 => 66 | 27 => 67 | 28 => 68 | 29 => 69 | 36 => 76 | 31 => 77 | 32 => 78 | 37 => 79 | 38 => 80 | 39 => 81 | 41 => 87 | n => n, fun | 27 => 65 | 29 => 9 | 3 => 3 | 32 => 87 | 26 => 65 | 0 => 0 | 44 => 106 | 46 => 86 | 4 => 4 | 36 => 99 | 35 => 98 | 41 => 64 | 5 => 5 | 9 => 9 | 53 => 110 | 57 => 114 | 63 => 119 | 64 => 120 | n => n, fun | n => n⟩
theorem Tryd.sort51 : Go.Proofs.SlLaysM.n6 Tryd.prog Tryd.sort51_ren := {
  mixed := by kernel_rfl
  f6 := ⟨Tryd.f51.name, by decide, Tryd.func51.trans (congrArg some (by kernel_rfl))⟩
  f8 := Tryd.func57.trans (congrArg some (by kernel_rfl))
  f9 := ⟨Tryd.f56.name, by decide, Tryd.func56.trans (congrArg some (by kernel_rfl))⟩
  f19 := Tryd.func70.trans (congrArg some (by kernel_rfl))
  f20 := Tryd.func71.trans (congrArg some (by kernel_rfl))
  f21 := ⟨Tryd.f61.name, by decide, Tryd.func61.trans (congrArg some (by kernel_rfl))⟩
  f22 := ⟨Tryd.f62.name, by decide, Tryd.func62.trans (congrArg some (by kernel_rfl))⟩
  f23 := ⟨Tryd.f63.name, by decide, Tryd.func63.trans (congrArg some (by kernel_rfl))⟩
  f24 := ⟨Tryd.f64.name, by decide, Tryd.func64.trans (congrArg some (by kernel_rfl))⟩
  f25 := ⟨Tryd.f65.name, by decide, Tryd.func65.trans (congrArg some (by kernel_rfl))⟩
  f26 := ⟨Tryd.f66.name, by decide, Tryd.func66.trans (congrArg some (by kernel_rfl))⟩
  f27 := ⟨Tryd.f67.name, by decide, Tryd.func67.trans (congrArg some (by kernel_rfl))⟩
  f28 := ⟨Tryd.f68.name, by decide, Tryd.func68.trans (congrArg some (by kernel_rfl))⟩
  f29 := ⟨Tryd.f69.name, by decide, Tryd.func69.trans (congrArg some (by kernel_rfl))⟩
  f31 := Tryd.func77.trans (congrArg some (by kernel_rfl))
  f32 := Tryd.func78.trans (congrArg some (by kernel_rfl))
  f36 := ⟨Tryd.f76.name, by decide, Tryd.func76.trans (congrArg some (by kernel_rfl))⟩
  f37 := ⟨Tryd.f79.name, by decide, Tryd.func79.trans (congrArg some (by kernel_rfl))⟩
  f38 := ⟨Tryd.f80.name, by decide, Tryd.func80.trans (congrArg some (by kernel_rfl))⟩
  f39 := ⟨Tryd.f81.name, by decide, Tryd.func81.trans (congrArg some (by kernel_rfl))⟩
  f41 := ⟨Tryd.f87.name, by decide, Tryd.func87.trans (congrArg some (by kernel_rfl))⟩
  t0 := Tryd.underlying0
  a0 := Tryd.isAgg0
  z0 := Tryd.sizeOf0
  v0 := Tryd.zeroValue0
  t3 := Tryd.underlying3
  a3 := Tryd.isAgg3
  z3 := Tryd.sizeOf3
  v3 := Tryd.zeroValue3
  t4 := Tryd.underlying4
  a4 := Tryd.isAgg4
  z4 := Tryd.sizeOf4
  v4 := Tryd.zeroValue4
  t5 := Tryd.underlying5
  a5 := Tryd.isAgg5
  z5 := Tryd.sizeOf5
  v5 := Tryd.zeroValue5
  t9 := Tryd.underlying9
  a9 := Tryd.isAgg9
  z9 := Tryd.sizeOf9
  v9 := Tryd.zeroValue9
  t26 := Tryd.underlying65
  a26 := Tryd.isAgg65
  z26 := Tryd.sizeOf65
  v26 := Tryd.zeroValue65
  t27 := Tryd.underlying65
  a27 := Tryd.isAgg65
  z27 := Tryd.sizeOf65
  v27 := Tryd.zeroValue65
  t29 := Tryd.underlying9
  a29 := Tryd.isAgg9
  z29 := Tryd.sizeOf9
  v29 := Tryd.zeroValue9
  t32 := Tryd.underlying87
  a32 := Tryd.isAgg87
  z32 := Tryd.sizeOf87
  v32 := Tryd.zeroValue87
  t35 := Tryd.underlying98
  a35 := Tryd.isAgg98
  z35 := Tryd.sizeOf98
  v35 := Tryd.zeroValue98
  t36 := Tryd.underlying99
  a36 := Tryd.isAgg99
  z36 := Tryd.sizeOf99
  v36 := Tryd.zeroValue99
  t41 := Tryd.underlying64
  a41 := Tryd.isAgg64
  z41 := Tryd.sizeOf64
  v41 := Tryd.zeroValue64
  t44 := Tryd.underlying106
  a44 := Tryd.isAgg106
  z44 := Tryd.sizeOf106
  v44 := Tryd.zeroValue106
  t46 := Tryd.underlying86
  a46 := Tryd.isAgg86
  z46 := Tryd.sizeOf86
  v46 := Tryd.zeroValue86
  t53 := Tryd.underlying110
  a53 := Tryd.isAgg110
  z53 := Tryd.sizeOf110
  v53 := Tryd.zeroValue110
  t57 := Tryd.underlying114
  a57 := Tryd.isAgg114
  z57 := Tryd.sizeOf114
  v57 := Tryd.zeroValue114
  t63 := Tryd.underlying119
  a63 := Tryd.isAgg119
  z63 := Tryd.sizeOf119
  v63 := Tryd.zeroValue119
  t64 := Tryd.underlying120
  a64 := Tryd.isAgg120
  z64 := Tryd.sizeOf120
  v64 := Tryd.zeroValue120 }
open Go.RowKit Go.Maps Go.Sort Go.Shelf
theorem Tryd.sorts36 (m : Nat) : AnyZ.SortsIn Tryd.prog Tryd.sorted36_ren Fence.wide m :=
  ⟨fun blk off cap ss W hH hblk hsz => callsIn_wide.2 (AnyM.slices_Sort_string Tryd.sort51 blk off cap ss W hH hblk hsz),
   fun p cap W => callsIn_wide.2 (AnyM.slices_Sort_string_none Tryd.sort51 p cap W)⟩

theorem Tryd.maps_Keys_37 (mb : Option Nat) (W : World) : CallsIn Fence.wide 5 Tryd.prog 37 #[.map mb] W fun e w' => e = .returned (.func (.func 52) #[] #[.pointer (some ⟨W.heap.size, 0, none⟩)]) ∧ w' = W.alloc (.cells #[.map mb] 61) :=
  AnyZ.keys_in Tryd.keys37 Fence.wide 5 trivial rfl mb W

set_option maxHeartbeats 1000000 in
theorem Tryd.slices_Sorted_keys_36_37 {H : Type} (b nn : Nat) (D0 : DataW H) (R : Value → Option (DataW H × List MemPlace)) (w : World) (hown : w.ownsMap Tryd.prog 9 R b nn D0) (hmax : Maps.size D0 ≤ maxLen) (hbytes : Maps.size D0 * 16 ≤ 140737488355328) :
    CallsIn Fence.wide 5 Tryd.prog 36 #[.func (.func 52) #[] #[.pointer (some ⟨w.heap.size, 0, none⟩)]] (w.alloc (.cells #[.map (some b)] 61)) fun e w' => ∃ (v : Value) (ss : List (List UInt8)), e = .returned v ∧ ss.Perm (strKeys D0) ∧
      w'.ownsRow (w.alloc (.cells #[.map (some b)] 61)).heap.size 9 1 v ss.length ((ss.mergeSort (fun x y => decide (x ≤ y))).map encStr) ∧ (v = .slice none 0 0 ↔ ss = []) ∧ Below (w.alloc (.cells #[.map (some b)] 61)).heap.size (w.alloc (.cells #[.map (some b)] 61)) w' := by
  have hbl := hown.lt
  have hseq : SeqGives Fence.wide 2 Tryd.prog 52 #[.pointer (some ⟨w.heap.size, 0, none⟩)] encStr (fun ss => ss.Perm (strKeys D0)) (Maps.size D0) (w.alloc (.cells #[.map (some b)] 61)) :=
    AnyZ.keys_gives (ρ := Tryd.keys37_ren) { Tryd.keys37 with } Fence.wide _ trivial rfl (by omega) w.heap.size b nn D0 _ (by simp) (by simp) (by
      obtain ⟨es, clock, hb, Ft, hs, hD⟩ := hown
      exact ⟨es, clock, (Below.heap_alloc _ _ b hbl).trans hb, Ft, hs, hD⟩)
  exact AnyZ.sorted_in Tryd.sorted36 Fence.wide 5 trivial trivial trivial trivial rfl (by omega) (Tryd.sorts36 _) (enters_of Tryd.func51 (by kernel_rfl) rfl) 52 #[.pointer (some ⟨w.heap.size, 0, none⟩)] trivial (enters_of Tryd.func52 (by kernel_rfl) rfl) _ _ hmax hbytes _ hseq

set_option maxHeartbeats 1000000 in
theorem Tryd.slices_Sorted_keys_nil_36_37 (w : World) :
    CallsIn Fence.wide 5 Tryd.prog 36 #[.func (.func 52) #[] #[.pointer (some ⟨w.heap.size, 0, none⟩)]] (w.alloc (.cells #[.map none] 61)) fun e w' => ∃ (v : Value) (ss : List (List UInt8)), e = .returned v ∧ ss = [] ∧
      w'.ownsRow (w.alloc (.cells #[.map none] 61)).heap.size 9 1 v ss.length ((ss.mergeSort (fun x y => decide (x ≤ y))).map encStr) ∧ (v = .slice none 0 0 ↔ ss = []) ∧ Below (w.alloc (.cells #[.map none] 61)).heap.size (w.alloc (.cells #[.map none] 61)) w' := by
  have hseq : SeqGives Fence.wide 2 Tryd.prog 52 #[.pointer (some ⟨w.heap.size, 0, none⟩)] encStr (fun ss : List (List UInt8) => ss = []) 0 (w.alloc (.cells #[.map none] 61)) :=
    AnyZ.keys_gives_nil (ρ := Tryd.keys37_ren) { Tryd.keys37 with } Fence.wide _ trivial rfl w.heap.size _ (by simp) (by simp)
  exact AnyZ.sorted_in Tryd.sorted36 Fence.wide 5 trivial trivial trivial trivial rfl (by omega) (Tryd.sorts36 _) (enters_of Tryd.func51 (by kernel_rfl) rfl) 52 #[.pointer (some ⟨w.heap.size, 0, none⟩)] trivial (enters_of Tryd.func52 (by kernel_rfl) rfl) _ 0 (Nat.zero_le _) (by omega) _ hseq



end Go.Proofs

/-
  Maps' keys, as the library's contracts take them.
-/
namespace Go.Av
open Go.RowKit Go.Maps Go.Sort

def noRead : Value → Option (DataW Unit × List MemPlace) := fun _ => some (.nil, [])
theorem rg_str {P : Program} {k : TypeId} (hk : P.underlying k = some .string) (s : ByteArray) (hs : s.size ≤ maxLen) (e : MapEntry) (he : e.key = .string s) : WideElems.rd P k noRead e = some (.string s.data.toList, .nil) := by
  simp [WideElems.rd, he, keyOf, hk, mapKey, hs, noRead]

/-- A map of names, as the library's contracts take it. -/
theorem owns_names {P : Program} {w : World} {k : TypeId} {m : Nat} {l : List (ByteArray × Value)} (h : MapIs w .string m (l.map fun x => (.string x.1, x.2))) (hk : P.underlying k = some .string) (hn : l.length ≤ 1000000) (hs : ∀ x ∈ l, x.1.size ≤ maxLen) :
    ∃ D0 : DataW Unit, w.ownsMap P k noRead m l.length D0 ∧ size D0 = l.length ∧ (strKeys D0).Perm (l.map fun x => x.1.data.toList) := by
  obtain ⟨es, clock, h1, h2, h3, h4⟩ := h
  have hlen : es.size = l.length := by
    have := congrArg List.length h4
    simpa using this
  have hall : ∀ e ∈ es.toList, ∃ x ∈ l, e.key = .string x.1 := by
    intro e he
    have hm : kv e ∈ l.map fun x => (Value.string x.1, x.2) := by rw [← h4]; exact List.mem_map_of_mem he
    obtain ⟨x, hx, hxe⟩ := List.mem_map.1 hm
    exact ⟨x, hx, (congrArg Prod.fst hxe).symm⟩
  refine ⟨_, ⟨es, clock, h1, ⟨by rw [hlen]; unfold maxLen; omega, h2, fun e he => ?_⟩, by omega, rfl⟩, ?_, ?_⟩
  · obtain ⟨x, hx, hk'⟩ := hall e he
    exact ⟨_, rg_str hk x.1 (hs x hx) e hk'⟩
  · rw [size_eq, (WideShapes.sorted_perm _).length_eq]
    simpa using hlen
  · have e1 : (es.toList.map (WideElems.rg P k noRead)).map (fun p => strOf p.1) = l.map fun x => x.1.data.toList := by
      have e2 : es.toList.map (fun e => (kv e).1) = l.map fun x => Value.string x.1 := by
        have := congrArg (List.map Prod.fst) h4
        simpa [Function.comp_def] using this
      have e3 : es.toList.map (fun e => strOf (WideElems.rg P k noRead e).1) = (es.toList.map (fun e => (kv e).1)).map fun v => match v with | .string s => s.data.toList | _ => [] := by
        rw [List.map_map]
        refine List.map_congr_left fun e he => ?_
        obtain ⟨x, hx, hk'⟩ := hall e he
        have hke : (kv e).1 = .string x.1 := hk'
        simp [Function.comp, hke, WideElems.rg, rg_str hk x.1 (hs x hx) e hk', strOf]
      rw [List.map_map, Function.comp_def, e3, e2, List.map_map]
      rfl
    rw [← e1]
    exact (WideShapes.sorted_perm _).map _

theorem rg_int {P : Program} {k : TypeId} (hk : P.underlying k = some (.int .i64)) (x : Int) (hx : (Lit.int .i64 x).wf = true) (e : MapEntry) (he : e.key = .int .i64 x) : WideElems.rd P k noRead e = some (.int .i64 x, .nil) := by
  simp [WideElems.rd, he, keyOf, hk, mapKey, hx, noRead]
/-- A map of numbers, as the library's contracts take it. -/
theorem owns_ids {P : Program} {w : World} {k : TypeId} {m : Nat} {l : List (Int × Value)} (h : MapIs w (.int .i64) m (l.map fun x => (.int .i64 x.1, x.2))) (hk : P.underlying k = some (.int .i64)) (hn : l.length ≤ 1000000) (hs : ∀ x ∈ l, (Lit.int .i64 x.1).wf = true) :
    ∃ D0 : DataW Unit, w.ownsMap P k noRead m l.length D0 ∧ Maps.size D0 = l.length ∧ (intKeys D0).Perm (l.map fun x => x.1) := by
  obtain ⟨es, clock, h1, h2, h3, h4⟩ := h
  have hlen : es.size = l.length := by
    have := congrArg List.length h4
    simpa using this
  have hall : ∀ e ∈ es.toList, ∃ x ∈ l, e.key = .int .i64 x.1 := by
    intro e he
    have hm : kv e ∈ l.map fun x => (Value.int .i64 x.1, x.2) := by rw [← h4]; exact List.mem_map_of_mem he
    obtain ⟨x, hx, hxe⟩ := List.mem_map.1 hm
    exact ⟨x, hx, (congrArg Prod.fst hxe).symm⟩
  refine ⟨_, ⟨es, clock, h1, ⟨by rw [hlen]; unfold maxLen; omega, h2, fun e he => ?_⟩, by omega, rfl⟩, ?_, ?_⟩
  · obtain ⟨x, hx, hk'⟩ := hall e he
    exact ⟨_, rg_int hk x.1 (hs x hx) e hk'⟩
  · rw [size_eq, (WideShapes.sorted_perm _).length_eq]
    simpa using hlen
  · have e1 : (es.toList.map (WideElems.rg P k noRead)).map (fun p => Go.intOf p.1) = l.map fun x => x.1 := by
      have e2 : es.toList.map (fun e => (kv e).1) = l.map fun x => Value.int .i64 x.1 := by
        have := congrArg (List.map Prod.fst) h4
        simpa [Function.comp_def] using this
      have e3 : es.toList.map (fun e => Go.intOf (WideElems.rg P k noRead e).1) = (es.toList.map (fun e => (kv e).1)).map fun v => match v with | .int _ q => q | _ => 0 := by
        rw [List.map_map]
        refine List.map_congr_left fun e he => ?_
        obtain ⟨x, hx, hk'⟩ := hall e he
        have hke : (kv e).1 = .int .i64 x.1 := hk'
        simp [Function.comp, hke, WideElems.rg, rg_int hk x.1 (hs x hx) e hk', Go.intOf]
      rw [List.map_map, Function.comp_def, e3, e2, List.map_map]
      rfl
    rw [← e1]
    exact (WideShapes.sorted_perm _).map _
theorem own_of {w : World} {base : Nat} {e : TypeId} {v : Value} {n : Nat} {xs : List Value} (h : w.ownsRow base e 1 v n xs) : ∃ D, OwnRow w 1 v xs D ∧ ∀ b ∈ D, base ≤ b ∧ b < w.heap.size := by
  obtain ⟨hl, ⟨rfl, rfl⟩ | ⟨g, cap, cur, rfl, hg, hh, hn, hc, hs, hx⟩⟩ := h
  · obtain rfl : xs = [] := List.length_eq_zero_iff.1 (by omega)
    exact ⟨[], OwnRow.nil _ _, by simp⟩
  · exact ⟨[g], ⟨_, n, cap, rfl, hl, hn, hc, (fun h => by cases h), .inr ⟨g, 0, cur, e, rfl, rfl, hh, by omega, by simpa using hx⟩⟩, by simpa using ⟨hg, lt_of_heap hh⟩⟩

theorem read_own {w : World} {base : Nat} {e : TypeId} {v : Value} {n : Nat} {xs : List Value} (h : w.ownsRow base e 1 v n xs) : ∃ E, ReadRow w 1 v xs E ∧ ∀ b ∈ E, base ≤ b := by
  obtain ⟨hl, ⟨rfl, rfl⟩ | ⟨g, cap, cur, rfl, hg, hh, hn, hc, hs, hx⟩⟩ := h
  · obtain rfl : xs = [] := List.length_eq_zero_iff.1 (by omega)
    exact ⟨[], ⟨none, 0, 0, rfl, rfl, Nat.le_refl _, by decide, fun _ => rfl, .inl ⟨rfl, rfl⟩⟩, by simp⟩
  · refine ⟨[g], ⟨_, n, cap, rfl, hl, hn, hc, (fun h => by cases h), .inr ⟨g, 0, rfl, rfl, lt_of_heap hh, fun i x hi => ?_⟩⟩, by simpa using hg⟩
    rw [cell_of_row w g (0 + i) cur e _ hh, ← hx] at *
    rw [List.getElem?_take] at hi
    split at hi
    · simpa using hi
    · cases hi

theorem wf_i64 {n : Int} (h1 : -9223372036854775808 ≤ n) (h2 : n ≤ 9223372036854775807) : (Lit.int .i64 n).wf = true := by
  have e1 : IntKind.i64.min = -9223372036854775808 := by decide
  have e2 : IntKind.i64.max = 9223372036854775807 := by decide
  simp only [Lit.wf, Bool.and_eq_true, decide_eq_true_eq, e1, e2]
  omega

end Go.Av

/-
  Regions whose order is drawn: several operations may come up.
-/
namespace Go.Av
section
variable {P : Program} {ops : Array Oper} {Q : Exit → Act → World → Prop} {md : Region.Mode} {S : World → Prop}
/-- Several operations may come up: each is walked. -/
theorem wpAnyM_each {N : Nat} {fuel : Nat} {listed : Array Bool} {a : Act} {w : World} (rs : List Nat) (hr : Region.ready md ops listed = rs) (hne : rs ≠ [])
    (h : ∀ i ∈ rs, ∃ o, ops[i]? = some o ∧ ∀ K : Act → World → Prop, (∀ a' w', S w' → wpAnyM P md ops Q S N fuel (listed.setIfInBounds i true) a' w' → K a' w') → wpList P ops (Exit.then K Q) [o] a w) :
    wpAnyM P md ops Q S N (fuel + 1) listed a w := by
  refine ⟨fun h0 => absurd (hr.symm.trans h0) hne, fun j hj => ?_⟩
  rw [hr] at hj
  obtain ⟨o, ho, h⟩ := h j hj
  have h := h (fun a' w' => (j < N → S w → S w') ∧ wpAnyM P md ops Q S N fuel (listed.setIfInBounds j true) a' w') (fun a' w' h1 h2 => ⟨fun _ _ => h1, h2⟩)
  unfold wpList at h
  unfold wpOp
  simp only [ho]
  by_cases hw : Region.wanted o (yielded ops a.tmps) = true
  · rw [if_pos hw] at h ⊢
    rcases h with h | ⟨h1, h2⟩
    · refine .inl ?_
      unfold Oper.wp at h ⊢
      generalize (execOp a.eval o).run P w = r at h ⊢
      cases r with
      | ok n w' =>
        cases n <;> simp only [Oper.upon, wpList, Exit.then] at h ⊢
        case value => exact h
        case skip => exact h
        case defer => exact h
        case enter =>
          refine Calls.mono h fun e w'' he => ?_
          cases e with
          | returned v => exact he
          | panicked c => exact he
          | outgrown => exact he
        case row => exact h
      | halt x w' => cases x <;> simp only [Oper.upon, Exit.then] at h ⊢ <;> exact h
    · exact .inr ⟨h1, h2⟩
  · rw [if_neg hw] at h ⊢
    exact h
end
end Go.Av

/-
  Routes in bytes: Put.
-/
namespace Go.Proofs.YtfncdgnhiinmjaaDoor
open Go.RowKit Go.Av Go.Maps Go.Sort

def keysM (S : RtS) : List Bs := (S.mv.map (·.1)).mergeSort fun x y => decide (x ≤ y)
def entM (S : RtS) (k : Bs) : Bs := textB k ++ packI ((lookM k S.mv).getD 0)
def bytesT (S : RtS) : Bs := ([S.n, S.ver, (S.mv.length : Int)].flatMap packI) ++ (keysM S).flatMap (entM S)
/-- Names that are short. -/
def RtSh (S : RtS) : Prop := S.mv.length ≤ 100 ∧ ∀ e ∈ S.mv, e.1.length ≤ 1000

/-- The same, its map by its name. -/
def RtM (w0 w : World) (t m : Nat) (S : RtS) (R : List Thing) (rows : List (Value × Bs)) : Prop := Sep w0 w (rtTh t m S ++ R) rows
section
variable {w0 w : World} {t m : Nat} {S : RtS} {R : List Thing} {rows : List (Value × Bs)}
theorem RtM.rt (h : RtM w0 w t m S R rows) : Rt w0 w t S R rows := ⟨m, h⟩
theorem RtM.keep (h : RtM w0 w t m S R rows) {w' : World} {D' : List Nat} (hu : Upd w w' [] D') : RtM w0 w' t m S R rows := Sep.keep h hu
theorem RtM.drew (h : RtM w0 w t m S R rows) : RtM w0 w.drew t m S R rows := h.keep (Upd.refl w []).drew
theorem RtM.side {A : List Thing} (h : RtM w0 w t m S (A ++ R) rows) : ∃ X, Sep w0 w (A ++ X) rows ∧ ∀ (w' : World) (A' : List Thing), Sep w0 w' (A' ++ X) rows → RtM w0 w' t m S (A' ++ R) rows := by
  have e : ∀ B : List Thing, (B ++ (rtTh t m S ++ R)).Perm (rtTh t m S ++ (B ++ R)) := fun B => List.perm_append_comm_assoc _ _ _
  exact ⟨_, Sep.perm h (e A).symm, fun w' A' hS' => hS'.perm (e A')⟩
theorem RtM.permR (h : RtM w0 w t m S R rows) {R' : List Thing} (hp : R.Perm R') : RtM w0 w t m S R' rows := Sep.perm h (List.Perm.append_left _ hp)
theorem RtM.addT {T : Thing} (h : RtM w0 w t m S R rows) {w' : World} {D' : List Nat} (hu : Upd w w' [] D') (hT : T.P w' D') : RtM w0 w' t m S (T :: R) rows := by
  obtain ⟨X, hS, hb⟩ := RtM.side (A := []) h
  exact hb _ [T] (hS.add hu hT)
theorem RtM.dropR {T : Thing} (h : RtM w0 w t m S (T :: R) rows) : RtM w0 w t m S R rows := by
  obtain ⟨X, hS, hb⟩ := RtM.side (A := [_]) h
  exact hb _ [] hS.drop
theorem RtM.row {v : Value} {xs : List Value} (h : RtM w0 w t m S (ThRow 1 v xs :: R) rows) : ∃ D, OwnRow w 1 v xs D := by
  obtain ⟨X, hS, -⟩ := RtM.side (A := [_]) h
  exact hS.fst
theorem RtM.blk (h : RtM w0 w t m S R rows) : w.heap[t]? = some (.cells #[.int .i64 S.n, .int .i64 S.ver, .map (some m)] 63 (0, 0)) :=
  Sep.block h (b := t) (o := .cells #[.int .i64 S.n, .int .i64 S.ver, .map (some m)] 63 (0, 0)) (by simp [rtTh])
theorem RtM.map (h : RtM w0 w t m S R rows) : MapIs w .string m (S.mv.map mkv) := by
  obtain ⟨E, hM, -⟩ := Sep.has h (T := ThMap .string m (S.mv.map mkv)) (by simp [rtTh])
  exact hM
theorem RtM.len (h : RtM w0 w t m S R rows) (ty : TypeId) : (Builtin.len_ #[61] ty #[.map (some m)]).run Tryd.prog w = .ok (.int .i64 S.mv.length) w := by
  have := mp_len (P := Tryd.prog) h.map Tryd.underlying61 ty
  simpa using this
theorem RtM.look (h : RtM w0 w t m S R rows) {k : ByteArray} {v : Int} (hv : lookM k.data.toList S.mv = some v) : (Instr.lookup 61 (.map (some m)) (.string k) false).run Tryd.prog w = .ok (.int .i64 v) w := by
  obtain ⟨l1, l2, he, -⟩ := lookM_some hv
  exact mp_look h.map Tryd.underlying61 Tryd.underlying9 (key := .string k) trivial (List.mem_map.2 ⟨(k.data.toList, v), by rw [he]; simp, rfl⟩) false
theorem RtM.packR {v : Value} {l : Bs} (h : RtM w0 w t m S (ThRow 1 v (l.map bv) :: R) rows) (x : Int) (hl : l.length ≤ 1073741824) :
    Calls Tryd.prog 38 #[v, .int .i64 x] w fun e w' => ∃ v', e = .returned v' ∧ RtM w0 w' t m S (ThRow 1 v' ((l ++ packI x).map bv) :: R) rows := by
  obtain ⟨X, hS, hb⟩ := RtM.side (A := [_]) h
  obtain ⟨D, hP⟩ := hS.fst
  obtain ⟨E, hE, -⟩ := OwnRow.read hP
  refine (pack_any v l E x w hE hl).mono ?_
  rintro e w' ⟨v', D', rfl, ho, hu⟩
  exact ⟨v', rfl, hb _ [_] (hS.drop.addRow ho hu)⟩
theorem RtM.textW {v : Value} {l : Bs} (h : RtM w0 w t m S (ThRow 1 v (l.map bv) :: R) rows) (s : ByteArray) (hl : l.length ≤ 1000000) (hs : s.size ≤ 1000000) :
    Calls Tryd.prog 39 #[v, .string s] w fun e w' => ∃ v', e = .returned v' ∧ RtM w0 w' t m S (ThRow 1 v' ((l ++ textB s.data.toList).map bv) :: R) rows := by
  obtain ⟨X, hS, hb⟩ := RtM.side (A := [_]) h
  obtain ⟨D, hP⟩ := hS.fst
  obtain ⟨E, hE, -⟩ := OwnRow.read hP
  refine (textW_any v l E s w hE hl hs).mono ?_
  rintro e w' ⟨v', D', rfl, ho, hu⟩
  exact ⟨v', rfl, hb _ [_] (hS.drop.addRow ho hu)⟩

theorem rt_keys (h : RtM w0 w t m S R rows) (hn : RtSh S) : 
    (Calls Tryd.prog 37 #[.map (some m)] w fun e w' => e = .returned (.func (.func 52) #[] #[.pointer (some ⟨w.heap.size, 0, none⟩)]) ∧ w' = w.alloc (.cells #[.map (some m)] 61)) ∧
    (Calls Tryd.prog 36 #[.func (.func 52) #[] #[.pointer (some ⟨w.heap.size, 0, none⟩)]] (w.alloc (.cells #[.map (some m)] 61)) fun e w' => ∃ v, e = .returned v ∧ RtM w0 w' t m S (ThRow 1 v ((keysM S).map sv) :: R) rows) := by
  have hM := h.map
  obtain ⟨D0, ho, hz, hp⟩ := owns_names (P := Tryd.prog) (k := 9) (l := S.mv.map fun e => ((⟨e.1.toArray⟩ : ByteArray), Value.int .i64 e.2)) (by rw [List.map_map]; exact hM) Tryd.underlying9 (by have := hn.1; simp; omega) (by
    intro x hx
    obtain ⟨e, he, rfl⟩ := List.mem_map.1 hx
    have := hn.2 e he
    show e.1.toArray.size ≤ _
    unfold maxLen
    simp; omega)
  rw [List.length_map] at hz
  have hsz := hn.1
  refine ⟨callsIn_wide.1 (Tryd.maps_Keys_37 (some m) w), ?_⟩
  refine (callsIn_wide.1 (Tryd.slices_Sorted_keys_36_37 m _ D0 noRead w ho (by rw [hz]; unfold maxLen; omega) (by rw [hz]; omega))).mono ?_
  rintro e w' ⟨v, ss, rfl, hS2, hrow, hnil, hb'⟩
  refine ⟨v, rfl, ?_⟩
  obtain ⟨D, hown, hD⟩ := own_of hrow
  have hk : ss.mergeSort (fun x y => decide (x ≤ y)) = keysM S := by
    unfold keysM
    refine mergeSort_of_perm (hS2.trans (hp.trans ?_))
    rw [List.map_map]
    exact List.Perm.refl _
  rw [hk] at hown
  have hu : Upd w w' [] [] := (Upd.alloc0 w _ []).trans (Upd.of_below hb')
  exact h.addT (T := ThRow 1 v ((keysM S).map sv)) (D' := D) ⟨hu.os, hu.tape, hu.output, hu.size, hu.keep, fun b hb2 => .inr ⟨by have := (hD b hb2).1; simp at this; omega, (hD b hb2).2⟩⟩ hown

theorem keysM_len (S : RtS) : (keysM S).length = S.mv.length := by unfold keysM; rw [List.length_mergeSort, List.length_map]
theorem keysM_in {S : RtS} {k : Bs} (h : k ∈ keysM S) : (∃ v, lookM k S.mv = some v) ∧ ∃ e ∈ S.mv, e.1 = k := by
  unfold keysM at h
  rw [List.mem_mergeSort] at h
  obtain ⟨e, he, rfl⟩ := List.mem_map.1 h
  refine ⟨?_, e, he, rfl⟩
  cases hl : lookM e.1 S.mv with
  | some v => exact ⟨v, rfl⟩
  | none => exact absurd rfl (lookM_none hl e he)
theorem entM_len (hn : RtSh S) {ks : List Bs} (h : ∀ k ∈ ks, k ∈ keysM S) : (ks.flatMap (entM S)).length ≤ 1016 * ks.length := by
  induction ks with
  | nil => simp
  | cons k ks ih =>
    obtain ⟨-, e, he, rfl⟩ := keysM_in (h k (by simp))
    have := hn.2 e he
    have ih := ih (fun k hk => h k (by simp [hk]))
    rw [List.flatMap_cons, List.length_append, List.length_cons]
    have hl : (entM S e.1).length = 16 + e.1.length := by
      unfold entM textB
      rw [List.length_append, List.length_append, packI_len, packI_len]
      omega
    omega
theorem ent_step (S : RtS) (b : Bs) (ks : List Bs) (p : Nat) (hp : p < ks.length) : b ++ (ks.take (p + 1)).flatMap (entM S) = (b ++ (ks.take p).flatMap (entM S)) ++ entM S ks[p] := by
  rw [List.take_succ_eq_append_getElem hp, List.flatMap_append]
  simp

set_option maxRecDepth 100000 in
set_option maxHeartbeats 8000000 in
theorem put_table (h : Rt w0 w t S R rows) (hn : RtSh S) :
    Calls Tryd.prog 20 #[.pointer (some ⟨t, 0, none⟩)] w fun e w' => ∃ v, e = .returned v ∧ Rt w0 w' t S (ThRow 1 v ((bytesT S).map bv) :: R) rows := by
  obtain ⟨m, h⟩ := h
  have h : RtM w0 w t m S R rows := h
  have hb := h.blk
  have c0 := cell_of hb 0 rfl
  have c1 := cell_of hb 1 rfl
  have c2 : w.cell? ⟨t, 2, none⟩ = some (.map (some m)) := cell_of hb 2 rfl
  obtain ⟨n, hnn⟩ : ∃ n, S.n = n := ⟨_, rfl⟩
  obtain ⟨ver, hvv⟩ : ∃ ver, S.ver = ver := ⟨_, rfl⟩
  rw [show (#[Value.int .i64 S.n, .int .i64 S.ver, .map (some m)] : Array Value)[0] = .int .i64 n by rw [hnn]; rfl] at c0
  rw [show (#[Value.int .i64 S.n, .int .i64 S.ver, .map (some m)] : Array Value)[1] = .int .i64 ver by rw [hvv]; rfl] at c1
  have h0 := h.drew
  have kl := h0.len 3
  have hu1 := Upd.alloc0 w.drew (.cells #[.int .i64 n, .int .i64 ver, .int .i64 (S.mv.length : Int)] 2 (0, 0)) []
  have h1 := h0.keep hu1
  have q1 : ReadRow (w.drew.alloc (.cells #[.int .i64 n, .int .i64 ver, .int .i64 (S.mv.length : Int)] 2 (0, 0))) 1 (.slice (some ⟨w.drew.heap.size, 0, none⟩) 3 3) ([n, ver, (S.mv.length : Int)].map ivn) [w.drew.heap.size] :=
    ⟨_, 3, 3, rfl, rfl, Nat.le_refl _, by decide, by simp, .inr ⟨w.drew.heap.size, 0, rfl, rfl, by simp, fun i x hx => by
      rw [cell_of_row _ w.drew.heap.size (0 + i) _ _ _ (heap_alloc_new w.drew _)]
      simpa [ivn] using hx⟩⟩
  have HA := Lib.hid (all_any (.slice none 0 0) _ [] [n, ver, (S.mv.length : Int)] [] _ _ ⟨none, 0, 0, rfl, by simp, Nat.le_refl _, by decide, fun _ => rfl, .inl ⟨by simp, rfl⟩⟩ q1 (by simp) (by simp))
  have HP := Lib.hid (show _ ∧ _ ∧ _ from ⟨h1, hu1, hn⟩)
  have HV := Lib.hid (show _ ∧ _ from ⟨hnn, hvv⟩)
  clear h h0 h1 hb hn hnn hvv hu1 q1
  go_enter Tryd.func20, Tryd.ntmps20
  go_wp2_with fail
  refine wp_region_M (fun W => W.cell? ⟨t, 0, none⟩ = some (.int .i64 n) ∧ W.cell? ⟨t, 1, none⟩ = some (.int .i64 ver) ∧ W.cell? ⟨t, 2, none⟩ = some (.map (some m))) 15 (by kernel_rfl) ?_
  refine wpAnyM_take (by kernel_rfl) (by intro c a d v w h; cases d <;> exact h) [(0, false), (1, false), (2, false), (3, true), (4, false), (5, false), (6, false), (7, true), (8, false), (9, false), (10, false), (11, true)] (fuel := 4) (by kernel_rfl) ?_
  apply Exists.intro; refine ⟨?_, ⟨c0, c1, c2⟩, ?_⟩
  · iterate 12 ((first | (apply yieldN; (· (simp only [List.getElem?_toArray, List.getElem?_cons_succ, List.getElem?_cons_zero]; try rfl)); (· rfl)) | ((first | apply yieldP | apply yieldL); (· (simp only [List.getElem?_toArray, List.getElem?_cons_succ, List.getElem?_cons_zero]; try rfl)); (· rfl); (· (intros; go_simp; try with_reducible rfl)))); (· (simp only [Act.put, List.setIfInBounds_toArray, List.set_cons_zero, List.set_cons_succ]; try rfl)))
    exact rfl
  refine wpAnyM_one (fuel := 3) (i := 12) (by kernel_rfl) (by rfl) (fun K hK => ?_)
  go_wp2_with fail
  refine hK _ _ ⟨c0, c1, c2⟩ ?_
  clear hK
  refine wpAnyM_one (fuel := 2) (i := 13) (by kernel_rfl) (by rfl) (fun K hK => ?_)    -- buildSlice
  go_wp2_with fail
  refine hK _ _ ⟨upd_cell HP.out.2.1 (show w.drew.cell? _ = _ from c0), upd_cell HP.out.2.1 (show w.drew.cell? _ = _ from c1), upd_cell HP.out.2.1 (show w.drew.cell? _ = _ from c2)⟩ ?_
  clear hK
  refine wpAnyM_one (fuel := 1) (i := 14) (by kernel_rfl) (by rfl) (fun K hK => ?_)    -- CALL
  go_wp2_with fail
  refine HA.out.mono ?_
  rintro e w3 ⟨v3, D3, rfl, ho3, hu3⟩
  rw [List.nil_append] at ho3
  have h3 := HP.out.1.addT (T := ThRow 1 v3 (([n, ver, (S.mv.length : Int)].flatMap packI).map bv)) hu3 ho3
  have k30 := upd_cell hu3 (upd_cell HP.out.2.1 (show w.drew.cell? _ = _ from c0))
  have k31 := upd_cell hu3 (upd_cell HP.out.2.1 (show w.drew.cell? _ = _ from c1))
  have k3 := upd_cell hu3 (upd_cell HP.out.2.1 (show w.drew.cell? _ = _ from c2))
  obtain ⟨hK1, hSo⟩ := rt_keys h3 HP.out.2.2
  have HK := Lib.hid hK1
  have HS := Lib.hid hSo
  have HSH := Lib.hid HP.out.2.2
  clear h3 ho3 hu3 HA HP kl hK1 hSo c0 c1 c2
  go_wp2_with fail
  refine hK _ _ ⟨k30, k31, k3⟩ ?_
  clear hK k30 k31
  refine wpAnyM_of_any _ _ _ _ (by decide) ?_
  refine wpAny_list [15] (fuel := 0) (by kernel_rfl) ?_
  simp only [List.filterMap_cons, List.filterMap_nil, List.getElem?_toArray, List.getElem?_cons_succ, List.getElem?_cons_zero]
  go_wp2_with fail
  refine HK.out.mono ?_
  rintro e w4 ⟨rfl, rfl⟩
  go_wp2_with fail
  refine HS.out.mono ?_
  rintro e w5 ⟨vk, rfl, h5⟩
  obtain ⟨D, ho⟩ := h5.row
  obtain ⟨ak, nk, ck, rfl, hlk, hnk, hck, -⟩ := _root_.id ho
  rw [List.length_map, Nat.mul_one] at hlk
  subst hlk
  unfold maxLen at hck
  obtain ⟨hdr, hhd⟩ : ∃ hdr, [n, ver, (S.mv.length : Int)].flatMap packI = hdr := ⟨_, rfl⟩
  have hhl : hdr.length = 24 := by rw [← hhd]; rfl
  rw [hhd] at h5
  have HHD := Lib.hid (show hdr = [S.n, S.ver, (S.mv.length : Int)].flatMap packI by rw [HV.out.1, HV.out.2, hhd])
  have HC := Lib.hid (h5.permR (List.Perm.swap _ _ _))
  have hkl := keysM_len S
  have hkm : (keysM S).length ≤ 100 := by rw [hkl]; exact HSH.out.1
  clear h5 ho HK HS k3 hhd hkl
  go_wp2_with fail
  go_loopg [3, 28] (keysM S).length (fun k vb vi wr => ∃ p : Nat, p ≤ (keysM S).length ∧ k = (keysM S).length - p ∧ vi = .int .i64 (p : Int) ∧ RtM w0 wr t m S (ThRow 1 vb ((hdr ++ ((keysM S).take p).flatMap (entM S)).map bv) :: ThRow 1 (.slice ak (keysM S).length ck) ((keysM S).map sv) :: R) rows)
  case atStart => exact ⟨0, Nat.zero_le _, rfl, rfl, by simpa using HC.out⟩
  case round =>
    obtain ⟨p, hp, hk, hv, hC⟩ := hrel
    subst hv
    clear HC
    by_cases hlt : p < (keysM S).length
    case neg =>
      obtain rfl : p = (keysM S).length := by omega
      rw [List.take_length] at hC
      have HC2 := Lib.hid (hC.permR (List.Perm.swap _ _ _)).dropR
      clear hC
      go_wp2_with fail
      go_ret
      refine ⟨_, rfl, ?_⟩
      have := HC2.out.rt
      rw [HHD.out] at this
      exact this
    have hst := ent_step S hdr (keysM S) p hlt
    have hkp : (keysM S)[p] ∈ keysM S := List.getElem_mem hlt
    obtain ⟨⟨v, hlv⟩, e0, he0, hek⟩ := keysM_in hkp
    have hks := HSH.out.2 e0 he0
    rw [hek] at hks
    have hbl : (hdr ++ ((keysM S).take p).flatMap (entM S)).length ≤ 110000 := by
      have := entM_len HSH.out (ks := (keysM S).take p) (fun k hk => List.mem_of_mem_take hk)
      rw [List.length_take] at this
      rw [List.length_append, hhl]
      omega
    obtain ⟨D2, ho2⟩ := (hC.permR (List.Perm.swap _ _ _)).row
    obtain ⟨y, rfl, hys, hcy⟩ := ownCell ho2 (i := p) (x := sv (keysM S)[p]) (by rw [List.getElem?_map, List.getElem?_eq_getElem hlt]; rfl)
    obtain ⟨kx, hkx⟩ : ∃ kx, (keysM S)[p] = kx := ⟨_, rfl⟩
    rw [hkx] at hst hlv hks hcy
    obtain ⟨kb, hkb⟩ : ∃ kb : ByteArray, kb = ⟨kx.toArray⟩ := ⟨_, rfl⟩
    have hkb2 : kb.data.toList = kx := by rw [hkb]
    have hkbs : kb.size ≤ 1000 := by rw [hkb]; show kx.toArray.size ≤ _; simpa using hks
    unfold sv at hcy
    rw [← hkb] at hcy
    have hen : entM S kx = textB kb.data.toList ++ packI v := by unfold entM; rw [hlv, hkb2]; rfl
    rw [hen] at hst
    obtain ⟨pre, hpre⟩ : ∃ pre, hdr ++ ((keysM S).take p).flatMap (entM S) = pre := ⟨_, rfl⟩
    rw [hpre] at hst hbl hC
    rw [← hkb2] at hlv
    have k2 : wr.cell? ⟨t, 2, none⟩ = some (.map (some m)) := cell_of hC.blk 2 rfl
    have HT := Lib.hid (hC.drew.textW kb (by omega) (by omega))
    have HLK := Lib.hid (hC.drew.look hlv)
    have HST := Lib.hid (show _ ∧ _ ∧ _ from ⟨hst, hbl, hlv⟩)
    have HTL := Lib.hid (show textB kb.data.toList = textB kx by rw [hkb2])
    have htl : (textB kb.data.toList).length ≤ 1008 := by
      unfold textB; rw [List.length_append, packI_len]
      have : kb.data.toList.length = kb.size := by simp
      omega
    clear hC hst hbl hlv hkp he0 hek ho2 hkx hkb hkb2 hpre hen
    go_wp2_with fail
    refine wp_region_M (fun W => W.cell? ⟨t, 2, none⟩ = some (.map (some m))) 10 (by kernel_rfl) ?_
    refine wpAnyM_take (by kernel_rfl) (by intro c a d v w h; cases d <;> exact h) [(0, false), (1, false), (3, false), (4, false), (5, false), (6, true), (7, false)] (fuel := 4) (by kernel_rfl) ?_
    apply Exists.intro; refine ⟨?_, k2, ?_⟩
    · iterate 7 ((first | (apply yieldN; (· (simp only [List.getElem?_toArray, List.getElem?_cons_succ, List.getElem?_cons_zero]; try rfl)); (· rfl)) | ((first | apply yieldP | apply yieldL); (· (simp only [List.getElem?_toArray, List.getElem?_cons_succ, List.getElem?_cons_zero]; try rfl)); (· rfl); (· (intros; go_simp; try with_reducible rfl)))); (· (simp only [Act.put, List.setIfInBounds_toArray, List.set_cons_zero, List.set_cons_succ]; try rfl)))
      exact rfl
    refine wpAnyM_each (fuel := 3) [2, 8] (by kernel_rfl) (by simp) (fun i hi => ?_)
    simp only [List.mem_cons, List.not_mem_nil, or_false] at hi
    rcases hi with rfl | rfl
    case' inl =>
      refine ⟨_, by rfl, fun K hK => ?_⟩
      go_wp2_with fail
      refine HT.out.mono ?_
      rintro e w6 ⟨v6, rfl, h6⟩
      have k6 : w6.cell? ⟨t, 2, none⟩ = some (.map (some m)) := cell_of h6.blk 2 rfl
      have hlk6 := h6.look HST.out.2.2
      have H6 := Lib.hid h6
      clear h6 HT
      go_wp2_with fail
      refine hK _ _ k6 ?_
      clear hK
      refine wpAnyM_one (fuel := 2) (i := 8) (by kernel_rfl) (by rfl) (fun K hK => ?_)
      go_wp2_with fail
      refine hK _ _ k6 ?_
      clear hK
    case' inr =>
      refine ⟨_, by rfl, fun K hK => ?_⟩
      have hlk6 := HLK.out
      go_wp2_with fail
      refine hK _ _ k2 ?_
      clear hK hlk6
      refine wpAnyM_one (fuel := 2) (i := 2) (by kernel_rfl) (by rfl) (fun K hK => ?_)
      go_wp2_with fail
      refine HT.out.mono ?_
      rintro e w6 ⟨v6, rfl, h6⟩
      have k6 : w6.cell? ⟨t, 2, none⟩ = some (.map (some m)) := cell_of h6.blk 2 rfl
      have hlk6 := h6.look HST.out.2.2
      have H6 := Lib.hid h6
      clear h6 HT
      go_wp2_with fail
      refine hK _ _ k6 ?_
      clear hK
    all_goals
      clear hlk6
      refine wpAnyM_one (fuel := 1) (i := 9) (by kernel_rfl) (by rfl) (fun K hK => ?_)
      go_wp2_with fail
      refine (H6.out.packR v (by have := HST.out.2.1; rw [List.length_append]; omega)).mono ?_
      rintro e w7 ⟨v7, rfl, h7⟩
      have k7 : w7.cell? ⟨t, 2, none⟩ = some (.map (some m)) := cell_of h7.blk 2 rfl
      have H7 := Lib.hid h7
      clear h7 H6
      go_wp2_with fail
      refine hK _ _ k7 ?_
      clear hK
      refine wpAnyM_of_any _ _ _ _ (by decide) ?_
      refine wpAny_list [10] (fuel := 0) (by kernel_rfl) ?_
      simp only [List.filterMap_cons, List.filterMap_nil, List.getElem?_toArray, List.getElem?_cons_succ, List.getElem?_cons_zero]
      go_wp2_with fail
      go_roundg ((keysM S).length - (p + 1))
      case rel =>
        refine ⟨p + 1, by omega, rfl, by go_num, ?_⟩
        rw [HST.out.1, ← List.append_assoc]
        exact H7.out
      case measure => omega
end
end Go.Proofs.YtfncdgnhiinmjaaDoor

/-
  Routes in bytes: Get.
-/
namespace Go.Proofs.YtfncdgnhiinmjaaDoor
open Go.RowKit Go.Av

def getTN : Nat → Bs → Rd → RtS → Option (RtS × Rd)
  | 0, _, d, S => some (S, d)
  | n + 1, last, d, S => if (textR 40 d).1 ≤ last then none else
      if (moveS S (textR 40 d).1 (cntR 4 (textR 40 d).2).1).1 ≠ 0 then none else getTN n (textR 40 d).1 (cntR 4 (textR 40 d).2).2 (moveS S (textR 40 d).1 (cntR 4 (textR 40 d).2).1).2
def endT (v : Int) (o : Option (RtS × Rd)) : Option RtS := match o with
  | none => none
  | some (S, d) => if (!(!d.2 && d.1.isEmpty) || decide (v < S.ver) || decide (1099511627776 < v) || (((S.mv.length : Int) == 0) && (v != 1))) = true then none else some { S with ver := v }
def getT (b : Bs) : Option RtS :=
  if (cntR 4 (b, false)).1 < 1 then none else
    endT (i64R (cntR 4 (b, false)).2).1 (getTN (cntR 50 (i64R (cntR 4 (b, false)).2).2).1.toNat [] (cntR 50 (i64R (cntR 4 (b, false)).2).2).2 ⟨(cntR 4 (b, false)).1, 1, []⟩)

theorem str_le (a b : ByteArray) : a.data.toList ≤ b.data.toList ↔ (Op.bytesLess a.toList b.toList = true ∨ (a.toList == b.toList) = true) := by
  rw [bytesLess_eq, decide_eq_true_eq, Lib.toList_data, Lib.toList_data, beq_iff_eq]
  constructor
  · intro h
    by_cases h1 : a.data.toList < b.data.toList
    · exact .inl h1
    · exact .inr (List.le_antisymm h h1)
  · rintro (h | h)
    · exact List.le_of_lt h
    · rw [h]; exact List.le_refl _
theorem textR_len (most : Int) (h : 0 ≤ most) (d : Rd) : ((textR most d).1.length : Int) ≤ most := by
  have hb := cntR_bd h d
  unfold textR
  split
  · simpa using h
  · rw [List.length_take]; omega

section
variable {w0 w : World} {t r : Nat} {S : RtS} {d : Rd} {R : List Thing} {rows : List (Value × Bs)}
theorem Rt.rdI64 (h : Rt w0 w t S (ThRdr r d :: R) rows) :
    Calls Tryd.prog 32 #[.pointer (some ⟨r, 0, none⟩)] w fun e w' => e = .returned (.int .i64 (i64R d).1) ∧ Rt w0 w' t S (ThRdr r (i64R d).2 :: R) rows := by
  obtain ⟨X, hS, hb⟩ := Rt.side (A := [_]) h
  refine (rdrSep_i64 hS).mono ?_
  rintro e w' ⟨rfl, h'⟩
  exact ⟨rfl, hb _ [_] h'⟩
theorem Rt.rdCount (h : Rt w0 w t S (ThRdr r d :: R) rows) (most : Int) (hm : 0 ≤ most) :
    Calls Tryd.prog 31 #[.pointer (some ⟨r, 0, none⟩), .int .i64 most] w fun e w' => e = .returned (.int .i64 (cntR most d).1) ∧ Rt w0 w' t S (ThRdr r (cntR most d).2 :: R) rows := by
  obtain ⟨X, hS, hb⟩ := Rt.side (A := [_]) h
  refine (rdrSep_count hS most hm).mono ?_
  rintro e w' ⟨rfl, h'⟩
  exact ⟨rfl, hb _ [_] h'⟩
theorem Rt.rdText (h : Rt w0 w t S (ThRdr r d :: R) rows) (most : Int) (hm : 0 ≤ most) :
    Calls Tryd.prog 33 #[.pointer (some ⟨r, 0, none⟩), .int .i64 most] w fun e w' => e = .returned (sv (textR most d).1) ∧ Rt w0 w' t S (ThRdr r (textR most d).2 :: R) rows := by
  obtain ⟨X, hS, hb⟩ := Rt.side (A := [_]) h
  refine (rdrSep_text hS most hm).mono ?_
  rintro e w' ⟨rfl, h'⟩
  exact ⟨rfl, hb _ [_] h'⟩
theorem Rt.rdEnd (h : Rt w0 w t S (ThRdr r d :: R) rows) :
    Calls Tryd.prog 34 #[.pointer (some ⟨r, 0, none⟩)] w fun e w' => e = .returned (.bool (!d.2 && d.1.isEmpty)) ∧ w' = w := by
  obtain ⟨X, hS, hb⟩ := Rt.side (A := [_]) h
  exact rdrSep_end hS
theorem Rt.dropR {T : Thing} (h : Rt w0 w t S (T :: R) rows) : Rt w0 w t S R rows := by
  obtain ⟨X, hS, hb⟩ := Rt.side (A := [_]) h
  exact hb _ [] hS.drop
theorem Rt.out (h : Rt w0 w t S R rows) : Sep w0 w R rows := by
  obtain ⟨m, hS⟩ := h
  exact hS.drop.drop

def GetTPost (w0 : World) (R : List Thing) (rows : List (Value × Bs)) (o : Option RtS) (e : Ending) (w' : World) : Prop :=
  match o with
  | none => e = .returned (.tuple #[.pointer none, .int .i64 3]) ∧ Sep w0 w' R rows
  | some S => ∃ t, e = .returned (.tuple #[.pointer (some ⟨t, 0, none⟩), .int .i64 0]) ∧ Rt w0 w' t S R rows

set_option maxRecDepth 100000 in
set_option maxHeartbeats 8000000 in
theorem get_table (h : Sep w0 w R rows) (hd : Door w0) (v : Value) (l : Bs) (hv : (v, l) ∈ rows) (hl : l.length ≤ 1073741824) : Calls Tryd.prog 18 #[v] w (GetTPost w0 R rows (getT l)) := by
  obtain ⟨E, hE⟩ := h.get hv
  have HR := Lib.hid (rdr_new v l E w hE hl)
  have H := Lib.hid h
  have HD := Lib.hid hd
  clear h hE hv hl hd
  have hgt : getT l = getT l := rfl
  conv at hgt => rhs; unfold getT
  have hb4 := cntR_bd (most := 4) (by decide) (l, false)
  obtain ⟨q, hq⟩ : ∃ q, cntR 4 (l, false) = q := ⟨_, rfl⟩
  simp only [hq] at hgt
  rw [hq] at hb4
  obtain ⟨n, d0⟩ := q
  obtain ⟨q2, hq2⟩ : ∃ q, i64R d0 = q := ⟨_, rfl⟩
  simp only [hq2] at hgt
  obtain ⟨ver, d1⟩ := q2
  have hb5 := cntR_bd (most := 50) (by decide) d1
  obtain ⟨q3, hq3⟩ : ∃ q, cntR 50 d1 = q := ⟨_, rfl⟩
  dsimp only at hgt hb4
  simp only [hq3] at hgt
  rw [hq3] at hb5
  obtain ⟨cN, d2⟩ := q3
  dsimp only at hgt hb5
  obtain ⟨N, rfl⟩ : ∃ N : Nat, cN = N := ⟨cN.toNat, by omega⟩
  rw [Int.toNat_natCast] at hgt
  have HQ := Lib.hid (show _ ∧ _ ∧ _ from ⟨hq, hq2, hq3⟩)
  obtain ⟨gt, hgt2⟩ : ∃ gt, getT l = gt := ⟨_, rfl⟩
  rw [hgt2] at hgt ⊢
  clear hq hq2 hq3 hgt2
  have HG := Lib.hid hgt
  clear hgt
  go_enter Tryd.func18, Tryd.ntmps18
  go_wp2_with fail
  refine HR.out.mono ?_
  rintro e w1 ⟨r, D, rfl, hr, hu⟩
  have h1 := H.out.add (T := ThRdr r (l, false)) hu hr
  have hct := rdrSep_count h1 4 (by decide)
  rw [HQ.out.1] at hct
  have HC := Lib.hid hct
  clear h1 hct hr hu HR H
  go_wp2_with fail
  refine HC.out.mono ?_
  rintro e w2 ⟨rfl, h2⟩
  clear HC
  by_cases hn1 : n < 1
  · have HN := Lib.hid (rt_new_no w2 n (.inl hn1))
    have H2 := Lib.hid h2.drop
    have HGG := Lib.hid (show gt = none by rw [HG.out, if_pos hn1])
    clear h2
    go_wp2_with fail
    refine HN.out.mono ?_
    rintro e w3 ⟨rfl, hW⟩
    subst w3
    go_wp2_with fail
    go_ret2
    rw [HGG.out]
    exact ⟨rfl, H2.out⟩
  have hgt := HG.out
  rw [if_neg hn1] at hgt
  have HG := Lib.hid hgt
  have HN := Lib.hid (rt_new h2 n (by omega) hb4.2)
  clear h2 hgt
  go_wp2_with fail
  refine HN.out.mono ?_
  rintro e w3 ⟨t, rfl, h3⟩
  have hI := h3.rdI64
  rw [HQ.out.2.1] at hI
  have HI := Lib.hid hI
  clear h3 hI HN
  go_wp2_with fail
  refine HI.out.mono ?_
  rintro e w4 ⟨rfl, h4⟩
  have hct := h4.rdCount 50 (by decide)
  rw [HQ.out.2.2] at hct
  have HC := Lib.hid hct
  clear h4 hct HI
  go_wp2_with fail
  refine HC.out.mono ?_
  rintro e w5 ⟨rfl, h5⟩
  have H5 := Lib.hid h5
  clear h5 HC
  go_wp2_with fail
  go_loopg [8, 24] N (fun k vl vi wr => ∃ (j : Nat) (S : RtS) (last : ByteArray) (d : Rd), j ≤ N ∧ k = N - j ∧ vi = .int .i64 (j : Int) ∧ vl = .string last ∧ Rt w0 wr t S (ThRdr r d :: R) rows ∧
    getTN N [] d2 ⟨n, 1, []⟩ = getTN (N - j) last.data.toList d S ∧ S.n = n ∧ 1 ≤ S.ver ∧ S.ver ≤ 1 + j)
  case atStart => exact ⟨0, _, ⟨#[]⟩, d2, Nat.zero_le _, rfl, rfl, rfl, H5.out, rfl, rfl, by simp, by simp⟩
  case round =>
    obtain ⟨j, S, last, d, hj, hk, hvi, hvl, hC, hg, hSn, hv1, hv2⟩ := hrel
    subst hvi hvl
    clear H5
    by_cases hlt : j < N
    case neg =>
      obtain rfl : j = N := by omega
      rw [Nat.sub_self] at hg
      have hE := hC.rdEnd
      obtain ⟨eb, heb⟩ : ∃ eb, (!d.2 && d.1.isEmpty) = eb := ⟨_, rfl⟩
      rw [heb] at hE
      have hge : gt = if (!eb || decide (ver < S.ver) || decide (1099511627776 < ver) || (((S.mv.length : Int) == 0) && (ver != 1))) = true then none else some { S with ver := ver } := by
        rw [HG.out, hg]
        show endT ver (some (S, d)) = _
        unfold endT
        dsimp only
        rw [heb]
      obtain ⟨m, hb, -, -, hlen⟩ := hC.facts
      have k1 := cell_of hb 1 rfl
      have k2 := cell_of hb 2 rfl
      obtain ⟨sv0, hsv0⟩ : ∃ z, S.ver = z := ⟨_, rfl⟩
      rw [show (#[Value.int .i64 S.n, .int .i64 S.ver, .map (some m)] : Array Value)[1] = .int .i64 sv0 by rw [hsv0]; rfl] at k1
      rw [show (#[Value.int .i64 S.n, .int .i64 S.ver, .map (some m)] : Array Value)[2] = .map (some m) from rfl] at k2
      have hlen := fun ty => hlen ty wr rfl
      have y1 := frz_of hb 1
      rw [hsv0] at hge
      have HX := Lib.hid (show _ ∧ _ from ⟨hC.out.drop, hC.ver ver⟩)
      have HGE := Lib.hid hge
      have HE := Lib.hid hE
      clear hC hg hge hE heb hb hsv0 hv1 hv2
      cases eb with
      | false =>
        go_wp2_with fail
        refine HE.out.mono ?_
        rintro e w6 ⟨rfl, hW⟩
        subst w6
        go_wp2_with fail
        go_ret2
        rw [HGE.out, if_pos (by simp)]
        exact ⟨rfl, HX.out.1⟩
      | true =>
      by_cases h1 : ver < sv0
      · go_wp2_with fail
        refine HE.out.mono ?_
        rintro e w6 ⟨rfl, hW⟩
        subst w6
        go_wp2_with fail
        go_ret2
        rw [HGE.out, if_pos (by simp [h1])]
        exact ⟨rfl, HX.out.1⟩
      by_cases h2 : 1099511627776 < ver
      · go_wp2_with fail
        refine HE.out.mono ?_
        rintro e w6 ⟨rfl, hW⟩
        subst w6
        go_wp2_with fail
        go_ret2
        rw [HGE.out, if_pos (by simp [h2])]
        exact ⟨rfl, HX.out.1⟩
      cases h3 : ((S.mv.length : Int) == 0) with
      | false =>
        have H3 := Lib.hid h3
        go_wp2_with fail
        refine HE.out.mono ?_
        rintro e w6 ⟨rfl, hW⟩
        subst w6
        go_wp2_with fail
        go_ret2
        rw [HGE.out, H3.out, if_neg (by simp; omega)]
        exact ⟨t, rfl, Rt.dropR HX.out.2⟩
      | true =>
      have H3 := Lib.hid h3
      by_cases h4 : ver = 1
      · have h4b : (ver != 1) = false := by simp [h4]
        have H4 := Lib.hid h4b
        clear h4
        go_wp2_with fail
        refine HE.out.mono ?_
        rintro e w6 ⟨rfl, hW⟩
        subst w6
        go_wp2_with fail
        go_ret2
        rw [HGE.out, H3.out, H4.out, if_neg (by simp; omega)]
        exact ⟨t, rfl, Rt.dropR HX.out.2⟩
      · have h4b : (ver != 1) = true := by simp [h4]
        have H4 := Lib.hid h4b
        clear h4
        go_wp2_with fail
        refine HE.out.mono ?_
        rintro e w6 ⟨rfl, hW⟩
        subst w6
        go_wp2_with fail
        go_ret2
        rw [HGE.out, H3.out, H4.out, if_pos (by simp)]
        exact ⟨rfl, HX.out.1⟩
    have hg2 : N - j = (N - (j + 1)) + 1 := by omega
    rw [hg2] at hg
    conv at hg => rhs; unfold getTN
    have htl := textR_len 40 (by decide) d
    have htx := hC.rdText 40 (by decide)
    obtain ⟨q, hq⟩ : ∃ q, textR 40 d = q := ⟨_, rfl⟩
    simp only [hq] at hg
    rw [hq] at htl htx
    obtain ⟨s, da⟩ := q
    dsimp only at hg htl htx
    obtain ⟨q2, hq2⟩ : ∃ q, cntR 4 da = q := ⟨_, rfl⟩
    simp only [hq2] at hg
    obtain ⟨c, db⟩ := q2
    dsimp only at hg
    have HTX := Lib.hid htx
    have HQ2 := Lib.hid hq2
    have HG2 := Lib.hid (show _ ∧ _ from ⟨hg, hSn⟩)
    obtain ⟨sb, hsb⟩ : ∃ sb : ByteArray, sb = ⟨s.toArray⟩ := ⟨_, rfl⟩
    have hsb2 : sb.data.toList = s := by rw [hsb]
    have hsz : sb.size ≤ 1000 := by rw [hsb]; show s.toArray.size ≤ _; simp; omega
    have hsvb : sv s = .string sb := by rw [hsb]; rfl
    rw [hsvb] at HTX
    rw [← hsb2] at HG2
    clear hC hq hq2 hg htl htx hsb hSn hsvb
    go_wp2_with fail
    refine HTX.out.mono ?_
    rintro e w6 ⟨rfl, h6⟩
    have hct := h6.rdCount 4 (by decide)
    rw [HQ2.out] at hct
    have HC := Lib.hid hct
    have H6 := Lib.hid h6
    clear h6 hct HTX
    have hiff := str_le sb last
    cases hl1 : Op.bytesLess sb.toList last.toList with
    | true =>
      have HGN := Lib.hid (show gt = none by rw [HG.out, HG2.out.1, if_pos (hiff.2 (.inl hl1))]; rfl)
      clear hiff
      go_wp2_with fail
      go_ret2
      rw [HGN.out]
      exact ⟨rfl, H6.out.out.drop⟩
    | false =>
    cases hl2 : (sb.toList == last.toList) with
    | true =>
      have HGN := Lib.hid (show gt = none by rw [HG.out, HG2.out.1, if_pos (hiff.2 (.inr hl2))]; rfl)
      clear hiff
      go_wp2_with fail
      go_ret2
      rw [HGN.out]
      exact ⟨rfl, H6.out.out.drop⟩
    | false =>
    have hg3 := HG2.out.1
    rw [if_neg (fun h => by
      rcases hiff.1 h with h | h
      · rw [hl1] at h; cases h
      · rw [hl2] at h; cases h)] at hg3
    have HG3 := Lib.hid (show _ ∧ _ from ⟨hg3, HG2.out.2⟩)
    clear hiff hg3 HG2 H6
    go_wp2_with fail
    refine HC.out.mono ?_
    rintro e w7 ⟨rfl, h7⟩
    have hmv := move_any h7 HD.out sb c (by omega) (by omega) (by omega)
    obtain ⟨m1, m2, m3⟩ := move_n S sb.data.toList c
    rw [HG3.out.2] at m1
    have HMV := Lib.hid hmv
    have HM1 := Lib.hid m1
    clear h7 hmv m1 HC
    by_cases hz : (moveS S sb.data.toList c).1 = 0
    · have hg4 := HG3.out.1
      rw [if_neg (fun h => h hz)] at hg4
      have HG4 := Lib.hid hg4
      rw [hz] at HMV
      clear hg4 hz HG3
      obtain ⟨S2, hS2⟩ : ∃ z, (moveS S sb.data.toList c).2 = z := ⟨_, rfl⟩
      rw [hS2] at HMV HM1 m2 m3
      rw [hS2] at HG4
      clear hS2
      go_wp2_with fail
      refine HMV.out.mono ?_
      rintro e w8 ⟨rfl, h8⟩
      have H8 := Lib.hid h8
      clear h8 HMV
      go_wp2_with fail
      go_roundg (N - (j + 1))
      case rel => exact ⟨j + 1, S2, sb, db, by omega, rfl, by go_num, rfl, H8.out, HG4.out, HM1.out, by omega, by omega⟩
      case measure => omega
    · have HGN := Lib.hid (show gt = none by rw [HG.out, HG3.out.1, if_pos hz]; rfl)
      have hS := move_no hz
      rw [hS] at HMV
      obtain ⟨er, her⟩ : ∃ er, (moveS S sb.data.toList c).1 = er := ⟨_, rfl⟩
      rw [her] at HMV hz
      have hbz : (er != 0) = true := by simp [hz]
      clear hS her m2 m3 HM1 hz
      go_wp2_with fail
      refine HMV.out.mono ?_
      rintro e w8 ⟨rfl, h8⟩
      have H8 := Lib.hid h8
      clear h8 HMV
      go_wp2_with fail
      go_ret2
      rw [HGN.out]
      exact ⟨rfl, H8.out.out.drop⟩
end
end Go.Proofs.YtfncdgnhiinmjaaDoor

/-
  Routes in bytes, in plain words: what is written is read as it was.
-/
namespace Go.Proofs.YtfncdgnhiinmjaaDoor
open Go.RowKit Go.Av

/-- What moves keep of a table. -/
structure RtInv (S : RtS) : Prop where
  ok : RtOK S
  nodup : (S.mv.map (·.1)).Nodup
  names : ∀ e ∈ S.mv, topP (47 :: e.1) = e.1 ∧ e.1 ≠ []
  most : S.mv.length ≤ 50
  ver : 1 + (S.mv.length : Int) ≤ S.ver
  one : S.mv.length = 0 → S.ver = 1

theorem setM_keys (k : Bs) (v : Int) (l : List (Bs × Int)) : (setM k v l).map (·.1) = match lookM k l with | some _ => l.map (·.1) | none => l.map (·.1) ++ [k] := by
  unfold setM
  cases hl : lookM k l with
  | some v0 =>
    dsimp only
    rw [List.map_map]
    refine List.map_congr_left fun e _ => ?_
    simp only [Function.comp]
    split <;> rfl
  | none => simp
theorem setM_len (k : Bs) (v : Int) (l : List (Bs × Int)) : (setM k v l).length = match lookM k l with | some _ => l.length | none => l.length + 1 := by
  have := congrArg List.length (setM_keys k v l)
  rw [List.length_map] at this
  rw [this]
  split <;> simp
theorem inv_move {S : RtS} (h : RtInv S) (top : Bs) (sh : Int) : RtInv (moveS S top sh).2 := by
  by_cases hz : (moveS S top sh).1 = 0
  case neg => rw [move_no hz]; exact h
  have hok := move_okS h.ok top sh
  obtain ⟨hb, hS⟩ := move_ok hz
  obtain ⟨b1, b2, b3, b4⟩ := badM_false hb
  have hlim : ¬ (lookM top S.mv = none ∧ 50 ≤ S.mv.length) := fun h2 => by
    unfold moveS at hz
    rw [hb, if_neg (by simp), if_pos h2] at hz
    cases hz
  rw [hS] at hok ⊢
  have hlen := setM_len top sh S.mv
  refine ⟨hok, ?_, fun e he => ?_, ?_, ?_, fun h0 => ?_⟩
  · dsimp only
    rw [setM_keys]
    cases hl : lookM top S.mv with
    | some _ => exact h.nodup
    | none =>
      dsimp only
      rw [List.nodup_append]
      refine ⟨h.nodup, by simp, fun a ha b hb he => ?_⟩
      rw [List.mem_singleton] at hb
      obtain ⟨e, he', rfl⟩ := List.mem_map.1 ha
      exact lookM_none hl e he' (he.trans hb)
  · rcases set_mem he with he | rfl
    · exact h.names e he
    · exact ⟨b1, b2⟩
  · dsimp only
    rw [hlen]
    cases hl : lookM top S.mv with
    | some _ => exact h.most
    | none =>
      have h50 : ¬ 50 ≤ S.mv.length := fun h2 => hlim ⟨hl, h2⟩
      show S.mv.length + 1 ≤ 50
      omega
  · dsimp only
    rw [hlen]
    have hv := h.ver
    cases hl : lookM top S.mv with
    | some _ => show 1 + (S.mv.length : Int) ≤ S.ver + 1; omega
    | none => show 1 + ((S.mv.length + 1 : Nat) : Int) ≤ S.ver + 1; omega
  · dsimp only at h0
    rw [hlen] at h0
    cases hl : lookM top S.mv with
    | some v =>
      rw [hl] at h0
      dsimp only at h0
      obtain ⟨l1, l2, he, -⟩ := lookM_some hl
      rw [he] at h0
      simp at h0
    | none =>
      rw [hl] at h0
      have h0 : S.mv.length + 1 = 0 := h0
      omega
theorem inv_new {n : Int} (h1 : 1 ≤ n) (h4 : n ≤ 4) : RtInv ⟨n, 1, []⟩ := ⟨⟨h1, h4, by simp⟩, by simp, by simp, by simp, by simp, fun _ => rfl⟩
theorem inv_short {S : RtS} (h : RtInv S) : RtSh S := by
  refine ⟨by have := h.most; omega, fun e he => ?_⟩
  obtain ⟨h1, h2⟩ := h.names e he
  obtain ⟨-, q, -, -, -, hn⟩ := top_path (p := 47 :: e.1) (by rw [h1]; exact h2)
  rw [h1] at hn
  unfold nameS at hn
  simp only [Bool.and_eq_true, decide_eq_true_eq] at hn
  omega
theorem name_len {S : RtS} (h : RtInv S) {e : Bs × Int} (he : e ∈ S.mv) : e.1.length ≤ 40 := by
  obtain ⟨h1, h2⟩ := h.names e he
  obtain ⟨-, q, -, -, -, hn⟩ := top_path (p := 47 :: e.1) (by rw [h1]; exact h2)
  rw [h1] at hn
  unfold nameS at hn
  simp only [Bool.and_eq_true, decide_eq_true_eq] at hn
  omega
theorem memM_look {l : List (Bs × Int)} (hn : (l.map (·.1)).Nodup) {k : Bs} {v : Int} (h : (k, v) ∈ l) : lookM k l = some v := by
  cases hl : lookM k l with
  | none => exact absurd rfl (lookM_none hl _ h)
  | some y =>
    obtain ⟨l1, l2, he, -⟩ := lookM_some hl
    have hm : (k, y) ∈ l := by rw [he]; simp
    have := nodup_inj hn h hm rfl
    cases this
    rfl

/-- The same, by rising names. -/
def sortM (S : RtS) : List (Bs × Int) := (keysM S).filterMap fun k => (lookM k S.mv).map fun v => (k, v)
def sortT (S : RtS) : RtS := { S with mv := sortM S }
theorem keysM_perm (S : RtS) : (keysM S).Perm (S.mv.map (·.1)) := List.mergeSort_perm _ _
theorem keysM_sorted {S : RtS} (h : RtInv S) : (keysM S).Pairwise fun a b => ¬ b ≤ a := by
  have h1 : (keysM S).Pairwise (fun a b => decide (a ≤ b) = true) := List.pairwise_mergeSort (fun a b c h1 h2 => by simp at *; exact List.le_trans h1 h2) (fun a b => by simp; exact List.le_total a b) _
  have h2 : (keysM S).Pairwise (· ≠ ·) := (keysM_perm S).nodup_iff.2 h.nodup
  refine (h1.and h2).imp fun {a b} h hb => ?_
  have := h.1
  simp at this
  exact h.2 (List.le_antisymm this hb)

theorem getTN_put {S : RtS} (hI : RtInv S) : ∀ (ks : List Bs) (last : Bs) (x : Bs) (T : RtS), (last :: ks).Pairwise (fun a b => ¬ b ≤ a) → (∀ k ∈ ks, k ∈ keysM S) → T.n = S.n → (∀ k ∈ ks, lookM k T.mv = none) → T.mv.length + ks.length ≤ 50 →
    getTN ks.length last (ks.flatMap (entM S) ++ x, false) T = some ({ T with ver := T.ver + ks.length, mv := T.mv ++ ks.filterMap fun k => (lookM k S.mv).map fun v => (k, v) }, x, false)
  | [], last, x, T, _, _, _, _, _ => by simp [getTN]
  | k :: ks, last, x, T, hp, hk, hn, hno, hl => by
    obtain ⟨⟨v, hv⟩, e, he, hek⟩ := keysM_in (hk k (by simp))
    have hmem : (k, v) ∈ S.mv := by
      obtain ⟨l1, l2, h1, -⟩ := lookM_some hv
      rw [h1]; simp
    have hnm := hI.names _ hmem
    have hkl := name_len hI hmem
    have hvb := hI.ok.2.2 _ hmem
    have hn4 := hI.ok.2.1
    dsimp only at hnm hkl hvb
    have hen : entM S k = textB k ++ packI v := by unfold entM; rw [hv]; rfl
    have h1 : textR 40 ((k :: ks).flatMap (entM S) ++ x, false) = (k, packI v ++ (ks.flatMap (entM S) ++ x), false) := by
      rw [List.flatMap_cons, hen, List.append_assoc, List.append_assoc, textR_text 40 k _ false (by omega) (by decide)]
    have h2 : cntR 4 (packI v ++ (ks.flatMap (entM S) ++ x), false) = (v, ks.flatMap (entM S) ++ x, false) := cntR_pack 4 v _ false hvb.1 (by omega) (by decide)
    have hnk := hno k (by simp)
    have hbad : badM T k v = false := by
      unfold badM
      rw [hnm.1, hn]
      simp only [BEq.rfl, Bool.not_true, Bool.false_or, Bool.or_eq_false_iff, beq_eq_false_iff_ne, decide_eq_false_iff_not]
      exact ⟨⟨hnm.2, by omega⟩, by omega⟩
    have hmv : moveS T k v = (0, { T with ver := T.ver + 1, mv := T.mv ++ [(k, v)] }) := by
      unfold moveS
      rw [hbad, if_neg (by simp), if_neg (fun h => by have := h.2; simp at hl; omega)]
      unfold setM
      rw [hnk]
    rw [List.length_cons, getTN, h1]
    dsimp only
    rw [h2]
    dsimp only
    rw [if_neg ((List.pairwise_cons.1 hp).1 k (by simp)), hmv]
    dsimp only
    rw [if_neg (by simp)]
    have hp2 := (List.pairwise_cons.1 hp).2
    rw [getTN_put hI ks k x { T with ver := T.ver + 1, mv := T.mv ++ [(k, v)] } hp2 (fun k hk' => hk k (by simp [hk'])) hn (fun k' hk' => by
      dsimp only
      rw [look_appM, hno k' (by simp [hk'])]
      dsimp only
      rw [if_neg]
      intro e
      exact (List.pairwise_cons.1 hp2).1 k' hk' (by rw [e]; exact List.le_refl _)) (by simp at hl ⊢; omega)]
    simp only [List.filterMap_cons, hv, Option.map_some, List.append_assoc, List.singleton_append, List.length_cons]
    congr 3
    push_cast
    omega
theorem getT_put {S : RtS} (hI : RtInv S) (hv : S.ver ≤ 1000000) : getT (bytesT S) = some (sortT S) := by
  have hv1 := hI.ver
  have hm := hI.most
  obtain ⟨o1, o2, o3⟩ := hI.ok
  have hkl := keysM_len S
  have e1 : cntR 4 (bytesT S, false) = (S.n, packI S.ver ++ (packI (S.mv.length : Int) ++ (keysM S).flatMap (entM S)), false) := by
    unfold bytesT
    simp only [List.flatMap_cons, List.flatMap_nil, List.append_nil, List.append_assoc]
    exact cntR_pack 4 S.n _ false (by omega) o2 (by decide)
  have e2 : i64R (packI S.ver ++ (packI (S.mv.length : Int) ++ (keysM S).flatMap (entM S)), false) = (S.ver, packI (S.mv.length : Int) ++ (keysM S).flatMap (entM S), false) := i64R_pack _ _ _ (by omega) (by omega)
  have e3 : cntR 50 (packI (S.mv.length : Int) ++ (keysM S).flatMap (entM S), false) = ((S.mv.length : Int), (keysM S).flatMap (entM S), false) := cntR_pack 50 _ _ false (by omega) (by omega) (by decide)
  unfold getT
  rw [e1]
  dsimp only
  rw [if_neg (by omega), e2]
  dsimp only
  rw [e3]
  dsimp only
  rw [Int.toNat_natCast, ← hkl]
  have := getTN_put hI (keysM S) [] [] ⟨S.n, 1, []⟩ (List.pairwise_cons.2 ⟨fun k hk h0 => by
    obtain ⟨-, e, he, hek⟩ := keysM_in hk
    have := (hI.names e he).2
    rw [hek] at this
    cases k with
    | nil => exact this rfl
    | cons c r => exact absurd h0 (by simp), keysM_sorted hI⟩) (fun _ h => h) rfl (fun _ _ => rfl) (by simp; omega)
  rw [List.append_nil] at this
  rw [this]
  unfold endT
  dsimp only
  have hml : (sortM S).length = S.mv.length := by
    unfold sortM
    rw [← hkl]
    have : ∀ ks : List Bs, (∀ k ∈ ks, k ∈ keysM S) → (ks.filterMap fun k => (lookM k S.mv).map fun v => (k, v)).length = ks.length := by
      intro ks
      induction ks with
      | nil => intro _; rfl
      | cons k ks ih =>
        intro h
        obtain ⟨⟨v, hv⟩, -⟩ := keysM_in (h k (by simp))
        rw [List.filterMap_cons, hv]
        simp only [Option.map_some, List.length_cons, ih (fun k hk => h k (by simp [hk]))]
    exact this _ (fun _ h => h)
  have hml2 : (([] : List (Bs × Int)) ++ (keysM S).filterMap fun k => (lookM k S.mv).map fun v => (k, v)).length = S.mv.length := by rw [List.nil_append]; exact hml
  rw [hml2]
  have c1 : decide (S.ver < 1 + ((keysM S).length : Int)) = false := decide_eq_false (by rw [hkl]; omega)
  have c2 : decide (1099511627776 < S.ver) = false := decide_eq_false (by omega)
  have c3 : (((S.mv.length : Int) == 0) && (S.ver != 1)) = false := by
    cases h0 : ((S.mv.length : Int) == 0) with
    | false => rfl
    | true =>
      have := hI.one (by simpa using h0)
      simp [this]
  rw [c1, c2, c3]
  simp [sortT, sortM]
end Go.Proofs.YtfncdgnhiinmjaaDoor

/-
  Routes: two tables that are alike, side by side.
-/
namespace Go.Proofs.YtfncdgnhiinmjaaDoor
open Go.RowKit Go.Av Go.Maps Go.Sort

structure AlikeT (S T : RtS) : Prop where
  n : S.n = T.n
  ver : S.ver = T.ver
  look : ∀ k, lookM k S.mv = lookM k T.mv
theorem sort_alike {S : RtS} (h : RtInv S) : AlikeT S (sortT S) := by
  refine ⟨rfl, rfl, fun k => ?_⟩
  have hk : ∀ e ∈ sortM S, lookM e.1 S.mv = some e.2 := fun e he => by
    obtain ⟨k, _, hk⟩ := List.mem_filterMap.1 he
    cases hl : lookM k S.mv with
    | none => rw [hl] at hk; cases hk
    | some x => rw [hl] at hk; cases hk; exact hl
  show lookM k S.mv = lookM k (sortM S)
  cases hl : lookM k (sortM S) with
  | some v =>
    obtain ⟨l1, l2, he, -⟩ := lookM_some hl
    exact hk (k, v) (by rw [he]; simp)
  | none =>
    cases hl2 : lookM k S.mv with
    | none => rfl
    | some v =>
      obtain ⟨l1, l2, he, -⟩ := lookM_some hl2
      have hkm : k ∈ keysM S := (keysM_perm S).mem_iff.2 (List.mem_map.2 ⟨(k, v), by rw [he]; simp, rfl⟩)
      exact absurd rfl (lookM_none hl (k, v) (List.mem_filterMap.2 ⟨k, hkm, by rw [hl2]; rfl⟩))
theorem sort_keys {S : RtS} : (sortM S).map (·.1) = keysM S := by
  unfold sortM
  have : ∀ ks : List Bs, (∀ k ∈ ks, k ∈ keysM S) → (ks.filterMap fun k => (lookM k S.mv).map fun v => (k, v)).map (·.1) = ks := by
    intro ks
    induction ks with
    | nil => intro _; rfl
    | cons k ks ih =>
      intro h
      obtain ⟨⟨v, hv⟩, -⟩ := keysM_in (h k (by simp))
      rw [List.filterMap_cons, hv]
      simp only [Option.map_some, List.map_cons, ih (fun k hk => h k (by simp [hk]))]
  exact this _ (fun _ h => h)
theorem sort_mem {S : RtS} {e : Bs × Int} (he : e ∈ sortM S) : e ∈ S.mv := by
  obtain ⟨k, _, hk⟩ := List.mem_filterMap.1 he
  cases hl : lookM k S.mv with
  | none => rw [hl] at hk; cases hk
  | some x =>
    rw [hl] at hk
    cases hk
    obtain ⟨l1, l2, h1, -⟩ := lookM_some hl
    rw [h1]; simp
theorem sort_lenM {S : RtS} : (sortM S).length = S.mv.length := by
  rw [← keysM_len S, ← sort_keys, List.length_map]
theorem sort_invT {S : RtS} (h : RtInv S) : RtInv (sortT S) := by
  refine ⟨⟨h.ok.1, h.ok.2.1, fun e he => h.ok.2.2 e (sort_mem he)⟩, ?_, fun e he => h.names e (sort_mem he), ?_, ?_, fun h0 => h.one ?_⟩
  · show ((sortM S).map (·.1)).Nodup
    rw [sort_keys]; exact (keysM_perm S).nodup_iff.2 h.nodup
  · show (sortM S).length ≤ 50
    rw [sort_lenM]; exact h.most
  · show 1 + ((sortM S).length : Int) ≤ S.ver
    rw [sort_lenM]; exact h.ver
  · have h0 : (sortM S).length = 0 := h0
    rw [sort_lenM] at h0; exact h0
theorem ids_mem {l : List (Bs × Int)} (k : Bs) : k ∈ l.map (·.1) ↔ ∃ v, lookM k l = some v := by
  constructor
  · intro h
    obtain ⟨e, he, rfl⟩ := List.mem_map.1 h
    cases hl : lookM e.1 l with
    | some v => exact ⟨v, rfl⟩
    | none => exact absurd rfl (lookM_none hl e he)
  · rintro ⟨v, hv⟩
    obtain ⟨l1, l2, he, -⟩ := lookM_some hv
    exact List.mem_map.2 ⟨(k, v), by rw [he]; simp, rfl⟩
theorem alike_keys {S T : RtS} (hS : RtInv S) (hT : RtInv T) (h : AlikeT S T) : keysM S = keysM T := by
  have hp : (S.mv.map (·.1)).Perm (T.mv.map (·.1)) := (List.perm_ext_iff_of_nodup hS.nodup hT.nodup).2 fun a => by rw [ids_mem, ids_mem, h.look a]
  unfold keysM
  exact mergeSort_of_perm hp
theorem alike_len {S T : RtS} (hS : RtInv S) (hT : RtInv T) (h : AlikeT S T) : S.mv.length = T.mv.length := by
  rw [← keysM_len S, ← keysM_len T, alike_keys hS hT h]
theorem alike_bytes {S T : RtS} (hS : RtInv S) (hT : RtInv T) (h : AlikeT S T) : bytesT S = bytesT T := by
  unfold bytesT
  rw [alike_keys hS hT h, alike_len hS hT h, h.n, h.ver]
  congr 1
  have : entM S = entM T := by funext k; unfold entM; rw [h.look k]
  rw [this]
theorem alike_of {S T : RtS} (h : AlikeT S T) (p : Bs) : ofS S p = ofS T p := by
  unfold ofS
  rw [h.n, h.look]
theorem alike_move {S T : RtS} (hS : RtInv S) (hT : RtInv T) (h : AlikeT S T) (top : Bs) (sh : Int) : (moveS S top sh).1 = (moveS T top sh).1 ∧ AlikeT (moveS S top sh).2 (moveS T top sh).2 := by
  have hb : badM S top sh = badM T top sh := by unfold badM; rw [h.n]
  have hl := alike_len hS hT h
  unfold moveS
  rw [hb, h.look top, hl]
  split
  · exact ⟨rfl, h⟩
  · split
    · exact ⟨rfl, h⟩
    · refine ⟨rfl, h.n, by show S.ver + 1 = T.ver + 1; rw [h.ver], fun k => ?_⟩
      show lookM k (setM top sh S.mv) = lookM k (setM top sh T.mv)
      rw [look_set, look_set, h.look k]

/-- Two tables side by side. -/
def TwoT (w0 w : World) (t : Nat) (S : RtS) (u : Nat) (T : RtS) (R : List Thing) (rows : List (Value × Bs)) : Prop := ∃ m', Rt w0 w t S (rtTh u m' T ++ R) rows
section
variable {w0 w : World} {t u : Nat} {S T : RtS} {R : List Thing} {rows : List (Value × Bs)}
theorem TwoT.flip (h : TwoT w0 w t S u T R rows) : TwoT w0 w u T t S R rows := by
  obtain ⟨m', m, hS⟩ := h
  exact ⟨m, m', hS.perm (List.perm_append_comm_assoc _ _ _)⟩
theorem TwoT.use (h : TwoT w0 w t S u T R rows) : ∃ R', Rt w0 w t S R' rows ∧ ∀ w' S' rows', Rt w0 w' t S' R' rows' → TwoT w0 w' t S' u T R rows' := by
  obtain ⟨m', h⟩ := h
  exact ⟨_, h, fun w' S' rows' h' => ⟨m', h'⟩⟩
theorem TwoT.below (h : TwoT w0 w t S u T R rows) : Below w0.heap.size w0 w := by
  obtain ⟨m', h⟩ := h
  exact h.below
theorem TwoT.keep (h : TwoT w0 w t S u T R rows) {w' : World} {D' : List Nat} (hu : Upd w w' [] D') : TwoT w0 w' t S u T R rows := by
  obtain ⟨m', h⟩ := h
  exact ⟨m', h.keep hu⟩
theorem TwoT.drew (h : TwoT w0 w t S u T R rows) : TwoT w0 w.drew t S u T R rows := h.keep (Upd.refl w []).drew
theorem Rt.toRowR {v : Value} {b : Bs} (h : Rt w0 w t S (ThRow 1 v (b.map bv) :: R) rows) : Rt w0 w t S R ((v, b) :: rows) := by
  obtain ⟨m, hS⟩ := h
  exact ⟨m, (hS.perm (List.perm_middle (l₁ := rtTh t m S))).toRow⟩
theorem Rt.get {v : Value} {l : Bs} (h : Rt w0 w t S R rows) (hm : (v, l) ∈ rows) : ∃ E, ReadRow w 1 v (l.map bv) E := by
  obtain ⟨m, hS⟩ := h
  exact hS.get hm
theorem TwoT.get {v : Value} {b : Bs} (h : TwoT w0 w t S u T R rows) (hm : (v, b) ∈ rows) : ∃ E, ReadRow w 1 v (b.map bv) E := by
  obtain ⟨m', h⟩ := h
  exact h.get hm
theorem TwoT.put (h : TwoT w0 w t S u T R rows) (hn : RtSh S) :
    Calls Tryd.prog 20 #[.pointer (some ⟨t, 0, none⟩)] w fun e w' => ∃ v, e = .returned v ∧ TwoT w0 w' t S u T R ((v, bytesT S) :: rows) := by
  obtain ⟨m', h⟩ := h
  refine (put_table h hn).mono ?_
  rintro e w' ⟨v, rfl, h'⟩
  exact ⟨v, rfl, m', h'.toRowR⟩
theorem two_getT (h : Rt w0 w t S R rows) (hd : Door w0) {v : Value} (hv : (v, bytesT S) ∈ rows) (hI : RtInv S) (hn : S.ver ≤ 1000000) :
    Calls Tryd.prog 18 #[v] w fun e w' => ∃ u, e = .returned (.tuple #[.pointer (some ⟨u, 0, none⟩), .int .i64 0]) ∧ TwoT w0 w' u (sortT S) t S R rows := by
  obtain ⟨m, hS⟩ := h
  have hb : (bytesT S).length ≤ 1073741824 := by
    have h1 := entM_len (inv_short hI) (ks := keysM S) (fun _ h => h)
    have h2 := hI.most
    rw [keysM_len] at h1
    unfold bytesT
    rw [List.length_append, flat_len]
    simp only [List.length_cons, List.length_nil]
    omega
  have := get_table hS hd v (bytesT S) hv hb
  rw [getT_put hI hn] at this
  refine this.mono ?_
  rintro e w' ⟨u, rfl, h'⟩
  exact ⟨u, rfl, m, h'⟩
end
end Go.Proofs.YtfncdgnhiinmjaaDoor
