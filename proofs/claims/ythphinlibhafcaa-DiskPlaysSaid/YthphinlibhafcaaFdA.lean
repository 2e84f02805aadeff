/-
  The document's own disk in memory; the walks of May, find, ask, Size.
-/
import Derived.Test.YthphinlibhafcaaDSep
import Derived.Test.YthphinlibhafcaaFlatG
import Derived.Test.YthphinlibhafcaaSliceG
import Derived.Sort.Walk0
namespace Go.Proofs.Ythphinlibhafcaa
open Go.RowKit Go.Av

def fcell (g : Value × FileS) : List Value := [.string g.2.name, g.1, .int .i64 g.2.safe]
theorem fcell_len (g : Value × FileS) : (fcell g).length = 3 := rfl
/-- The document's disk, its files told. -/
structure FdX (w0 w : World) (t : Nat) (T : DiskS) (v : Value) (gs : List (Value × FileS)) (R : List Thing) (rows : List (Value × Bs)) : Prop where
  fs : gs.map (·.2) = T.fs
  row : ∀ g ∈ gs, (g.1, g.2.b) ∈ rows
  few : gs.length ≤ 1000
  sep : Sep w0 w (ThCell t (.cells #[.int .i64 T.room, v, .bool T.off, .int .i64 T.lives] 47 (0, 0)) :: ThRow 3 v (gs.flatMap fcell) :: R) rows
def Fd (w0 w : World) (t : Nat) (T : DiskS) (R : List Thing) (rows : List (Value × Bs)) : Prop :=
  ∃ (v : Value) (gs : List (Value × FileS)) (rows' : List (Value × Bs)), (∀ r ∈ rows, r ∈ rows') ∧ FdX w0 w t T v gs R rows'
section
variable {w0 w : World} {t : Nat} {T : DiskS} {R : List Thing} {rows : List (Value × Bs)} {v : Value} {gs : List (Value × FileS)}
theorem FdX.keep (h : FdX w0 w t T v gs R rows) {w' : World} {D' : List Nat} (hu : Upd w w' [] D') : FdX w0 w' t T v gs R rows := ⟨h.fs, h.row, h.few, h.sep.keep hu⟩
theorem Fd.keep (h : Fd w0 w t T R rows) {w' : World} {D' : List Nat} (hu : Upd w w' [] D') : Fd w0 w' t T R rows := by
  obtain ⟨v, gs, rows', h1, hX⟩ := h
  exact ⟨v, gs, rows', h1, hX.keep hu⟩
theorem Fd.drew (h : Fd w0 w t T R rows) : Fd w0 w.drew t T R rows := h.keep (Upd.refl w []).drew
theorem Fd.below (h : Fd w0 w t T R rows) : Below w0.heap.size w0 w := by
  obtain ⟨v, gs, rows', h1, hX⟩ := h
  exact hX.sep.below
theorem FdX.facts (h : FdX w0 w t T v gs R rows) : ∃ (a : Option Addr) (c : Nat), v = .slice a gs.length c ∧ w.heap[t]? = some (.cells #[.int .i64 T.room, .slice a gs.length c, .bool T.off, .int .i64 T.lives] 47 (0, 0)) ∧ gs.length ≤ c ∧ c ≤ maxLen ∧
    ∀ (p : Nat) (hp : p < gs.length), ∃ y : Addr, a = some y ∧ y.spot = none ∧ w.cell? (y.add (p * 3)) = some (.string gs[p].2.name) ∧ w.cell? ⟨(y.add (p * 3)).block, (y.add (p * 3)).off + 1, none⟩ = some gs[p].1 ∧
      w.cell? ⟨(y.add (p * 3)).block, (y.add (p * 3)).off + 2, none⟩ = some (.int .i64 gs[p].2.safe) ∧ ∃ E, ReadRow w 1 gs[p].1 (gs[p].2.b.map bv) E := by
  have hS := h.sep
  have hb := hS.blk
  obtain ⟨D, hD⟩ := hS.has (T := ThRow 3 v (gs.flatMap fcell)) (by simp)
  have hD : OwnRow w 3 v (gs.flatMap fcell) D := hD
  obtain ⟨a, n, c, rfl, hl, hn, hc, -⟩ := id hD
  rw [flatG_len fcell_len] at hl
  obtain rfl : n = gs.length := by omega
  refine ⟨a, c, rfl, hb, hn, hc, fun p hp => ?_⟩
  obtain ⟨y, rfl, hys, k0⟩ := ownCellK hD ((flatG_at fcell_len gs hp (j := 0) (by decide)).trans rfl)
  obtain ⟨y', h2', -, k1⟩ := ownCellK hD ((flatG_at fcell_len gs hp (j := 1) (by decide)).trans rfl)
  cases h2'
  obtain ⟨y', h2', -, k2⟩ := ownCellK hD ((flatG_at fcell_len gs hp (j := 2) (by decide)).trans rfl)
  cases h2'
  rw [Nat.add_zero] at k0
  rw [addK_field k0 1] at k1
  rw [addK_field k0 2] at k2
  exact ⟨y, rfl, hys, k0, k1, k2, hS.get (h.row _ (List.getElem_mem hp))⟩
theorem Fd.facts (h : Fd w0 w t T R rows) : ∃ (a : Option Addr) (c : Nat) (gs : List (Value × FileS)), gs.map (·.2) = T.fs ∧ gs.length ≤ 1000 ∧ w.heap[t]? = some (.cells #[.int .i64 T.room, .slice a gs.length c, .bool T.off, .int .i64 T.lives] 47 (0, 0)) ∧ gs.length ≤ c ∧ c ≤ maxLen ∧
    ∀ (p : Nat) (hp : p < gs.length), ∃ y : Addr, a = some y ∧ y.spot = none ∧ w.cell? (y.add (p * 3)) = some (.string gs[p].2.name) ∧ w.cell? ⟨(y.add (p * 3)).block, (y.add (p * 3)).off + 1, none⟩ = some gs[p].1 ∧
      w.cell? ⟨(y.add (p * 3)).block, (y.add (p * 3)).off + 2, none⟩ = some (.int .i64 gs[p].2.safe) ∧ ∃ E, ReadRow w 1 gs[p].1 (gs[p].2.b.map bv) E := by
  obtain ⟨v, gs, rows', h1, hX⟩ := h
  obtain ⟨a, c, rfl, hb, hn, hc, hr⟩ := hX.facts
  exact ⟨a, c, gs, hX.fs, hX.few, hb, hn, hc, hr⟩
/-- One cell of a file is written. -/
theorem FdX.setG {y : Addr} {c : Nat} (h : FdX w0 w t T (.slice (some y) gs.length c) gs R rows) {p : Nat} (hp : p < gs.length) {j : Nat} (hj : j < 3) (g' : Value × FileS) (u : Value) (hf : fcell g' = (fcell gs[p]).set j u) (hr : (g'.1, g'.2.b) ∈ rows)
    (hc0 : w.cell? (y.add (p * 3)) = some (.string gs[p].2.name)) :
    w.frozen? ⟨(y.add (p * 3)).block, (y.add (p * 3)).off + j, none⟩ = false ∧ FdX w0 (w.setCell ⟨(y.add (p * 3)).block, (y.add (p * 3)).off + j, none⟩ u) t { T with fs := T.fs.set p g'.2 } (.slice (some y) gs.length c) (gs.set p g') R rows := by
  have h2 := h.sep.perm (List.Perm.swap _ _ _)
  obtain ⟨f1, f2, -, h3⟩ := h2.rowSetK (i := p * 3 + j) (by omega) u
  rw [addK_field hc0 j] at f1 h3
  refine ⟨f1, ⟨?_, fun g hg => ?_, by rw [List.length_set]; exact h.few, ?_⟩⟩
  · rw [List.map_set, h.fs]
  · rcases List.mem_or_eq_of_mem_set hg with hg | rfl
    · exact h.row g hg
    · exact hr
  · rw [flatG_set fcell_len gs hp g' u hj hf]
    exact h3.perm (List.Perm.swap _ _ _)

set_option maxHeartbeats 1000000 in
theorem fd_may (s : ByteArray) (w : World) (hs : s.size ≤ maxLen) :
    Calls Try.prog 40 #[.string s] w fun e w' => e = .returned (.bool (goodN s)) ∧ w = w' := by
  unfold maxLen at hs
  go_enter Try.func40, Try.ntmps40
  by_cases h1 : s.size < 1
  · go_wp2_with fail
    go_ret
    refine ⟨?_, rfl⟩
    simp [goodN]
    omega
  by_cases h20 : 20 < s.size
  · go_wp2_with fail
    go_ret
    refine ⟨?_, rfl⟩
    simp [goodN]
    omega
  go_wp2_with fail
  go_loopg [3] s.size (fun k vi wr => wr = w ∧ ∃ p : Nat, p ≤ s.size ∧ k = s.size - p ∧ vi = .int .i64 (p : Int) ∧ (s.data.toList.take p).all okc = true)
  case atStart => exact ⟨rfl, 0, Nat.zero_le _, rfl, rfl, rfl⟩
  case round =>
    obtain ⟨hW, p, hp, hk, hvi, hall⟩ := hrel
    subst wr hvi
    have HA := Lib.hid hall
    have Hsz := Lib.hid (size_list s)
    clear hall
    by_cases hlt : p < s.size
    · have Hin := Lib.hid (show s[p] ∈ s.data.toList from by
        have : s[p] = s.data.toList[p]'(by rw [Hsz.out]; exact hlt) := rfl
        rw [this]; exact List.getElem_mem _)
      have Hno := Lib.hid (show okc s[p] = false → goodN s = false from fun hno => by
        have : s.data.toList.all okc = false := by
          rw [Bool.eq_false_iff]; intro hh
          rw [List.all_eq_true] at hh
          rw [hh _ Hin.out] at hno; cases hno
        simp [goodN, this])
      by_cases h33 : s[p].toNat < 33
      · go_wp2_with fail
        go_ret
        rw [Hno.out (by simp [okc]; omega)]
        exact ⟨rfl, rfl⟩
      by_cases h126 : 126 < s[p].toNat
      · go_wp2_with fail
        go_ret
        rw [Hno.out (by simp [okc]; omega)]
        exact ⟨rfl, rfl⟩
      have HNX := Lib.hid (show (s.data.toList.take (p + 1)).all okc = true from by
        rw [List.take_succ_eq_append_getElem (by rw [Hsz.out]; exact hlt), List.all_append, HA.out]
        have : s.data.toList[p]'(by rw [Hsz.out]; exact hlt) = s[p] := rfl
        simp [this, okc]; omega)
      go_wp2_with fail
      go_roundg (s.size - (p + 1))
      case rel => exact ⟨rfl, p + 1, by omega, rfl, by go_num, HNX.out⟩
      case measure => omega
    · have ha := Lib.hid (show s.data.toList.all okc = true from by
        rw [← HA.out, List.take_of_length_le (by rw [Hsz.out]; omega)])
      go_wp2_with fail
      go_ret
      refine ⟨?_, rfl⟩
      simp [goodN, ha.out]
      omega

def posN (s : ByteArray) (l : List FileS) : Int := if hasN s l then (l.findIdx fun f => decide (f.name = s) : Nat) else -1

set_option maxHeartbeats 1000000 in
theorem fd_find (h : Fd w0 w t T R rows) (s : ByteArray) (hs : s.size ≤ maxLen) :
    Calls Try.prog 41 #[.pointer (some ⟨t, 0, none⟩), .string s] w fun e w' => e = .returned (.int .i64 (posN s T.fs)) ∧ w' = w := by
  obtain ⟨a, cp, gs, hgs, h1000, hb, hcp, hcm, hrow⟩ := h.facts
  have c1 := cell_of hb 1 rfl
  rw [show (#[Value.int .i64 T.room, .slice a gs.length cp, .bool T.off, .int .i64 T.lives] : Array Value)[1] = .slice a gs.length cp from rfl] at c1
  unfold maxLen at hs hcm
  have HR := Lib.hid (show _ ∧ _ from ⟨hrow, hgs⟩)
  clear h hb hrow hgs
  go_enter Try.func41, Try.ntmps41
  go_wp2_with fail
  go_loopg [5] gs.length (fun k vi wr => wr = w ∧ ∃ p : Nat, p ≤ gs.length ∧ k = gs.length - p ∧ vi = .int .i64 (p : Int) ∧ ∀ j (h : j < gs.length), j < p → gs[j].2.name ≠ s)
  case atStart => exact ⟨rfl, 0, Nat.zero_le _, rfl, rfl, fun _ _ h => absurd h (Nat.not_lt_zero _)⟩
  case round =>
    obtain ⟨hW, p, hp, hk, hvi, hall⟩ := hrel
    subst wr hvi
    have HA := Lib.hid hall
    clear hall
    by_cases hlt : p < gs.length
    · obtain ⟨y, rfl, hys, e0, e1, e2, -⟩ := HR.out.1 p hlt
      clear e1 e2
      obtain ⟨nm, hnm⟩ : ∃ nm, gs[p].2.name = nm := ⟨_, rfl⟩
      rw [hnm] at e0
      have HN := Lib.hid hnm
      clear hnm
      have heq : (nm.toList == s.toList) = decide (nm = s) := by
        rw [strK_eq]
        by_cases hh : nm = s
        · subst hh; simp
        · have : ¬ nm.data.toList = s.data.toList := fun e => hh (by cases nm; cases s; simpa using e)
          rw [decide_eq_false hh]
          exact beq_false_of_ne this
      cases hns : decide (nm = s) with
      | true =>
        rw [hns] at heq
        have HF := Lib.hid (show posN s T.fs = p from by
          have he : nm = s := of_decide_eq_true hns
          have hidx : (T.fs.findIdx fun f => decide (f.name = s)) = p := by
            rw [← HR.out.2]
            rw [List.findIdx_eq (by simpa using hlt)]
            refine ⟨by simp [HN.out, he], fun j hj => ?_⟩
            have := HA.out j (by omega) hj
            simpa using this
          have hh : hasN s T.fs = true := by
            unfold hasN
            rw [← HR.out.2, List.any_map, List.any_eq_true]
            exact ⟨gs[p], List.getElem_mem hlt, by simp [HN.out, he]⟩
          unfold posN
          rw [hh, hidx]
          rfl)
        clear hns
        go_wp2_with fail
        go_ret
        rw [HF.out]
        exact ⟨rfl, rfl⟩
      | false =>
        rw [hns] at heq
        have HNX := Lib.hid (show ∀ j (h : j < gs.length), j < p + 1 → gs[j].2.name ≠ s from fun j hj hjp => by
          by_cases hjj : j = p
          · subst hjj; rw [HN.out]; exact of_decide_eq_false hns
          · exact HA.out j hj (by omega))
        clear hns
        go_wp2_with fail
        go_roundg (gs.length - (p + 1))
        case rel => exact ⟨rfl, p + 1, by omega, rfl, by go_num, HNX.out⟩
        case measure => omega
    obtain rfl : p = gs.length := by omega
    have HF := Lib.hid (show posN s T.fs = -1 from by
      unfold posN
      rw [if_neg]
      unfold hasN
      rw [← HR.out.2, List.any_map, Bool.not_eq_true, List.any_eq_false]
      intro g hg
      obtain ⟨j, hj, rfl⟩ := List.mem_iff_getElem.1 hg
      simpa using HA.out j hj hj)
    go_wp2_with fail
    go_ret
    rw [HF.out]
    exact ⟨rfl, rfl⟩

def askP (T : DiskS) (s : ByteArray) : Int := if T.ask s = 0 then posN s T.fs else -1
set_option maxHeartbeats 1000000 in
theorem fd_ask (h : Fd w0 w t T R rows) (s : ByteArray) (hs : s.size ≤ maxLen) :
    Calls Try.prog 37 #[.pointer (some ⟨t, 0, none⟩), .string s] w fun e w' => e = .returned (.tuple #[.int .i64 (askP T s), .int .i64 (T.ask s)]) ∧ w' = w := by
  have HM := Lib.hid (fd_may s w hs)
  have HF := Lib.hid (fd_find h s hs)
  obtain ⟨a, cp, gs, hgs, h1000, hb, hcp, hcm, hrow⟩ := h.facts
  have c2 := cell_of hb 2 rfl
  rw [show (#[Value.int .i64 T.room, .slice a gs.length cp, .bool T.off, .int .i64 T.lives] : Array Value)[2] = .bool T.off from rfl] at c2
  clear h hb hrow hgs
  cases hoff : T.off with
  | true =>
    rw [hoff] at c2
    have HA := Lib.hid (show T.ask s = 10 from by simp [DiskS.ask, DiskS.may, hoff])
    clear hoff
    go_enter Try.func37, Try.ntmps37
    go_wp2_with fail
    go_ret2
    rw [askP, HA.out]
    exact ⟨rfl, rfl⟩
  | false =>
    rw [hoff] at c2
    cases hg : goodN s with
    | false =>
      have HA := Lib.hid (show T.ask s = 1 from by simp [DiskS.ask, DiskS.may, hoff, hg])
      rw [hg] at HM
      clear hoff hg
      go_enter Try.func37, Try.ntmps37
      go_wp2_with fail
      refine HM.out.mono ?_
      rintro e w1 ⟨rfl, rfl⟩
      go_wp2_with fail
      go_ret2
      rw [askP, HA.out]
      exact ⟨rfl, rfl⟩
    | true =>
      rw [hg] at HM
      cases hh : hasN s T.fs with
      | false =>
        have HA := Lib.hid (show T.ask s = 4 from by simp [DiskS.ask, DiskS.may, hoff, hg, hh])
        rw [show posN s T.fs = -1 from by simp [posN, hh]] at HF
        clear hoff hg hh
        go_enter Try.func37, Try.ntmps37
        go_wp2_with fail
        refine HM.out.mono ?_
        rintro e w1 ⟨rfl, rfl⟩
        go_wp2_with fail
        refine HF.out.mono ?_
        rintro e w1 ⟨rfl, hW⟩
        subst w1
        go_wp2_with fail
        go_ret2
        rw [askP, HA.out]
        exact ⟨rfl, rfl⟩
      | true =>
        have HA := Lib.hid (show T.ask s = 0 from by simp [DiskS.ask, DiskS.may, hoff, hg, hh])
        obtain ⟨k, hk⟩ : ∃ k : Nat, posN s T.fs = k := ⟨_, by unfold posN; rw [if_pos hh]⟩
        have HK := Lib.hid hk
        rw [hk] at HF
        clear hoff hg hh hk
        go_enter Try.func37, Try.ntmps37
        go_wp2_with fail
        refine HM.out.mono ?_
        rintro e w1 ⟨rfl, rfl⟩
        go_wp2_with fail
        refine HF.out.mono ?_
        rintro e w1 ⟨rfl, hW⟩
        subst w1
        go_wp2_with fail
        go_ret2
        rw [askP, HA.out, if_pos rfl, HK.out]
        exact ⟨rfl, rfl⟩
end
end Go.Proofs.Ythphinlibhafcaa
