/-
  The walks of paths: Good, Parts, Top.
-/
import Derived.Test.YtjeaoopamebgjaaDoorPathW
import Derived.Test.YtjeaoopamebgjaaDoorLayS
namespace Go.Av
open Go.RowKit
def sv (l : Bs) : Value := .string ⟨l.toArray⟩
theorem sv_data (s : ByteArray) : sv s.data.toList = .string s := rfl
theorem sv_one {l : List Bs} : ∀ u ∈ l.map sv, u.oneCell' = true := by
  intro u hu
  obtain ⟨x, _, rfl⟩ := List.mem_map.1 hu
  rfl
theorem cutS_mem : ∀ {l : Bs} {x : Bs}, x ∈ cutS l → x.length ≤ l.length
  | [], x, h => by simp [cutS] at h; simp [h]
  | c :: r, x, h => by
    unfold cutS at h
    split at h
    · rcases List.mem_cons.1 h with rfl | h
      · simp
      · have := cutS_mem h; simp; omega
    · split at h
      · rename_i h0; exact absurd h0 (cutS_ne r)
      · rename_i y t hy
        rcases List.mem_cons.1 h with rfl | h
        · have := cutS_mem (x := y) (l := r) (by rw [hy]; simp); simp; omega
        · have := cutS_mem (x := x) (l := r) (by rw [hy]; simp [h]); simp; omega
end Go.Av
namespace Go.Proofs.YtjeaoopamebgjaaDoor
open Go.RowKit Go.Av

/-- What the library asks of its own variable: that it is some number. -/
def Door (w : World) : Prop := ∃ m, w.cell? ⟨0, 0, none⟩ = some (.int .i64 m)
theorem Door.upd {w w' : World} {D' : List Nat} (h : Door w) (hu : Upd w w' [] D') : Door w' := by
  obtain ⟨m, hm⟩ := h
  exact ⟨m, upd_cell hu hm⟩
theorem Door.sep {w0 w : World} {R : List Thing} {rows : List (Value × Bs)} (h : Door w0) (hS : Sep w0 w R rows) : Door w := by
  obtain ⟨m, hm⟩ := h
  exact ⟨m, hS.cell hm⟩

theorem parts_map (s : ByteArray) : (Lib.splitB ⟨#[47]⟩ 0 (Lib.countB s ⟨#[47]⟩) s).map Value.string = (cutS s.data.toList).map sv := by
  rw [← split_cut, List.map_map]
  rfl
theorem split_any (s : ByteArray) (w : World) (hd : Door w) (hs : s.size ≤ 1000000000) :
    Calls Tryd.prog 40 #[.string s, .string ⟨#[47]⟩] w fun e w' =>
      e = .returned (.slice (some ⟨w.heap.size, 0, none⟩) (cutS s.data.toList).length (cutS s.data.toList).length) ∧ w' = w.alloc (.cells ((cutS s.data.toList).map sv).toArray 9) := by
  obtain ⟨m, hm⟩ := hd
  have := Tryd.strings_Split s ⟨#[47]⟩ m w (by omega) hm (by decide)
  rw [parts_map, count_cut] at this
  exact this
theorem row_split (l : List Bs) (w : World) (hl : l.length ≤ 1000000000) : OwnRow (w.alloc (.cells (l.map sv).toArray 9)) 1 (.slice (some ⟨w.heap.size, 0, none⟩) l.length l.length) (l.map sv) [w.heap.size] :=
  OwnRow.made w 9 1 _ _ _ _ (by simp) (Nat.le_refl _) (by unfold maxLen; omega) (by simp) (by simp [List.take_of_length_le])

set_option maxHeartbeats 1000000 in
theorem good_any (s : ByteArray) (w : World) (hd : Door w) (hs : s.size ≤ maxLen) :
    Calls Tryd.prog 29 #[.string s] w fun e w' => e = .returned (.bool (goodP s.data.toList)) ∧ Upd w w' [] [] := by
  have hcp := Tryd.strings_CutPrefix s ⟨#[47]⟩ w
  rw [show (⟨#[47]⟩ : ByteArray).data.toList = [47] from rfl] at hcp
  unfold maxLen at hs
  have hsz : s.size = s.data.toList.length := by simp
  obtain ⟨l, hl⟩ : ∃ l, s.data.toList = l := ⟨_, rfl⟩
  rw [hl] at hcp hsz ⊢
  cases hb : Lib.hasPrefix l [47] with
  | false =>
    have hg : goodP l = false := by
      cases l with
      | nil => rfl
      | cons c r =>
        unfold goodP
        have : decide (c = 47) = false := by
          simp [Lib.hasPrefix, List.isPrefixOf] at hb
          simp
          exact fun e => hb e.symm
        show (decide (c = 47) && _ && _ && _) = false
        rw [this]; rfl
    rw [hg]
    rw [hb] at hcp
    have HCP := Lib.hid hcp
    clear hcp hb hg hl hsz
    go_enter Tryd.func29, Tryd.ntmps29
    go_wp2_with fail
    refine HCP.out.mono ?_
    rintro e w1 ⟨rfl, rfl⟩
    go_wp2_with fail
    go_ret
    exact ⟨rfl, Upd.refl _ _⟩
  | true =>
    obtain ⟨r, rfl⟩ : ∃ r, l = 47 :: r := by
      cases l with
      | nil => cases hb
      | cons c r =>
        simp [Lib.hasPrefix, List.isPrefixOf] at hb
        exact ⟨r, by rw [hb]⟩
    have ht : Lib.trimPrefix (47 :: r) [47] = r := by unfold Lib.trimPrefix; rw [if_pos hb]; rfl
    rw [hb, ht] at hcp
    have HCP := Lib.hid hcp
    clear hcp hb ht hl
    rw [List.length_cons] at hsz
    have hgd : goodP (47 :: r) = (decide (s.size ≤ 200) && (cutS r).all nameS && decide (((cutS r).length : Int) ≤ 8)) := by
      unfold goodP
      have e8 : decide ((cutS r).length ≤ 8) = decide (((cutS r).length : Int) ≤ 8) := by rw [decide_eq_decide]; omega
      show (decide ((47 : UInt8) = 47) && decide (r.length + 1 ≤ 200) && (cutS r).all nameS && decide ((cutS r).length ≤ 8)) = _
      rw [e8, ← hsz]
      simp
    by_cases h200 : 200 < s.size
    · rw [show decide (s.size ≤ 200) = false from decide_eq_false (by omega)] at hgd
      rw [hgd]
      clear hgd hsz
      go_enter Tryd.func29, Tryd.ntmps29
      go_wp2_with fail
      refine HCP.out.mono ?_
      rintro e w1 ⟨rfl, rfl⟩
      go_wp2_with fail
      go_ret
      exact ⟨by simp, Upd.refl _ _⟩
    rw [show decide (s.size ≤ 200) = true from decide_eq_true (by omega), Bool.true_and] at hgd
    have hsp := split_any ⟨r.toArray⟩ w hd (by show r.toArray.size ≤ _; simp; omega)
    rw [show (⟨r.toArray⟩ : ByteArray).data.toList = r from rfl] at hsp
    have hcl : (cutS r).length ≤ 201 := by rw [cutS_len]; have := List.count_le_length (a := 47) (l := r); omega
    have hmem : ∀ x ∈ cutS r, x.length ≤ 1000 := fun x hx => by have := cutS_mem hx; omega
    have hu := Upd.alloc0 w (.cells ((cutS r).map sv).toArray 9) []
    have hrow := (row_split (cutS r) w (by omega))
    obtain ⟨w1, hw1⟩ : ∃ x, x = w.alloc (.cells ((cutS r).map sv).toArray 9) := ⟨_, rfl⟩
    rw [← hw1] at hsp hu hrow
    obtain ⟨q, hq⟩ : ∃ q, q = w.heap.size := ⟨_, rfl⟩
    rw [← hq] at hsp hrow
    obtain ⟨ps, hps⟩ : ∃ ps, cutS r = ps := ⟨_, rfl⟩
    rw [hps] at hgd hsp hcl hmem hrow
    rw [hgd]
    have HSP := Lib.hid hsp
    have HR := Lib.hid (show _ ∧ _ ∧ _ from ⟨hrow, hmem, hu⟩)
    clear hgd hsp hmem hu hrow hps hw1 hq hsz hd
    go_enter Tryd.func29, Tryd.ntmps29
    go_wp2_with fail
    refine HCP.out.mono ?_
    rintro e w2 ⟨rfl, hW⟩
    subst w2
    go_wp2_with fail
    refine HSP.out.mono ?_
    rintro e w2 ⟨rfl, hW⟩
    subst w2
    go_wp2_with fail
    go_loopg [24] ps.length (fun k i wr => wr = w1 ∧ ∃ p : Nat, p ≤ ps.length ∧ k = ps.length - p ∧ i = .int .i64 p ∧ (ps.take p).all nameS = true)
    case atStart => exact ⟨rfl, 0, Nat.zero_le _, rfl, rfl, rfl⟩
    case round =>
      obtain ⟨hW, p, hp, hk, hv, ha⟩ := hrel
      subst wr hv
      by_cases hlt : p < ps.length
      · obtain ⟨y, hy, -, hcy⟩ := ownCell HR.out.1 (i := p) (x := sv ps[p]) (by rw [List.getElem?_map, List.getElem?_eq_getElem hlt]; rfl)
        cases hy
        have hx := HR.out.2.1 _ (List.getElem_mem hlt)
        have hts : ps.take (p + 1) = ps.take p ++ [ps[p]] := by rw [List.take_succ_eq_append_getElem hlt]
        have hmm : ps[p] ∈ ps := List.getElem_mem hlt
        obtain ⟨x, hxx⟩ : ∃ x, ps[p] = x := ⟨_, rfl⟩
        rw [hxx] at hcy hx hts hmm
        rw [Addr.add_lit, Nat.zero_add] at hcy
        have hn := name_any ⟨x.toArray⟩ w1 (by show x.toArray.size ≤ _; unfold maxLen; simp; omega)
        rw [show (⟨x.toArray⟩ : ByteArray).data.toList = x from rfl] at hn
        unfold sv at hcy
        have HX := Lib.hid (show _ ∧ _ ∧ _ from ⟨hts, ha, hmm⟩)
        cases hnx : nameS x with
        | false =>
          rw [hnx] at hn
          have HN := Lib.hid hn
          have HB := Lib.hid hnx
          clear hn hx hxx hts ha hmm hnx
          go_wp2_with fail
          refine HN.out.mono ?_
          rintro e w2 ⟨rfl, hW⟩
          subst w2
          go_wp2_with fail
          go_ret
          rw [show ps.all nameS = false from List.all_eq_false.2 ⟨x, HX.out.2.2, by simp [HB.out]⟩]
          exact ⟨rfl, HR.out.2.2⟩
        | true =>
          rw [hnx] at hn
          have HN := Lib.hid hn
          have HB := Lib.hid hnx
          clear hn hx hxx hts ha hmm hnx
          go_wp2_with fail
          refine HN.out.mono ?_
          rintro e w2 ⟨rfl, hW⟩
          subst w2
          go_wp2_with fail
          go_roundg (ps.length - (p + 1))
          case rel =>
            refine ⟨rfl, p + 1, by omega, rfl, by go_num, ?_⟩
            rw [HX.out.1, List.all_append, HX.out.2.1]
            simp [HB.out]
          case measure => omega
      · obtain rfl : p = ps.length := by omega
        rw [List.take_length] at ha
        have HA := Lib.hid ha
        clear ha
        go_wp2_with fail
        go_ret
        rw [HA.out]
        exact ⟨by simp, HR.out.2.2⟩
end Go.Proofs.YtjeaoopamebgjaaDoor
