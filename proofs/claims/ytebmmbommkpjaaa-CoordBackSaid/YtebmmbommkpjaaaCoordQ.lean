/-
  Decisions read: numbers of a reader, side by side with all else.
-/
import Derived.Test.YtebmmbommkpjaaaCoordP
import Derived.Test.YtebmmbommkpjaaaCoordO
namespace Go.Proofs.Ytebmmbommkpjaaa
open Go.RowKit Go.Av

def ThRdr (r : Nat) (d : Rd) : Thing := ⟨fun w D => ReaderAt w r d.1 d.2 D, fun h hs => h.frame hs, fun h => h.lt⟩
section
variable {w0 w : World} {r : Nat} {d : Rd} {R : List Thing} {rows : List (Value × Bs)}
theorem rdrSep_count (h : Sep w0 w (ThRdr r d :: R) rows) (most : Int) (hm : 0 ≤ most) :
    Calls Try.prog 42 #[.pointer (some ⟨r, 0, none⟩), .int .i64 most] w fun e w' => e = .returned (.int .i64 (cntR most d).1) ∧ Sep w0 w' (ThRdr r (cntR most d).2 :: R) rows := by
  obtain ⟨D, hP, -, back⟩ := h.use
  refine (rdr_count r d.1 d.2 most hm D w hP).mono ?_
  rintro e w' ⟨rfl, D', h', hu⟩
  exact ⟨rfl, back w' D' (ThRdr r (cntR most d).2) hu h'⟩
theorem rdrSep_i64 (h : Sep w0 w (ThRdr r d :: R) rows) :
    Calls Try.prog 43 #[.pointer (some ⟨r, 0, none⟩)] w fun e w' => e = .returned (.int .i64 (i64R d).1) ∧ Sep w0 w' (ThRdr r (i64R d).2 :: R) rows := by
  obtain ⟨D, hP, -, back⟩ := h.use
  refine (rdr_i64 r d.1 d.2 D w hP).mono ?_
  rintro e w' ⟨rfl, D', h', hu⟩
  have e1 : (i64R d).1 = if d.1.length < 8 then 0 else rdI d.1 := by unfold i64R; split <;> rfl
  have e2 : (i64R d).2.1 = if d.1.length < 8 then [] else d.1.drop 8 := by unfold i64R; split <;> rfl
  have e3 : (i64R d).2.2 = if d.1.length < 8 then true else d.2 := by unfold i64R; split <;> rfl
  exact ⟨by rw [e1], back w' D' (ThRdr r (i64R d).2) hu (by show ReaderAt w' r (i64R d).2.1 (i64R d).2.2 D'; rw [e2, e3]; exact h')⟩
theorem rdrSep_bad (h : Sep w0 w (ThRdr r d :: R) rows) :
    Calls Try.prog 45 #[.pointer (some ⟨r, 0, none⟩)] w fun e w' => e = .returned (.bool d.2) ∧ w' = w := by
  obtain ⟨D, v, E, T, h1, -⟩ := h.fst
  have c1 := cell_of h1 1 rfl
  clear h h1
  obtain ⟨b, hb⟩ : ∃ b, b = d.2 := ⟨_, rfl⟩
  rw [show (#[v, Value.bool d.2] : Array Value)[1] = .bool b by rw [hb]; rfl] at c1
  rw [← hb]
  clear hb
  go_enter Try.func45, Try.ntmps45
  go_wp2_with fail
  go_ret
  exact ⟨rfl, rfl⟩
theorem rdrSep_end (h : Sep w0 w (ThRdr r d :: R) rows) :
    Calls Try.prog 47 #[.pointer (some ⟨r, 0, none⟩)] w fun e w' => e = .returned (.bool (!d.2 && d.1.isEmpty)) ∧ w' = w := by
  obtain ⟨D, hP⟩ := h.fst
  exact rdr_end r d.1 d.2 D w hP

set_option maxRecDepth 100000 in
set_option maxHeartbeats 2000000 in
theorem read_any (h : Sep w0 w (ThRdr r d :: R) rows) :
    Calls Try.prog 44 #[.pointer (some ⟨r, 0, none⟩)] w fun e w' => ∃ v, e = .returned v ∧ Sep w0 w' (ThRow 1 v ((readR d).1.map iv) :: ThRdr r (readR d).2 :: R) rows := by
  obtain ⟨i0, hi0, hz0, hz1, hz2⟩ := info_parts infoI
  have HC := Lib.hid (rdrSep_count h 4 (by decide))
  have hb := cntR_bd (most := 4) (by decide) d
  clear h
  unfold readR
  obtain ⟨q, hq⟩ : ∃ q, cntR 4 d = q := ⟨_, rfl⟩
  rw [hq] at HC hb ⊢
  clear hq
  obtain ⟨n, d1⟩ := q
  dsimp only at HC hb ⊢
  obtain ⟨N, rfl⟩ : ∃ N : Nat, n = N := ⟨n.toNat, by omega⟩
  rw [Int.toNat_natCast]
  go_enter Try.func44, Try.ntmps44
  go_wp2_with fail
  refine HC.out.mono ?_
  rintro e w1 ⟨rfl, h1⟩
  have HS := Lib.hid (h1.nilRow 1)
  clear h1 HC
  go_wp2_with fail
  go_loopg [3, 6] N (fun k vl vi wr => ∃ j : Nat, j ≤ N ∧ k = N - j ∧ vi = .int .i64 (j : Int) ∧ Sep w0 wr (ThRow 1 vl ((cntN 3 j d1).1.map iv) :: ThRdr r (cntN 3 j d1).2 :: R) rows)
  case atStart => exact ⟨0, Nat.zero_le _, rfl, rfl, HS.out⟩
  case round =>
    obtain ⟨j, hj, hk, hvi, hS⟩ := hrel
    subst hvi
    clear HS
    by_cases hlt : j < N
    case neg =>
      obtain rfl : j = N := by omega
      have HO := Lib.hid hS
      clear hS
      go_wp2_with fail
      go_ret
      exact ⟨_, rfl, HO.out⟩
    have hsn := cntN_snoc 3 j d1
    have hl := cntN_len 3 j d1
    have hct := rdrSep_count hS.swap 3 (by decide)
    obtain ⟨q, hq⟩ : ∃ q, cntN 3 j d1 = q := ⟨_, rfl⟩
    rw [hq] at hsn hl hct
    obtain ⟨q2, hq2⟩ : ∃ z, cntR 3 q.2 = z := ⟨_, rfl⟩
    rw [hq2] at hsn hct
    obtain ⟨z, d2⟩ := q2
    obtain ⟨xs, d3⟩ := q
    dsimp only at hsn hl hct
    have HSN := Lib.hid (show _ ∧ _ from ⟨hsn, hl⟩)
    have HCT := Lib.hid hct
    clear hsn hl hct hq hq2 hS
    go_wp2_with fail
    refine HCT.out.mono ?_
    rintro e w2 ⟨rfl, h2⟩
    obtain ⟨D, hown, -, back⟩ := h2.swap.use
    have ha1 := Upd.alloc0 w2 (.cells #[.int .i64 z] 3 (0, 0)) []
    obtain ⟨al, nl, cl, hvl, -⟩ := _root_.id hown
    subst hvl
    have hownA : OwnRow _ 1 _ _ D := OwnRow.frame hown (ha1.same (OwnRow.lt hown) (by simp))
    obtain ⟨nb, hnb, hsrc⟩ := (cell_new w2 (.int .i64 z) 3 (0, 0)).src (P := Try.prog) (tx := 22) Try.underlying22 (by intro u hu; rw [List.mem_singleton.1 hu]; rfl)
    obtain rfl : 1 = nb := by simpa using hnb
    have HBD := Lib.hid (show ∀ n', (xs.map iv).length = n' * 1 → n' + 1 ≤ 140737488355328 ∧ (n' + 1) * i0.bytes ≤ 140737488355328 from fun n' hn' => by
      rw [List.length_map, HSN.out.2] at hn'
      rw [hz2]; omega)
    have HBK := Lib.hid back
    clear hown back h2 hnb HCT
    go_wp2_with (at_builtin; go_must (refine wpList_app rfl _ _ 22 22 rfl 1 _ _ _ rfl hownA _ i0 _ Try.underlying22 hi0 hz0 hz1 rfl _ _ _ rfl hsrc HBD.out ?_); intro a7 n7 c7 w7 D7 hown7 hu7)
    have HN := Lib.hid (HBK.out w7 D7 (ThRow 1 (.slice a7 n7 c7) ((xs ++ [z]).map iv)) ((ha1.mono (by simp) (fun b hb => .inr hb) : Upd w2 _ D D).trans hu7) (by rw [List.map_append]; exact hown7))
    clear hown7 hu7 hsrc hownA
    go_roundg (N - (j + 1))
    case rel =>
      refine ⟨j + 1, by omega, rfl, by go_num, ?_⟩
      rw [HSN.out.1]
      exact HN.out
    case measure => omega
end
end Go.Proofs.Ytebmmbommkpjaaa
