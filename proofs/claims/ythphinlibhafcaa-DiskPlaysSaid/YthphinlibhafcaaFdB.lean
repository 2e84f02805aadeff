/-
  The document's own disk: Size, Read, Sync, On.
-/
import Derived.Test.YthphinlibhafcaaFdA
namespace Go.Proofs.Ythphinlibhafcaa
open Go.RowKit Go.Av

theorem pos_at {s : ByteArray} {l : List FileS} (h : hasN s l = true) : ∃ p : Nat, ∃ hp : p < l.length, l[p].name = s ∧ posN s l = p ∧ ∀ j (hj : j < l.length), j < p → l[j].name ≠ s := by
  obtain ⟨p, hpe⟩ : ∃ p, (l.findIdx fun f => decide (f.name = s)) = p := ⟨_, rfl⟩
  have hlt : (l.findIdx fun f => decide (f.name = s)) < l.length := by
    apply List.findIdx_lt_length_of_exists
    unfold hasN at h
    rw [List.any_eq_true] at h
    exact h
  refine ⟨p, by rw [← hpe]; exact hlt, ?_, ?_, fun j hj hjp => ?_⟩
  · have := List.findIdx_getElem (w := hlt)
    simp only [hpe, decide_eq_true_eq] at this
    exact this
  · unfold posN
    rw [if_pos h, hpe]
  · rw [← hpe] at hjp
    simpa using List.not_of_lt_findIdx hjp
theorem split_at {l : List FileS} {p : Nat} (hp : p < l.length) : l = l.take p ++ l[p] :: l.drop (p + 1) := by
  rw [← List.drop_eq_getElem_cons hp, List.take_append_drop]
theorem upd_idx {s : ByteArray} {φ : FileS → FileS} {l : List FileS} {p : Nat} (hN : Named l) (hp : p < l.length) (hs : l[p].name = s) : updN s φ l = l.set p (φ l[p]) := by
  obtain ⟨f, hf⟩ : ∃ f, l[p] = f := ⟨_, rfl⟩
  have h1 := split_at hp
  rw [hf] at h1 hs
  have h2 := h1 ▸ hN
  rw [List.set_eq_take_append_cons_drop, if_pos hp, hf]
  conv => lhs; rw [h1]
  exact updN_mid (fun x hx => by rw [← hs]; exact h2.before x hx) hs (fun x hx => by rw [← hs]; exact h2.behind x hx)
theorem del_idx {s : ByteArray} {l : List FileS} {p : Nat} (hN : Named l) (hp : p < l.length) (hs : l[p].name = s) : delN s l = l.take p ++ l.drop (p + 1) := by
  obtain ⟨f, hf⟩ : ∃ f, l[p] = f := ⟨_, rfl⟩
  have h1 := split_at hp
  rw [hf] at h1 hs
  have h2 := h1 ▸ hN
  conv => lhs; rw [h1]
  exact delN_mid (fun x hx => by rw [← hs]; exact h2.before x hx) hs (fun x hx => by rw [← hs]; exact h2.behind x hx)
theorem get_idx {s : ByteArray} {l : List FileS} {p : Nat} (hN : Named l) (hp : p < l.length) (hs : l[p].name = s) : getN s l = l[p].b := by
  obtain ⟨f, hf⟩ : ∃ f, l[p] = f := ⟨_, rfl⟩
  have h1 := split_at hp
  rw [hf] at h1 hs
  have h2 := h1 ▸ hN
  conv => lhs; rw [h1]
  rw [hf]
  exact getN_mid (fun x hx => by rw [← hs]; exact h2.before x hx) hs
theorem ask_has {T : DiskS} {s : ByteArray} (h : T.ask s = 0) : hasN s T.fs = true := by
  unfold DiskS.ask at h
  split at h
  · rename_i h1; exact absurd h h1
  · split at h
    · assumption
    · cases h
theorem ask_no {T : DiskS} {s : ByteArray} (h : T.ask s ≠ 0) : askP T s = -1 := by unfold askP; rw [if_neg h]
section
variable {w0 w : World} {t : Nat} {T : DiskS} {R : List Thing} {rows : List (Value × Bs)} {v : Value} {gs : List (Value × FileS)}

set_option maxHeartbeats 1000000 in
theorem fd_size (h : Fd w0 w t T R rows) (hr : (total T.fs : Int) ≤ 1048576) :
    Calls Try.prog 38 #[.pointer (some ⟨t, 0, none⟩)] w fun e w' => e = .returned (.int .i64 (total T.fs)) ∧ w' = w := by
  obtain ⟨a, cp, gs, hgs, h1000, hb, hcp, hcm, hrow⟩ := h.facts
  have c1 := cell_of hb 1 rfl
  rw [show (#[Value.int .i64 T.room, .slice a gs.length cp, .bool T.off, .int .i64 T.lives] : Array Value)[1] = .slice a gs.length cp from rfl] at c1
  unfold maxLen at hcm
  have HR := Lib.hid (show _ ∧ _ from ⟨hrow, hgs⟩)
  have HT := Lib.hid hr
  clear h hb hrow hgs hr
  go_enter Try.func38, Try.ntmps38
  go_wp2_with fail
  go_loopg [3, 4] gs.length (fun k vn vi wr => wr = w ∧ ∃ p : Nat, p ≤ gs.length ∧ k = gs.length - p ∧ vi = .int .i64 (p : Int) ∧ vn = .int .i64 (total ((gs.take p).map (·.2)) : Int))
  case atStart => exact ⟨rfl, 0, Nat.zero_le _, rfl, rfl, rfl⟩
  case round =>
    obtain ⟨hW, p, hp, hk, hvi, hvn⟩ := hrel
    subst wr hvi hvn
    by_cases hlt : p < gs.length
    · obtain ⟨y, rfl, hys, e0, e1, e2, E, hE⟩ := HR.out.1 p hlt
      clear e0 e2
      have hstep : total ((gs.take (p + 1)).map (·.2)) = total ((gs.take p).map (·.2)) + gs[p].2.b.length := by
        rw [List.take_succ_eq_append_getElem hlt, List.map_append, total_app]
        simp [total]
      have hle : (total ((gs.take (p + 1)).map (·.2)) : Int) ≤ 1048576 := by
        have h1 := HT.out
        rw [← HR.out.2] at h1
        have h2 : total (gs.map (·.2)) = total ((gs.take (p + 1)).map (·.2)) + total ((gs.drop (p + 1)).map (·.2)) := by
          rw [← total_app, ← List.map_append, List.take_append_drop]
        omega
      obtain ⟨av, nv, cv, hv, hlv, hnv, hcv, -⟩ := hE
      rw [hv] at e1
      rw [List.length_map, Nat.mul_one] at hlv
      obtain ⟨n1, hn1⟩ : ∃ n1, total ((gs.take p).map (·.2)) = n1 := ⟨_, rfl⟩
      rw [hn1] at hstep ⊢
      rw [hstep] at hle
      have HS := Lib.hid hstep
      have HV := Lib.hid hlv
      rw [hlv] at hle
      clear hstep hv hn1 hlv
      go_wp2_with fail
      go_roundg (gs.length - (p + 1))
      case rel => exact ⟨rfl, p + 1, by omega, rfl, by go_num, by rw [HS.out, HV.out]; go_num⟩
      case measure => omega
    obtain rfl : p = gs.length := by omega
    have HF := Lib.hid (show total ((gs.take gs.length).map (·.2)) = total T.fs from by rw [List.take_length, HR.out.2])
    rw [HF.out]
    clear HF
    obtain ⟨n1, hn1⟩ : ∃ n1, total T.fs = n1 := ⟨_, rfl⟩
    rw [hn1]
    have HN := Lib.hid hn1
    clear hn1
    go_wp2_with fail
    go_ret
    rw [HN.out]
    exact ⟨rfl, rfl⟩

def readS (T : DiskS) (s : ByteArray) : Bs := if T.ask s = 0 then getN s T.fs else []
set_option maxHeartbeats 1000000 in
theorem fd_read (h : Fd w0 w t T R rows) (hN : Named T.fs) (s : ByteArray) (hs : s.size ≤ maxLen) :
    Calls Try.prog 43 #[.pointer (some ⟨t, 0, none⟩), .string s] w fun e w' => ∃ v, e = .returned (.tuple #[v, .int .i64 (T.ask s)]) ∧ w' = w ∧ Fd w0 w t T R ((v, readS T s) :: rows) := by
  have HK := Lib.hid (fd_ask h s hs)
  by_cases h0 : T.ask s = 0
  · obtain ⟨p, hp, hnm, hpos, -⟩ := pos_at (ask_has h0)
    have hA : askP T s = p := by unfold askP; rw [if_pos h0, hpos]
    have hrd : readS T s = T.fs[p].b := by unfold readS; rw [if_pos h0, get_idx hN hp hnm]
    rw [h0, hA] at HK
    obtain ⟨v, gs, rows', h1, hX⟩ := h
    obtain ⟨a, cp, rfl, hb, hcp, hcm, hrow⟩ := hX.facts
    have c1 := cell_of hb 1 rfl
    rw [show (#[Value.int .i64 T.room, .slice a gs.length cp, .bool T.off, .int .i64 T.lives] : Array Value)[1] = .slice a gs.length cp from rfl] at c1
    have hpg : p < gs.length := by
      have := hp
      rw [← hX.fs, List.length_map] at this
      exact this
    obtain ⟨y, rfl, hys, e0, e1, e2, -⟩ := hrow p hpg
    unfold maxLen at hcm
    have hb2 : T.fs[p].b = gs[p].2.b := by
      simp only [← hX.fs, List.getElem_map]
    have HX := Lib.hid (show Fd w0 w t T R ((gs[p].1, readS T s) :: rows) from ⟨_, gs, rows', fun r hr => by
      rcases List.mem_cons.1 hr with rfl | hr
      · rw [hrd, hb2]; exact hX.row _ (List.getElem_mem hpg)
      · exact h1 r hr, hX⟩)
    have h1000 := hX.few
    obtain ⟨vv, hvv⟩ : ∃ vv, gs[p].1 = vv := ⟨_, rfl⟩
    rw [hvv] at HX e1
    have H0 := Lib.hid h0
    clear hX h1 hb hrow e0 e2 hnm hpos hA hrd hb2 hvv h0
    go_enter Try.func43, Try.ntmps43
    go_wp2_with fail
    refine HK.out.mono ?_
    rintro e w1 ⟨rfl, hW⟩
    subst w1
    go_wp2_with fail
    go_ret2
    exact ⟨vv, by rw [H0.out]; rfl, rfl, HX.out⟩
  · obtain ⟨k, hk⟩ : ∃ k, T.ask s = k := ⟨_, rfl⟩
    have HX := Lib.hid (show Fd w0 w t T R ((.slice none 0 0, readS T s) :: rows) from by
      obtain ⟨v, gs, rows', h1, hX⟩ := h
      refine ⟨v, gs, (.slice none 0 0, []) :: rows', fun r hr => ?_, ⟨hX.fs, fun g hg => List.mem_cons_of_mem _ (hX.row g hg), hX.few, hX.sep.nil⟩⟩
      rcases List.mem_cons.1 hr with rfl | hr
      · unfold readS; rw [if_neg h0]; simp
      · exact List.mem_cons_of_mem _ (h1 r hr))
    rw [ask_no h0, hk] at HK
    rw [hk] at h0
    have HKK := Lib.hid hk
    clear hk h
    go_enter Try.func43, Try.ntmps43
    go_wp2_with fail
    refine HK.out.mono ?_
    rintro e w1 ⟨rfl, hW⟩
    subst w1
    go_wp2_with fail
    go_ret2
    exact ⟨.slice none 0 0, by rw [HKK.out]; rfl, rfl, HX.out⟩

set_option maxHeartbeats 1000000 in
theorem fd_sync (h : Fd w0 w t T R rows) (hN : Named T.fs) (s : ByteArray) (hs : s.size ≤ maxLen) :
    Calls Try.prog 23 #[.pointer (some ⟨t, 0, none⟩), .string s] w fun e w' => e = .returned (.int .i64 (T.sync s).1) ∧ Fd w0 w' t (T.sync s).2 R rows := by
  have HK := Lib.hid (fd_ask h s hs)
  by_cases h0 : T.ask s = 0
  · obtain ⟨p, hp, hnm, hpos, -⟩ := pos_at (ask_has h0)
    have hA : askP T s = p := by unfold askP; rw [if_pos h0, hpos]
    rw [h0, hA] at HK
    obtain ⟨v, gs, rows', h1, hX⟩ := h
    obtain ⟨a, cp, rfl, hb, hcp, hcm, hrow⟩ := hX.facts
    have c1 := cell_of hb 1 rfl
    rw [show (#[Value.int .i64 T.room, .slice a gs.length cp, .bool T.off, .int .i64 T.lives] : Array Value)[1] = .slice a gs.length cp from rfl] at c1
    have hpg : p < gs.length := by
      have := hp
      rw [← hX.fs, List.length_map] at this
      exact this
    obtain ⟨y, rfl, hys, e0, e1, e2, E, hE⟩ := hrow p hpg
    unfold maxLen at hcm
    have hb2 : T.fs[p] = gs[p].2 := by
      simp only [← hX.fs, List.getElem_map]
    obtain ⟨av, nv, cv, hv, hlv, hnv, hcv, -⟩ := hE
    rw [List.length_map, Nat.mul_one] at hlv
    obtain ⟨y2, hset⟩ := hX.setG hpg (j := 2) (by decide) (gs[p].1, gs[p].2.sync) (.int .i64 nv) (by unfold FileS.sync; rw [hlv]; rfl) (hX.row gs[p] (List.getElem_mem hpg)) e0
    have HF := Lib.hid (show Fd w0 _ t (T.sync s).2 R rows from ⟨_, _, rows', h1, by
      have hq : (T.sync s).2 = { T with fs := T.fs.set p gs[p].2.sync } := by
        unfold DiskS.sync
        rw [if_pos h0, upd_idx hN hp hnm, hb2]
      rw [hq]
      have := hset
      rw [show gs.length = (gs.set p (gs[p].1, gs[p].2.sync)).length by rw [List.length_set]] at this
      exact this⟩)
    have h1000 := hX.few
    rw [hv] at e1
    unfold maxLen at hcv
    have H0 := Lib.hid (show (T.sync s).1 = 0 by unfold DiskS.sync; rw [if_pos h0])
    clear hX h1 hb hrow e0 hnm hpos hA hb2 h0 hset hv hlv
    go_enter Try.func23, Try.ntmps23
    go_wp2_with fail
    refine HK.out.mono ?_
    rintro e w1 ⟨rfl, hW⟩
    subst w1
    go_wp2_with fail
    refine wp_region_M (fun W => W.cell? ⟨t, 1, none⟩ = some (.slice (some y) gs.length cp) ∧ W.cell? ⟨(y.add (p * 3)).block, (y.add (p * 3)).off + 1, none⟩ = some (.slice av nv cv)) 14 (by kernel_rfl) ?_
    refine wpAnyM_take (by kernel_rfl) (by intro c a d v w h; cases d <;> exact h) [(0, false), (1, false), (2, false), (3, true), (4, false), (5, false), (6, false), (7, false), (8, true), (9, false), (10, false), (11, false), (12, true), (13, false)] (fuel := 3) (by kernel_rfl) ?_
    apply Exists.intro; refine ⟨?_, ⟨c1, e1⟩, ?_⟩
    · iterate 14 ((first | (apply yieldN; (· (simp only [List.getElem?_toArray, List.getElem?_cons_succ, List.getElem?_cons_zero]; try rfl)); (· rfl)) | ((first | apply yieldP | apply yieldL); (· (simp only [List.getElem?_toArray, List.getElem?_cons_succ, List.getElem?_cons_zero]; try rfl)); (· rfl); (· (intros; go_simp; try with_reducible rfl)))); (· (simp only [Act.put, List.setIfInBounds_toArray, List.set_cons_zero, List.set_cons_succ]; try rfl)))
      exact rfl
    refine wpAnyM_of_any _ _ _ _ (by decide) ?_
    refine wpAny_list [14, 15, 16] (fuel := 0) (by kernel_rfl) ?_
    simp only [List.filterMap_cons, List.filterMap_nil, List.getElem?_toArray, List.getElem?_cons_succ, List.getElem?_cons_zero]
    go_wp2_with fail
    go_ret
    rw [H0.out]
    exact ⟨rfl, HF.out.drew⟩
  · obtain ⟨k, hk⟩ : ∃ k, T.ask s = k := ⟨_, rfl⟩
    rw [ask_no h0, hk] at HK
    have HX := Lib.hid (show T.sync s = (k, T) by unfold DiskS.sync; rw [if_neg h0, hk])
    rw [hk] at h0
    have H := Lib.hid h
    clear hk h
    go_enter Try.func23, Try.ntmps23
    go_wp2_with fail
    refine HK.out.mono ?_
    rintro e w1 ⟨rfl, hW⟩
    subst w1
    go_wp2_with fail
    go_ret
    rw [HX.out]
    exact ⟨rfl, H.out⟩
set_option maxHeartbeats 1000000 in
theorem fd_on (h : Fd w0 w t T R rows) : Calls Try.prog 28 #[.pointer (some ⟨t, 0, none⟩)] w fun e w' => e = .returned (.tuple #[]) ∧ Fd w0 w' t T.on R rows := by
  obtain ⟨v, gs, rows', h1, hX⟩ := h
  have hb := hX.sep.blk
  have hs1 := hX.sep.set 2 (.bool false)
  have hb1 := hs1.blk
  have y2 := frz_of hb 2
  have y3 := frz_of hb1 3
  have c2 := cell_of hb 2 rfl
  have c3 := cell_of hb1 3 rfl
  rw [show ((#[Value.int .i64 T.room, v, .bool T.off, .int .i64 T.lives] : Array Value).setIfInBounds 2 (.bool false))[3] = .int .i64 T.lives from rfl] at c3
  rw [show (#[Value.int .i64 T.room, v, .bool T.off, .int .i64 T.lives] : Array Value)[2] = .bool T.off from rfl] at c2
  have HF := Lib.hid (show Fd w0 _ t T.on R rows from ⟨v, gs, rows', h1, ⟨hX.fs, hX.row, hX.few, hs1.set 3 (.int .i64 (wrap64 (T.lives + 1)))⟩⟩)
  clear hX h1 hb hs1 hb1
  go_enter Try.func28, Try.ntmps28
  go_wp2_with fail
  go_end0
  exact ⟨rfl, HF.out⟩
end
end Go.Proofs.Ythphinlibhafcaa
