/-
  The document's own disk: Rename.
-/
import Derived.Test.YthphinlibhafcaaFdF
namespace Go.Proofs.Ythphinlibhafcaa
open Go.RowKit Go.Av
section
variable {w0 w : World} {t : Nat} {T : DiskS} {R : List Thing} {rows : List (Value × Bs)} {v : Value} {gs : List (Value × FileS)} {X : Thing}
theorem Fd.dropR (h : Fd w0 w t T (X :: R) rows) : Fd w0 w t T R rows := by
  obtain ⟨v, gs, rows', h1, hX⟩ := h
  exact ⟨v, gs, rows', h1, ⟨hX.fs, hX.row, hX.few, hX.sep.third.drop⟩⟩
/-- What stands first beside the disk, taken ahead. -/
theorem Fd.out (h : Fd w0 w t T (X :: R) rows) : ∃ R' rows', (∀ r ∈ rows, r ∈ rows') ∧ Sep w0 w (X :: R') rows' ∧ ∀ {w' : World} {X' : Thing} {rows2 : List (Value × Bs)}, (∀ r ∈ rows', r ∈ rows2) → Sep w0 w' (X' :: R') rows2 → ∀ {rows3 : List (Value × Bs)}, (∀ r ∈ rows3, r ∈ rows2) → Fd w0 w' t T (X' :: R) rows3 := by
  obtain ⟨v, gs, rows', h1, hX⟩ := h
  refine ⟨_, rows', h1, hX.sep.third, fun hr hS rows3 h3 => ⟨v, gs, _, h3, ⟨hX.fs, fun g hg => hr _ (hX.row g hg), hX.few, hS.back2⟩⟩⟩
theorem Fd.newCell (h : Fd w0 w t T R rows) (o : Obj) : Fd w0 (w.alloc o) t T (ThCell w.heap.size o :: R) rows := by
  obtain ⟨v, gs, rows', h1, hX⟩ := h
  exact ⟨v, gs, rows', h1, ⟨hX.fs, hX.row, hX.few, (hX.sep.newCell o).back2⟩⟩
theorem Fd.blk {b : Nat} {o : Obj} (h : Fd w0 w t T (ThCell b o :: R) rows) : w.heap[b]? = some o := by
  obtain ⟨R', rows', -, hS, -⟩ := h.out
  exact hS.blk
theorem Fd.set {b : Nat} {cs : Array Value} {U : TypeId} (h : Fd w0 w t T (ThCell b (.cells cs U (0, 0)) :: R) rows) (i : Nat) (u : Value) : Fd w0 (w.setCell ⟨b, i, none⟩ u) t T (ThCell b (.cells (cs.setIfInBounds i u) U (0, 0)) :: R) rows := by
  obtain ⟨R', rows', h1, hS, back⟩ := h.out
  exact back (fun _ h => h) (hS.set i u) h1

theorem named_sub {l l' : List FileS} (h : Named l) (hs : l'.Sublist l) : Named l' := List.Sublist.nodup (hs.map _) h
theorem del_sub (s : ByteArray) (l : List FileS) : (delN s l).Sublist l := List.filter_sublist
theorem total_del (s : ByteArray) (l : List FileS) : total (delN s l) ≤ total l := by
  unfold delN total
  induction l with
  | nil => simp
  | cons f l ih =>
    rw [List.filter_cons]
    split
    · simp only [List.map_cons, List.sum_cons]; omega
    · simp only [List.map_cons, List.sum_cons]; omega
theorem not_del (s : ByteArray) {l : List FileS} (h : hasN s l = false) : delN s l = l := by
  apply delN_not
  intro x hx e
  unfold hasN at h
  rw [List.any_eq_false] at h
  exact h x hx (by simpa using e)

def RenR (T : DiskS) (s to : ByteArray) (T' : DiskS) : Prop :=
  ((T.rename s to).1 ≠ 0 → T' = T) ∧ ((T.rename s to).1 = 0 → (s = to → T' = T) ∧ (s ≠ to → ∃ f ∈ T.fs, f.name = s ∧ ∃ l', Laid { f with name := to } (delN to (delN s T.fs)) l' ∧ T' = { T with fs := l' }))

set_option maxRecDepth 100000 in
set_option maxHeartbeats 4000000 in
theorem fd_rename (h : Fd w0 w t T R rows) (hN : Named T.fs) (hlen : T.fs.length < 1000) (s to : ByteArray) (hs : s.size ≤ maxLen) (ht : to.size ≤ maxLen) :
    Calls Try.prog 25 #[.pointer (some ⟨t, 0, none⟩), .string s, .string to] w fun e w' => e = .returned (.int .i64 (T.rename s to).1) ∧ ∃ T', RenR T s to T' ∧ Fd w0 w' t T' R rows := by
  have HM1 := Lib.hid (show ∀ w : World, Calls Try.prog 40 #[.string s] w fun e w' => e = .returned (.bool (goodN s)) ∧ w = w' from fun w => fd_may s w hs)
  have HM2 := Lib.hid (show ∀ w : World, Calls Try.prog 40 #[.string to] w fun e w' => e = .returned (.bool (goodN to)) ∧ w = w' from fun w => fd_may to w ht)
  have HF1 := Lib.hid (fd_find h s hs)
  obtain ⟨a, cp, gs0, -, -, hbk0, -, -, -⟩ := h.facts
  have c2 := cell_of hbk0 2 rfl
  rw [show (#[Value.int .i64 T.room, .slice a gs0.length cp, .bool T.off, .int .i64 T.lives] : Array Value)[2] = .bool T.off from rfl] at c2
  have H := Lib.hid h
  clear hbk0 h
  cases hoff : T.off with
  | true =>
    rw [hoff] at c2
    have HR := Lib.hid (show T.rename s to = (10, T) by simp [DiskS.rename, DiskS.may, hoff])
    clear hoff
    go_enter Try.func25, Try.ntmps25
    go_wp2_with fail
    go_ret
    rw [HR.out]
    exact ⟨rfl, T, ⟨fun _ => rfl, fun e => absurd (show (T.rename s to).1 = 10 by rw [HR.out]) (by rw [e]; decide)⟩, H.out⟩
  | false =>
  rw [hoff] at c2
  cases hg1 : goodN s with
  | false =>
    rw [hg1] at HM1
    have HR := Lib.hid (show T.rename s to = (1, T) by simp [DiskS.rename, DiskS.may, hoff, hg1])
    clear hoff hg1
    go_enter Try.func25, Try.ntmps25
    go_wp2_with fail
    refine (HM1.out _).mono ?_
    rintro e w1 ⟨rfl, rfl⟩
    go_wp2_with fail
    go_ret
    rw [HR.out]
    exact ⟨rfl, T, ⟨fun _ => rfl, fun e => absurd (show (T.rename s to).1 = 1 by rw [HR.out]) (by rw [e]; decide)⟩, H.out⟩
  | true =>
  rw [hg1] at HM1
  cases hg2 : goodN to with
  | false =>
    rw [hg2] at HM2
    have HR := Lib.hid (show T.rename s to = (1, T) by simp [DiskS.rename, DiskS.may, hoff, hg2])
    clear hoff hg1 hg2
    go_enter Try.func25, Try.ntmps25
    go_wp2_with fail
    refine (HM1.out _).mono ?_
    rintro e w1 ⟨rfl, rfl⟩
    go_wp2_with fail
    refine (HM2.out _).mono ?_
    rintro e w1 ⟨rfl, rfl⟩
    go_wp2_with fail
    go_ret
    rw [HR.out]
    exact ⟨rfl, T, ⟨fun _ => rfl, fun e => absurd (show (T.rename s to).1 = 1 by rw [HR.out]) (by rw [e]; decide)⟩, H.out⟩
  | true =>
  rw [hg2] at HM2
  have hmay : T.may [s, to] = 0 := by simp [DiskS.may, hoff, hg1, hg2]
  clear hoff hg1 hg2
  cases hh : hasN s T.fs with
  | false =>
    rw [show posN s T.fs = -1 from by simp [posN, hh]] at HF1
    have HR := Lib.hid (show T.rename s to = (4, T) by simp [DiskS.rename, hmay, hh])
    clear hmay hh
    go_enter Try.func25, Try.ntmps25
    go_wp2_with fail
    refine (HM1.out _).mono ?_
    rintro e w1 ⟨rfl, rfl⟩
    go_wp2_with fail
    refine (HM2.out _).mono ?_
    rintro e w1 ⟨rfl, rfl⟩
    go_wp2_with fail
    refine HF1.out.mono ?_
    rintro e w1 ⟨rfl, hW⟩
    subst w1
    go_wp2_with fail
    go_ret
    rw [HR.out]
    exact ⟨rfl, T, ⟨fun _ => rfl, fun e => absurd (show (T.rename s to).1 = 4 by rw [HR.out]) (by rw [e]; decide)⟩, H.out⟩
  | true =>
  obtain ⟨p, hp, hnm, hpos, -⟩ := pos_at hh
  rw [hpos] at HF1
  have HR := Lib.hid (show (T.rename s to).1 = 0 by simp [DiskS.rename, hmay, hh])
  have heq : (s.toList == to.toList) = decide (s = to) := by
    rw [strK_eq]
    by_cases hh : s = to
    · subst hh; simp
    · have : ¬ s.data.toList = to.data.toList := fun e => hh (by cases s; cases to; simpa using e)
      rw [decide_eq_false hh]
      exact beq_false_of_ne this
  clear hmay hh hpos
  by_cases hst : s = to
  · rw [decide_eq_true hst] at heq
    have HST := Lib.hid hst
    clear hst
    go_enter Try.func25, Try.ntmps25
    go_wp2_with fail
    refine (HM1.out _).mono ?_
    rintro e w1 ⟨rfl, rfl⟩
    go_wp2_with fail
    refine (HM2.out _).mono ?_
    rintro e w1 ⟨rfl, rfl⟩
    go_wp2_with fail
    refine HF1.out.mono ?_
    rintro e w1 ⟨rfl, hW⟩
    subst w1
    go_wp2_with fail
    go_ret
    rw [HR.out]
    exact ⟨rfl, T, ⟨fun e => absurd HR.out e, fun _ => ⟨fun _ => rfl, fun h => absurd HST.out h⟩⟩, H.out⟩
  rw [decide_eq_false hst] at heq
  obtain ⟨v, gs, rows', h1, hX⟩ := H.out
  obtain ⟨a1, cp1, rfl, hbk, hcp, hcm, hrow⟩ := hX.facts
  have c1 := cell_of hbk 1 rfl
  rw [show (#[Value.int .i64 T.room, .slice a1 gs.length cp1, .bool T.off, .int .i64 T.lives] : Array Value)[1] = .slice a1 gs.length cp1 from rfl] at c1
  have hpg : p < gs.length := by
    have := hp
    rw [← hX.fs, List.length_map] at this
    exact this
  have hb2 : T.fs[p] = gs[p].2 := by simp only [← hX.fs, List.getElem_map]
  obtain ⟨y, rfl, hys, e0, e1, e2, E0, hE0⟩ := hrow p hpg
  unfold maxLen at hcm
  have h1000 := hX.few
  obtain ⟨⟨vb, fb⟩, hgp⟩ : ∃ q, gs[p] = q := ⟨_, rfl⟩
  obtain ⟨nm0, bb, sf⟩ := fb
  rw [hgp] at e0 e1 e2 hb2 hE0
  dsimp only at e0 e1 e2 hb2 hE0
  obtain ⟨av, nv, cv, hvv, hlv, hnv, hcv, -⟩ := hE0
  subst hvv
  unfold maxLen at hcv
  have hN1 : Named (delN s T.fs) := named_sub hN (del_sub _ _)
  have hdl : delN s T.fs = T.fs.take p ++ T.fs.drop (p + 1) := del_idx hN hp hnm
  have HQ := Lib.hid (show _ ∧ _ ∧ _ ∧ _ ∧ _ ∧ _ from ⟨hst, hN1, hdl, List.getElem_mem hp, hb2, hnm⟩)
  have HVB := Lib.hid (show (Value.slice av nv cv, bb) ∈ rows' from by have := hX.row _ (List.getElem_mem hpg); rw [hgp] at this; exact this)
  have HFX := Lib.hid (show Fd w0 w t T R rows' ∧ _ from ⟨⟨_, gs, rows', fun _ h => h, hX⟩, h1⟩)
  have HLN := Lib.hid hlen
  clear hst hN1 hdl hb2 hnm hgp hX h1 hbk hrow hN H hlen
  go_enter Try.func25, Try.ntmps25
  go_wp2_with fail
  refine (HM1.out _).mono ?_
  rintro e w1 ⟨rfl, rfl⟩
  go_wp2_with fail
  refine (HM2.out _).mono ?_
  rintro e w1 ⟨rfl, rfl⟩
  go_wp2_with fail
  refine HF1.out.mono ?_
  rintro e w1 ⟨rfl, hW⟩
  subst w1
  go_wp2_with fail
  have H2 := HFX.out.1.newCell (.cells #[.string nm0, .slice av nv cv, .int .i64 sf] 52 (0, 0))
  have hrm := fd_remove H2 p hp
  rw [← HQ.out.2.2.1] at hrm
  have HRM := Lib.hid hrm
  obtain ⟨bx, hbx⟩ : ∃ z, z = w.heap.size := ⟨_, rfl⟩
  rw [← hbx] at HRM ⊢
  clear H2 hrm hbx
  refine HRM.out.mono ?_
  rintro e w3 ⟨rfl, h3⟩
  have HF2 := Lib.hid (fd_find h3 to ht)
  have H3 := Lib.hid h3
  clear h3 HRM
  go_wp2_with fail
  cases hh2 : hasN to (delN s T.fs) with
  | false =>
    have hpf := show posN to (delN s T.fs) = -1 from by simp [posN, hh2]
    have HD := Lib.hid (not_del to hh2)
    rw [hpf] at HF2
    have H5 := Lib.hid (show Fd w0 w3 t { T with fs := delN to (delN s T.fs) } _ _ from by rw [HD.out]; exact H3.out)
    clear hpf hh2 HD H3
    refine HF2.out.mono ?_
    rintro e w4 ⟨rfl, hW⟩
    subst w4
    have hb5 := H5.out.blk
    have z0 := frz_of hb5 0
    have z1 := cell_of hb5 0 rfl
    have h6 := H5.out.set 0 (.string to)
    have hb6 := h6.blk
    have l0 := cell_of hb6 0 rfl
    have l1 := cell_of hb6 1 rfl
    have l2 := cell_of hb6 2 rfl
    rw [show ((#[Value.string nm0, .slice av nv cv, .int .i64 sf] : Array Value).setIfInBounds 0 (.string to))[0] = .string to from rfl] at l0
    rw [show ((#[Value.string nm0, .slice av nv cv, .int .i64 sf] : Array Value).setIfInBounds 0 (.string to))[1] = .slice av nv cv from rfl] at l1
    rw [show ((#[Value.string nm0, .slice av nv cv, .int .i64 sf] : Array Value).setIfInBounds 0 (.string to))[2] = .int .i64 sf from rfl] at l2
    rw [show (#[Value.string nm0, .slice av nv cv, .int .i64 sf] : Array Value)[0] = .string nm0 from rfl] at z1
    have HLY := Lib.hid (fd_lay h6 to (.slice av nv cv) bb sf HVB.out (by
      have h1 := HLN.out
      have h2 := (del_sub to (delN s T.fs)).length_le
      have h3 := (del_sub s T.fs).length_le
      show (delN to (delN s T.fs)).length < 1000
      omega))
    clear hb5 h6 hb6
    go_wp2_with fail
    refine HLY.out.mono ?_
    rintro e w8 ⟨rfl, l', hL, h8⟩
    have HE := Lib.hid (show _ ∧ Fd w0 w8 t { T with fs := l' } R rows from ⟨hL, (h8.dropR).also HFX.out.2⟩)
    clear hL h8 HLY
    go_wp2_with fail
    go_ret
    rw [HR.out]
    refine ⟨rfl, { T with fs := l' }, ⟨fun e => absurd HR.out e, fun _ => ⟨fun h => absurd h HQ.out.1, fun _ => ⟨T.fs[p], HQ.out.2.2.2.1, HQ.out.2.2.2.2.2, l', ?_, rfl⟩⟩⟩, HE.out.2⟩
    rw [HQ.out.2.2.2.2.1]
    exact HE.out.1
  | true =>
    obtain ⟨q, hq, hqn, hqp, -⟩ := pos_at hh2
    rw [hqp] at HF2
    have HRM2 := Lib.hid (show Calls Try.prog 42 _ _ _ from fd_remove H3.out q hq)
    have HD := Lib.hid (del_idx HQ.out.2.1 hq hqn)
    clear hqp hh2 hqn hq
    refine HF2.out.mono ?_
    rintro e w4 ⟨rfl, hW⟩
    subst w4
    go_wp2_with fail
    refine HRM2.out.mono ?_
    rintro e w5 ⟨rfl, h5⟩
    have H5 := Lib.hid (show Fd w0 w5 t { T with fs := delN to (delN s T.fs) } _ _ from by rw [HD.out]; exact h5)
    clear h5 HRM2 HD H3
    have hb5 := H5.out.blk
    have z0 := frz_of hb5 0
    have z1 := cell_of hb5 0 rfl
    have h6 := H5.out.set 0 (.string to)
    have hb6 := h6.blk
    have l0 := cell_of hb6 0 rfl
    have l1 := cell_of hb6 1 rfl
    have l2 := cell_of hb6 2 rfl
    rw [show ((#[Value.string nm0, .slice av nv cv, .int .i64 sf] : Array Value).setIfInBounds 0 (.string to))[0] = .string to from rfl] at l0
    rw [show ((#[Value.string nm0, .slice av nv cv, .int .i64 sf] : Array Value).setIfInBounds 0 (.string to))[1] = .slice av nv cv from rfl] at l1
    rw [show ((#[Value.string nm0, .slice av nv cv, .int .i64 sf] : Array Value).setIfInBounds 0 (.string to))[2] = .int .i64 sf from rfl] at l2
    rw [show (#[Value.string nm0, .slice av nv cv, .int .i64 sf] : Array Value)[0] = .string nm0 from rfl] at z1
    have HLY := Lib.hid (fd_lay h6 to (.slice av nv cv) bb sf HVB.out (by
      have h1 := HLN.out
      have h2 := (del_sub to (delN s T.fs)).length_le
      have h3 := (del_sub s T.fs).length_le
      show (delN to (delN s T.fs)).length < 1000
      omega))
    clear hb5 h6 hb6
    go_wp2_with fail
    refine HLY.out.mono ?_
    rintro e w8 ⟨rfl, l', hL, h8⟩
    have HE := Lib.hid (show _ ∧ Fd w0 w8 t { T with fs := l' } R rows from ⟨hL, (h8.dropR).also HFX.out.2⟩)
    clear hL h8 HLY
    go_wp2_with fail
    go_ret
    rw [HR.out]
    refine ⟨rfl, { T with fs := l' }, ⟨fun e => absurd HR.out e, fun _ => ⟨fun h => absurd h HQ.out.1, fun _ => ⟨T.fs[p], HQ.out.2.2.2.1, HQ.out.2.2.2.2.2, l', ?_, rfl⟩⟩⟩, HE.out.2⟩
    rw [HQ.out.2.2.2.2.1]
    exact HE.out.1
end
end Go.Proofs.Ythphinlibhafcaa
