/-
  The log's At and CutTo: the walks.
-/
import Derived.Test.YtbfblekabnkghaaWalD
namespace Go.Proofs.Ytbfblekabnkghaa
open Go.RowKit Go.Av

/-- The log's cell turned, with parts of what it had. -/
theorem log_parts {w : World} {g d : Nat} {L : LogS} {D : List Nat} (h : LogAt w g d L D) :
    ∃ vr ve Dr De T, w.heap[g]? = some (.cells #[.pointer (some ⟨d, 0, none⟩), .int .i64 L.lives, .bool L.done, .int .i64 L.first, vr, ve] T (0, 0)) ∧ RecsAt w vr L.recs Dr ∧ OwnRow w 1 ve (endsS L.recs) De ∧
      ∀ w2 (L' : LogS) v4 v5 Dr' De', Upd w w2 [g] [g] → w2.heap[g]? = some (.cells #[.pointer (some ⟨d, 0, none⟩), .int .i64 L'.lives, .bool L'.done, .int .i64 L'.first, v4, v5] T (0, 0)) →
        RecsAt w v4 L'.recs Dr' → OwnRow w 1 v5 (endsS L'.recs) De' → (∀ x ∈ Dr', x ∈ Dr) → (∀ x ∈ De', x ∈ De) → ∃ D', LogAt w2 g d L' D' ∧ Upd w w2 D D' := by
  obtain ⟨vr, ve, Dr, De, T, h1, h2, h3, rfl, h5, h6⟩ := h
  refine ⟨vr, ve, Dr, De, T, h1, h2, h3, fun w2 L' v4 v5 Dr' De' hu hg hr ho hDr hDe => ?_⟩
  refine ⟨g :: Dr' ++ De', ⟨v4, v5, Dr', De', T, hg, hr.frame (hu.same hr.lt (fun b hb => by simpa using (h5 b (hDr b hb)).1)), ho.frame (hu.same ho.lt (fun b hb => by simpa using h6 b (hDe b hb))), rfl, fun x hx => ⟨(h5 x (hDr x hx)).1, fun hd => (h5 x (hDr x hx)).2 (hDe x hd)⟩, fun x hx => h6 x (hDe x hx)⟩, ?_⟩
  refine hu.mono (by simp) (fun b hb => .inr ?_)
  simp only [List.mem_append, List.mem_cons] at hb ⊢
  rcases hb with (hb | hb) | hb
  · exact .inl (.inl hb)
  · exact .inl (.inr (hDr b hb))
  · exact .inr (hDe b hb)

theorem endsS_take (recs : List Bs) (k : Nat) (hk : k ≤ recs.length) : (endsS recs).take k = endsS (recs.take k) := by
  unfold endsS
  rw [← List.map_take, List.take_range, List.length_take]
  refine List.map_congr_left fun i hi => ?_
  have := List.mem_range.1 hi
  rw [List.take_take, Nat.min_eq_left (by omega)]

def atS (L : LogS) (S : DiskS) (n : Int) : Bs × Int × LogS :=
  if offS L S then ([], 10, doneS L) else if n < L.first ∨ L.first + (L.recs.length : Int) ≤ n then ([], 4, L) else ((L.recs[(n - L.first).toNat]?).getD [], 0, L)
def cutS (L : LogS) (S : DiskS) (n : Int) : Int × LogS × DiskS :=
  if offS L S then (10, doneS L, S) else if n < L.first ∨ L.first + (L.recs.length : Int) < n then (1, L, S) else if n = L.first + (L.recs.length : Int) then (0, L, S) else
    if (S.cut nmLog ((frames (L.recs.take (n - L.first).toNat)).length : Int)).1 ≠ 0 then ((S.cut nmLog ((frames (L.recs.take (n - L.first).toNat)).length : Int)).1, doneS L, (S.cut nmLog ((frames (L.recs.take (n - L.first).toNat)).length : Int)).2)
    else (0, { L with recs := L.recs.take (n - L.first).toNat }, (S.cut nmLog ((frames (L.recs.take (n - L.first).toNat)).length : Int)).2)

section
variable {w0 w : World} {g d : Nat} {L : LogS} {S : DiskS} {R : List Thing} {rows : List (Value × Bs)}

theorem offS_false {o : Bool} (h : offS L S = o) (e : o = false) : L.done = false := by
  rw [e] at h
  unfold offS at h
  simp only [Bool.or_eq_false_iff] at h
  exact h.1.1

set_option maxRecDepth 100000 in
set_option maxHeartbeats 1000000 in
theorem at_log (n : Int) (hf1 : 1 ≤ L.first) (hf2 : L.first ≤ 1099511627776) (hml : L.recs.length ≤ 1073741824) (hsm : ∀ r ∈ L.recs, r.length ≤ 20000) (h : Sep w0 w (ThLog g d L :: ThDisk d S :: R) rows) :
    Calls Try.prog 19 #[.pointer (some ⟨g, 0, none⟩), .int .i64 n] w fun e w' => ∃ v, e = .returned (.tuple #[v, .int .i64 (atS L S n).2.1]) ∧ Sep w0 w' (ThLog g d (atS L S n).2.2 :: ThDisk d S :: R) ((v, (atS L S n).1) :: rows) := by
  obtain ⟨q, hq⟩ : ∃ q, atS L S n = q := ⟨_, rfl⟩
  rw [hq]
  unfold atS at hq
  have H := Lib.hid h
  obtain ⟨o, ho⟩ : ∃ o, offS L S = o := ⟨_, rfl⟩
  rw [ho] at hq
  have HQ := Lib.hid hq
  have HSM := Lib.hid hsm
  clear hq h hsm
  go_enter Try.func19, Try.ntmps19
  go_wp2_with fail
  refine (off_any H.out).mono ?_
  rintro e w1 ⟨rfl, h⟩
  rw [ho]
  have H1 := Lib.hid h
  clear h ho H
  cases o with
  | true =>
    go_wp2_with fail
    refine (logCheck_any 10 H1.out).mono ?_
    rintro e w2 ⟨rfl, h⟩
    have H2 := Lib.hid h
    clear h
    go_wp2_with fail
    go_ret2
    rw [← HQ.out]
    exact ⟨_, rfl, by simpa [doneS] using H2.out.nil⟩
  | false =>
  obtain ⟨ar, cr, ae, ce, T, h1, hn4, hc4, -⟩ := logc H1.out
  unfold maxLen at hc4
  have c3 := cell_of h1 3 rfl
  have HQ := Lib.hid (show (if n < L.first ∨ L.first + (L.recs.length : Int) ≤ n then ([], 4, L) else ((L.recs[(n - L.first).toNat]?).getD [], 0, L)) = q by rw [← HQ.out]; rfl)
  obtain ⟨m, hm⟩ : ∃ m, m = L.recs.length := ⟨_, rfl⟩
  obtain ⟨f, hf⟩ : ∃ f, f = L.first := ⟨_, rfl⟩
  rw [← hm] at HQ hn4 hml
  rw [← hf] at c3 HQ hf1 hf2
  have HM := Lib.hid (show m = L.recs.length ∧ f = L.first from ⟨hm, hf⟩)
  have HNX := Lib.hid (show IntKind.i64.wrap (L.first + (L.recs.length : Int)) = f + (m : Int) by rw [← hm, ← hf]; exact IntWalk.i64_in _ (by omega))
  clear hm hf h1
  by_cases hlo : n < f
  · go_wp2_with fail
    go_ret2
    rw [← HQ.out, if_pos (.inl hlo)]
    exact ⟨_, rfl, H1.out.nil⟩
  go_wp2_with fail
  refine (logNext_any H1.out).mono ?_
  rintro e w2 ⟨rfl, h⟩
  rw [HNX.out]
  have H2 := Lib.hid h
  clear h c3 hc4 hn4
  by_cases hhi : n ≥ f + (m : Int)
  · go_wp2_with fail
    go_ret2
    rw [← HQ.out, if_pos (.inr hhi)]
    exact ⟨_, rfl, H2.out.nil⟩
  obtain ⟨ar, cr, ae, ce, T, h1, hn4, hc4, -⟩ := logc H2.out
  unfold maxLen at hc4
  have c3 := cell_of h1 3 rfl
  have c4 := cell_of h1 4 rfl
  obtain ⟨D1, hP1, -, -⟩ := H2.out.use
  obtain ⟨vr, ve, Dr, De, T', h1', hrec, -⟩ := hP1
  rw [h1] at h1'
  cases h1'
  obtain ⟨k, hk⟩ : ∃ k : Nat, n = f + (k : Int) := ⟨(n - f).toNat, by omega⟩
  have hkm : k < m := by omega
  have hkl : k < L.recs.length := by rw [← HM.out.1]; exact hkm
  obtain ⟨y, vk, Ek, rfl, hys, hcy, hrk, -⟩ := recsCell hrec (List.getElem?_eq_getElem hkl)
  rw [← HM.out.1] at c4 hn4
  rw [← HM.out.2] at c3
  have hrl := HSM.out _ (List.getElem_mem hkl)
  obtain ⟨r, hr⟩ : ∃ r, L.recs[k] = r := ⟨_, rfl⟩
  rw [hr] at hrk hrl
  have HQ2 := Lib.hid (show q = (r, 0, L) by
    rw [← HQ.out, if_neg (by omega), hk, show f + (k : Int) - f = k by omega, Int.toNat_natCast, List.getElem?_eq_getElem hkl, hr]
    rfl)
  subst hk
  have HRK := Lib.hid hrk
  clear hrk hrec h1 hr hkl HQ
  have e1 : IntKind.i64.wrap (f + (k : Int) - f) = (k : Int) := by rw [IntWalk.i64_in _ (by omega)]; omega
  have e2 : IntKind.i64.wrap (k : Int) = (k : Int) := IntWalk.i64_in _ (by omega)
  go_wp2_with fail
  refine wp_region_M (fun W => W.cell? ⟨g, 4, none⟩ = some (.slice (some y) m cr) ∧ W.cell? ⟨g, 3, none⟩ = some (.int .i64 f) ∧ W.cell? (y.add k) = some vk) 13 (by kernel_rfl) ?_
  refine wpAnyM_take (by kernel_rfl) (by intro c a d v w h; cases d <;> exact h) [(0, false), (1, false), (2, false), (3, true), (4, false), (5, false), (6, false), (7, false), (8, true), (9, false), (10, false), (11, true)] (fuel := 3) (by kernel_rfl) ?_
  apply Exists.intro; refine ⟨?_, ⟨c4, c3, hcy⟩, ?_⟩
  · iterate 12 ((first | (apply yieldN; (· (simp only [List.getElem?_toArray, List.getElem?_cons_succ, List.getElem?_cons_zero]; try rfl)); (· rfl)) | ((first | apply yieldP | apply yieldL); (· (simp only [List.getElem?_toArray, List.getElem?_cons_succ, List.getElem?_cons_zero]; try rfl)); (· rfl); (· (intros; go_simp; try with_reducible rfl)))); (· (simp only [Act.put, List.setIfInBounds_toArray, List.set_cons_zero, List.set_cons_succ]; try rfl)))
    exact rfl
  refine wpAnyM_one (fuel := 2) (i := 12) (by kernel_rfl) (by rfl) (fun K hK => ?_)    -- CALL
  go_wp2_with (go_at_call 35; go_must (refine (clone_any vk r Ek _ (HRK.out.frame (w' := w2.drew) (fun _ _ => rfl)) (by omega)).mono ?_); rintro e w3 ⟨v3, D3, rfl, hown3, hu3⟩)
  obtain ⟨E3, hr3, hE3⟩ := hown3.read
  have H3 := Lib.hid (H2.out.drew.row hu3 hr3 hE3)
  have c4 := upd_cell hu3.drewL c4
  have c3 := upd_cell hu3.drewL c3
  have hcy := upd_cell hu3.drewL hcy
  refine hK _ _ ⟨c4, c3, hcy⟩ ?_
  clear hK hu3 hown3 hr3 hE3
  refine wpAnyM_of_any _ _ _ _ (by decide) ?_
  refine wpAny_list [13, 14] (fuel := 0) (by kernel_rfl) ?_
  simp only [List.filterMap_cons, List.filterMap_nil, List.getElem?_toArray, List.getElem?_cons_succ, List.getElem?_cons_zero]
  go_wp2_with fail
  go_ret2
  rw [HQ2.out]
  exact ⟨_, rfl, H3.out⟩

set_option maxRecDepth 100000 in
set_option maxHeartbeats 1000000 in
theorem cutTo_any (n : Int) (hf1 : 1 ≤ L.first) (hf2 : L.first ≤ 1099511627776) (hml : (frames L.recs).length ≤ 1073741824) (h : Sep w0 w (ThLog g d L :: ThDisk d S :: R) rows) :
    Calls Try.prog 23 #[.pointer (some ⟨g, 0, none⟩), .int .i64 n] w fun e w' => e = .returned (.int .i64 (cutS L S n).1) ∧ Sep w0 w' (ThLog g d (cutS L S n).2.1 :: ThDisk d (cutS L S n).2.2 :: R) rows := by
  obtain ⟨i0, hi0, hz0, hz1, hz2⟩ := info_parts infoI
  obtain ⟨j0, hj0, hy0, hy1, hy2⟩ := info_parts infoB
  obtain ⟨q, hq⟩ : ∃ q, cutS L S n = q := ⟨_, rfl⟩
  rw [hq]
  unfold cutS at hq
  have H := Lib.hid h
  obtain ⟨o, ho⟩ : ∃ o, offS L S = o := ⟨_, rfl⟩
  rw [ho] at hq
  have HQ := Lib.hid hq
  have HDS := Lib.hid (offS_false ho)
  have hmn := frames_many L.recs
  clear hq h
  go_enter Try.func23, Try.ntmps23
  go_wp2_with fail
  refine (off_any H.out).mono ?_
  rintro e w1 ⟨rfl, h⟩
  rw [ho]
  have H1 := Lib.hid h
  clear h ho H
  cases o with
  | true =>
    go_wp2_with fail
    refine (logCheck_any 10 H1.out).mono ?_
    rintro e w2 ⟨rfl, h⟩
    have H2 := Lib.hid h
    clear h
    go_wp2_with fail
    go_ret
    rw [← HQ.out]
    exact ⟨rfl, by simpa [doneS] using H2.out⟩
  | false =>
  obtain ⟨ar, cr, ae, ce, T, h1, hn4, hc4, -⟩ := logc H1.out
  unfold maxLen at hc4
  have c3 := cell_of h1 3 rfl
  have HD := Lib.hid (HDS.out rfl)
  have hq := HQ.out
  rw [if_neg (by decide)] at hq
  obtain ⟨m, hm⟩ : ∃ m, m = L.recs.length := ⟨_, rfl⟩
  obtain ⟨f, hf⟩ : ∃ f, f = L.first := ⟨_, rfl⟩
  have HQ1 := Lib.hid (show (if n < f ∨ f + (m : Int) < n then (1, L, S) else if n = f + (m : Int) then (0, L, S) else if (S.cut nmLog ((frames (L.recs.take (n - f).toNat)).length : Int)).1 ≠ 0 then ((S.cut nmLog ((frames (L.recs.take (n - f).toNat)).length : Int)).1, doneS L, (S.cut nmLog ((frames (L.recs.take (n - f).toNat)).length : Int)).2)
    else (0, { L with recs := L.recs.take (n - f).toNat }, (S.cut nmLog ((frames (L.recs.take (n - f).toNat)).length : Int)).2)) = q by rw [hm, hf]; exact hq)
  rw [← hm] at hn4 hmn
  rw [← hf] at c3 hf1 hf2
  have HM := Lib.hid (show m = L.recs.length ∧ f = L.first from ⟨hm, hf⟩)
  have HNX := Lib.hid (show IntKind.i64.wrap (L.first + (L.recs.length : Int)) = f + (m : Int) by rw [← hm, ← hf]; exact IntWalk.i64_in _ (by omega))
  clear hm hf h1 hq HQ HDS
  by_cases hlo : n < f
  · go_wp2_with fail
    go_ret
    rw [← HQ1.out, if_pos (.inl hlo)]
    exact ⟨rfl, H1.out⟩
  go_wp2_with fail
  refine (logNext_any H1.out).mono ?_
  rintro e w2 ⟨rfl, h⟩
  rw [HNX.out]
  have H2 := Lib.hid h
  clear h c3 hc4 hn4
  by_cases hhi : n > f + (m : Int)
  · go_wp2_with fail
    go_ret
    rw [← HQ1.out, if_pos (.inr hhi)]
    exact ⟨rfl, H2.out⟩
  go_wp2_with fail
  refine (logNext_any H2.out).mono ?_
  rintro e w3 ⟨rfl, h⟩
  rw [HNX.out]
  have H3 := Lib.hid h
  clear h
  by_cases heq : n = f + (m : Int)
  · have hb : (n == f + (m : Int)) = true := by simp [heq]
    have HE := Lib.hid heq
    clear heq
    go_wp2_with fail
    go_ret
    rw [← HQ1.out, if_neg (by omega), if_pos HE.out]
    exact ⟨rfl, H3.out⟩
  have hb : (n == f + (m : Int)) = false := by simp [heq]
  obtain ⟨ar, cr, ae, ce, T, h1, hn4, hc4, -⟩ := logc H3.out
  unfold maxLen at hc4
  have c3 := cell_of h1 3 rfl
  have c0 := cell_of h1 0 rfl
  rw [← HM.out.2] at c3
  obtain ⟨k, hk⟩ : ∃ k : Nat, n = f + (k : Int) := ⟨(n - f).toNat, by omega⟩
  have hkm : k < m := by omega
  have hkl : k ≤ L.recs.length := by rw [← HM.out.1]; omega
  obtain ⟨x, hx⟩ : ∃ x, (frames (L.recs.take k)).length = x := ⟨_, rfl⟩
  have hxle := frames_take_le L.recs k
  obtain ⟨c, hc⟩ : ∃ c, S.cut nmLog (x : Int) = c := ⟨_, rfl⟩
  have HQ2 := Lib.hid (show q = if c.1 ≠ 0 then (c.1, doneS L, c.2) else (0, { L with recs := L.recs.take k }, c.2) by
    rw [← HQ1.out, if_neg (by omega), if_neg heq, hk, show f + (k : Int) - f = k by omega, Int.toNat_natCast, hx, hc])
  have HC := Lib.hid (show S.cut nmLog (x : Int) = (c.1, c.2) by rw [hc])
  have HEND := Lib.hid (show ∀ (W : World), Sep w0 W (ThLog g d L :: ThDisk d S :: R) rows → Calls Try.prog 34 #[.pointer (some ⟨g, 0, none⟩), .int .i64 k] W fun e w' => e = .returned (.int .i64 (x : Int)) ∧ w' = W from fun W hW => by
    have := end_any k hkl hW
    rw [hx] at this
    exact this)
  subst hk
  clear heq hx hc h1 hkl hxle HQ1
  have e1 : IntKind.i64.wrap (f + (k : Int) - f) = (k : Int) := by rw [IntWalk.i64_in _ (by omega)]; omega
  have e2 : IntKind.i64.wrap (k : Int) = (k : Int) := IntWalk.i64_in _ (by omega)
  obtain ⟨c1, S'⟩ := c
  simp only at HQ2 HC
  go_wp2_with fail
  refine wp_region_M (fun W => W.cell? ⟨g, 0, none⟩ = some (.pointer (some ⟨d, 0, none⟩))) 10 (by kernel_rfl) ?_
  refine wpAnyM_take (by kernel_rfl) (by intro c a d v w h; cases d <;> exact h) [(0, false), (1, false), (2, false), (3, false), (4, true), (5, false), (6, false)] (fuel := 4) (by kernel_rfl) ?_
  apply Exists.intro; refine ⟨?_, c0, ?_⟩
  · iterate 7 ((first | (apply yieldN; (· (simp only [List.getElem?_toArray, List.getElem?_cons_succ, List.getElem?_cons_zero]; try rfl)); (· rfl)) | ((first | apply yieldP | apply yieldL); (· (simp only [List.getElem?_toArray, List.getElem?_cons_succ, List.getElem?_cons_zero]; try rfl)); (· rfl); (· (intros; go_simp; try with_reducible rfl)))); (· (simp only [Act.put, List.setIfInBounds_toArray, List.set_cons_zero, List.set_cons_succ]; try rfl)))
    exact rfl
  refine wpAnyM_one (fuel := 3) (i := 7) (by kernel_rfl) (by rfl) (fun K hK => ?_)    -- CALL
  go_wp2_with (go_at_call 34; go_must (refine (HEND.out _ H3.out.drew).mono ?_); rintro e w4 ⟨rfl, rfl⟩)
  refine hK _ _ c0 ?_
  clear hK
  refine wpAnyM_one (fuel := 2) (i := 8) (by kernel_rfl) (by rfl) (fun K hK => ?_)    -- CALL
  go_wp2_with (go_at_call 28; go_must (refine (SD.cut H3.out.drew.swap nmLog _ (by decide) HC.out).mono ?_); rintro e w5 ⟨rfl, h⟩)
  have H5 := Lib.hid h.swap
  obtain ⟨ar, cr, ae, ce, T, h1, -⟩ := logc H5.out
  have c0 := cell_of h1 0 rfl
  clear h h1
  refine hK _ _ c0 ?_
  clear hK
  refine wpAnyM_one (fuel := 1) (i := 9) (by kernel_rfl) (by rfl) (fun K hK => ?_)    -- CALL
  go_wp2_with (go_at_call 32; go_must (refine (logCheck_any c1 H5.out).mono ?_); rintro e w6 ⟨rfl, h⟩)
  rw [HD.out, Bool.false_or] at h
  have H6 := Lib.hid h
  obtain ⟨ar, cr, ae, ce, T, h1, -⟩ := logc H6.out
  have c0 := cell_of h1 0 rfl
  clear h h1
  refine hK _ _ c0 ?_
  clear hK
  refine wpAnyM_of_any _ _ _ _ (by decide) ?_
  refine wpAny_list [10] (fuel := 0) (by kernel_rfl) ?_
  simp only [List.filterMap_cons, List.filterMap_nil, List.getElem?_toArray, List.getElem?_cons_succ, List.getElem?_cons_zero]
  by_cases hk : c1 = 0
  case neg =>
    have hk' : (c1 != 0) = true := by simp [hk]
    go_wp2_with fail
    go_ret
    rw [HQ2.out, if_pos hk]
    rw [hk'] at H6
    exact ⟨rfl, H6.out⟩
  subst hk
  have hL : ({ L with done := ((0 : Int) != 0) } : LogS) = L := by have hd := HD.out; cases L; simp at hd; subst hd; rfl
  rw [hL] at H6
  have HQ3 := Lib.hid (show q = (0, { L with recs := L.recs.take k }, S') by rw [HQ2.out, if_neg (by simp)])
  obtain ⟨D6, hP6, -, back6⟩ := H6.out.use
  obtain ⟨vr, ve, Dr, De, T, h1, hrec, hend, turn⟩ := log_parts hP6
  obtain ⟨ar, cr, rfl, hnr, hcr⟩ := hrec.slice
  obtain ⟨ae, ne, ce, rfl, hle, hne, hce, -⟩ := id hend
  rw [endsS_length, Nat.mul_one] at hle
  subst hle
  have c4 := cell_of h1 4 rfl
  have c5 := cell_of h1 5 rfl
  have y4 := frz_of h1 4
  have h1d := heap_setCell_same w6 g 4 _ _ (.slice ar k cr) h1
  have y5 := frz_of h1d 5
  have h1e := heap_setCell_same _ g 5 _ _ (.slice ae k ce) h1d
  have hkr : k ≤ L.recs.length := by rw [← HM.out.1]; omega
  obtain ⟨Dr', hr', hDr'⟩ := hrec.take hkr
  have he' := (hend.take hkr).1
  rw [Nat.mul_one, endsS_take _ _ hkr] at he'
  obtain ⟨D', hL', hU'⟩ := turn _ { L with recs := L.recs.take k } _ _ Dr' De (((Upd.refl w6 [g]).setCell ⟨g, 4, none⟩ (.slice ar k cr) (by simp)).setCell ⟨g, 5, none⟩ (.slice ae k ce) (by simp)) h1e hr' he' hDr' (fun _ h => h)
  have H7 := Lib.hid (back6 _ _ (ThLog g d { L with recs := L.recs.take k }) hU' hL')
  have hs4 := fun W => run_slice_hi (P := Try.prog) Try.underlying22 hj0 ar L.recs.length cr k (by omega) W
  have hs5 := fun W => run_slice_hi (P := Try.prog) Try.underlying58 hi0 ae L.recs.length ce k (by omega) W
  clear hL hP6 back6 turn hrec hend h1 h1d h1e hr' he' hDr' hL' hU' hkr HC HEND
  go_wp2_with fail
  refine wp_region_M (fun W => W.cell? ⟨g, 4, none⟩ = some (.slice ar L.recs.length cr) ∧ W.cell? ⟨g, 5, none⟩ = some (.slice ae L.recs.length ce)) 14 (by kernel_rfl) ?_
  refine wpAnyM_take (by kernel_rfl) (by intro c a d v w h; cases d <;> exact h) [(0, false), (1, false), (2, false), (3, false), (4, false), (5, true), (6, false), (7, false), (8, false), (9, false), (10, false), (11, true), (12, false), (13, false)] (fuel := 6) (by kernel_rfl) ?_
  apply Exists.intro; refine ⟨?_, ⟨c4, c5⟩, ?_⟩
  · iterate 14 ((first | (apply yieldN; (· (simp only [List.getElem?_toArray, List.getElem?_cons_succ, List.getElem?_cons_zero]; try rfl)); (· rfl)) | ((first | apply yieldP | apply yieldL); (· (simp only [List.getElem?_toArray, List.getElem?_cons_succ, List.getElem?_cons_zero]; try rfl)); (· rfl); (· (intros; go_simp; try with_reducible rfl)))); (· (simp only [Act.put, List.setIfInBounds_toArray, List.set_cons_zero, List.set_cons_succ]; try rfl)))
    exact rfl
  refine wpAnyM_of_any _ _ _ _ (by decide) ?_
  refine wpAny_list [14, 15, 16, 17, 18, 19] (fuel := 0) (by kernel_rfl) ?_
  simp only [List.filterMap_cons, List.filterMap_nil, List.getElem?_toArray, List.getElem?_cons_succ, List.getElem?_cons_zero]
  go_wp2_with fail
  go_ret
  rw [HQ3.out]
  exact ⟨rfl, H7.out.drew⟩
end
end Go.Proofs.Ytbfblekabnkghaa
