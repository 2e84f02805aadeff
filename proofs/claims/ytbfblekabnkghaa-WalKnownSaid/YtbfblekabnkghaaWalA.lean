/-
  A log: what it holds; the small walks.
-/
import Derived.Test.YtbfblekabnkghaaPackR
import Derived.Test.YtbfblekabnkghaaFrameS
import Derived.Test.YtbfblekabnkghaaDSep
namespace Go.Proofs.Ytbfblekabnkghaa
open Go.RowKit Go.Av

structure LogS where
  lives : Int
  done : Bool
  first : Int
  recs : List Bs

/-- Where each record's frame ends. -/
def endsS (recs : List Bs) : List Value := (List.range recs.length).map fun i => .int .i64 ((frames (recs.take (i + 1))).length : Int)

theorem endsS_push (recs : List Bs) (r : Bs) : endsS (recs ++ [r]) = endsS recs ++ [.int .i64 (((frames recs).length + (frameS r).length : Nat) : Int)] := by
  unfold endsS
  rw [List.length_append, List.length_singleton, List.range_succ, List.map_append]
  congr 1
  · refine List.map_congr_left fun i hi => ?_
    have := List.mem_range.1 hi
    rw [List.take_append_of_le_length (by omega)]
  · simp only [List.map_cons, List.map_nil]
    rw [List.take_of_length_le (by simp)]
    simp [frames]
theorem endsS_length (recs : List Bs) : (endsS recs).length = recs.length := by simp [endsS]

def LogAtE (w : World) (g d : Nat) (L : LogS) (es : List Value) (D : List Nat) : Prop :=
  ∃ vr ve Dr De T, w.heap[g]? = some (.cells #[.pointer (some ⟨d, 0, none⟩), .int .i64 L.lives, .bool L.done, .int .i64 L.first, vr, ve] T (0, 0)) ∧
    RecsAt w vr L.recs Dr ∧ OwnRow w 1 ve es De ∧ D = g :: Dr ++ De ∧ (∀ x ∈ Dr, x ≠ g ∧ x ∉ De) ∧ (∀ x ∈ De, x ≠ g)
def LogAt (w : World) (g d : Nat) (L : LogS) (D : List Nat) : Prop := LogAtE w g d L (endsS L.recs) D

theorem LogAtE.frame {w w' : World} {g d : Nat} {L : LogS} {es : List Value} {D : List Nat} (h : LogAtE w g d L es D) (hs : Same w w' D) : LogAtE w' g d L es D := by
  obtain ⟨vr, ve, Dr, De, T, h1, h2, h3, rfl, h5, h6⟩ := h
  exact ⟨vr, ve, Dr, De, T, (hs g (by simp)).trans h1, h2.frame (fun b hb => hs b (by simp [hb])), h3.frame (fun b hb => hs b (by simp [hb])), rfl, h5, h6⟩
theorem LogAtE.lt {w : World} {g d : Nat} {L : LogS} {es : List Value} {D : List Nat} (h : LogAtE w g d L es D) : ∀ b ∈ D, b < w.heap.size := by
  obtain ⟨vr, ve, Dr, De, T, h1, h2, h3, rfl, h5, h6⟩ := h
  intro b hb
  simp only [List.mem_append, List.mem_cons] at hb
  rcases hb with (rfl | hb) | hb
  · exact lt_of_heap h1
  · exact h2.lt b hb
  · exact h3.lt b hb
theorem LogAt.frame {w w' : World} {g d : Nat} {L : LogS} {D : List Nat} (h : LogAt w g d L D) (hs : Same w w' D) : LogAt w' g d L D := LogAtE.frame h hs
theorem LogAt.lt {w : World} {g d : Nat} {L : LogS} {D : List Nat} (h : LogAt w g d L D) : ∀ b ∈ D, b < w.heap.size := LogAtE.lt h

/-- The ends have turned, then the log's cell. -/
theorem logE_ends {w : World} {g d : Nat} {L : LogS} {es : List Value} {D : List Nat} (h : LogAtE w g d L es D) :
    ∃ vr ve De T, w.heap[g]? = some (.cells #[.pointer (some ⟨d, 0, none⟩), .int .i64 L.lives, .bool L.done, .int .i64 L.first, vr, ve] T (0, 0)) ∧ OwnRow w 1 ve es De ∧ (∀ x ∈ De, x ∈ D) ∧ g ∉ De ∧
      ∀ w1 v1 De1 es1, Upd w w1 De De1 → OwnRow w1 1 v1 es1 De1 → ∃ D', LogAtE (w1.setCell ⟨g, 5, none⟩ v1) g d L es1 D' ∧ Upd w (w1.setCell ⟨g, 5, none⟩ v1) D D' := by
  obtain ⟨vr, ve, Dr, De, T, h1, h2, h3, rfl, h5, h6⟩ := h
  refine ⟨vr, ve, De, T, h1, h3, fun x hx => by simp [hx], fun hg => h6 g hg rfl, fun w1 v1 De1 es1 hu ho => ?_⟩
  have hg : g < w.heap.size := lt_of_heap h1
  have hg1 := (hu.keep g hg (fun hg => h6 g hg rfl)).trans h1
  have hne : ∀ x ∈ De1, x ≠ g := fun x hx he => by
    rcases hu.new x hx with h | h
    · exact h6 x h he
    · omega
  have hk : ∀ x, x ≠ g → (w1.setCell ⟨g, 5, none⟩ v1).heap[x]? = w1.heap[x]? := fun x hx => heap_setCell_other _ _ _ _ hx
  refine ⟨g :: Dr ++ De1, ⟨vr, v1, Dr, De1, T, heap_setCell_same w1 g 5 _ T v1 hg1, (h2.frame (hu.same h2.lt (fun b hb => (h5 b hb).2))).frame (fun b hb => hk b (h5 b hb).1), ho.frame (fun b hb => hk b (hne b hb)), rfl, fun x hx => ⟨(h5 x hx).1, fun hd => ?_⟩, hne⟩, ?_⟩
  · rcases hu.new x hd with h | h
    · exact (h5 x hx).2 h
    · have := h2.lt x hx; omega
  · refine (hu.mono (E := g :: Dr ++ De) (E' := g :: Dr ++ De1) (fun b hb => by simp [hb]) (fun b hb => ?_)).setCell ⟨g, 5, none⟩ v1 (by simp)
    rcases List.mem_append.1 hb with hb | hb
    · exact .inr (by rw [List.mem_append]; exact .inl hb)
    · exact .inl hb
theorem logE_recs {w : World} {g d : Nat} {L : LogS} {es : List Value} {D : List Nat} (h : LogAtE w g d L es D) :
    ∃ vr ve Dr T, w.heap[g]? = some (.cells #[.pointer (some ⟨d, 0, none⟩), .int .i64 L.lives, .bool L.done, .int .i64 L.first, vr, ve] T (0, 0)) ∧ RecsAt w vr L.recs Dr ∧ (∀ x ∈ Dr, x ∈ D) ∧ g ∉ Dr ∧
      ∀ w1 v1 Dr1 recs1, Upd w w1 Dr Dr1 → RecsAt w1 v1 recs1 Dr1 → ∃ D', LogAtE (w1.setCell ⟨g, 4, none⟩ v1) g d { L with recs := recs1 } es D' ∧ Upd w (w1.setCell ⟨g, 4, none⟩ v1) D D' := by
  obtain ⟨vr, ve, Dr, De, T, h1, h2, h3, rfl, h5, h6⟩ := h
  refine ⟨vr, ve, Dr, T, h1, h2, fun x hx => by simp [hx], fun hg => (h5 g hg).1 rfl, fun w1 v1 Dr1 es1 hu ho => ?_⟩
  have hg : g < w.heap.size := lt_of_heap h1
  have hg1 := (hu.keep g hg (fun hg => (h5 g hg).1 rfl)).trans h1
  have hne : ∀ x ∈ Dr1, x ≠ g := fun x hx he => by
    rcases hu.new x hx with h | h
    · exact (h5 x h).1 he
    · omega
  have hk : ∀ x, x ≠ g → (w1.setCell ⟨g, 4, none⟩ v1).heap[x]? = w1.heap[x]? := fun x hx => heap_setCell_other _ _ _ _ hx
  refine ⟨g :: Dr1 ++ De, ⟨v1, ve, Dr1, De, T, heap_setCell_same w1 g 4 _ T v1 hg1, ho.frame (fun b hb => hk b (hne b hb)), (h3.frame (hu.same h3.lt (fun b hb hd => (h5 b hd).2 hb))).frame (fun b hb => hk b (h6 b hb)), rfl, fun x hx => ⟨hne x hx, fun hd => ?_⟩, h6⟩, ?_⟩
  · rcases hu.new x hx with h | h
    · exact (h5 x h).2 hd
    · have := h3.lt x hd; omega
  · refine (hu.mono (E := g :: Dr ++ De) (E' := g :: Dr1 ++ De) (fun b hb => by simp [hb]) (fun b hb => ?_)).setCell ⟨g, 4, none⟩ v1 (by simp)
    simp only [List.mem_append, List.mem_cons] at hb ⊢
    rcases hb with (hb | hb) | hb
    · exact .inr (.inl (.inl hb))
    · exact .inl hb
    · exact .inr (.inr hb)

def ThLogE (g d : Nat) (L : LogS) (es : List Value) : Thing := ⟨fun w D => LogAtE w g d L es D, fun h hs => h.frame hs, fun h => h.lt⟩
def ThLog (g d : Nat) (L : LogS) : Thing := ⟨fun w D => LogAt w g d L D, fun h hs => h.frame hs, fun h => h.lt⟩

section
variable {w0 w : World} {g d : Nat} {L : LogS} {S : DiskS} {R : List Thing} {rows : List (Value × Bs)}

theorem logc (h : Sep w0 w (ThLog g d L :: R) rows) :
    ∃ ar cr ae ce T, w.heap[g]? = some (.cells #[.pointer (some ⟨d, 0, none⟩), .int .i64 L.lives, .bool L.done, .int .i64 L.first, .slice ar L.recs.length cr, .slice ae L.recs.length ce] T (0, 0)) ∧ L.recs.length ≤ cr ∧ cr ≤ maxLen ∧ L.recs.length ≤ ce ∧ ce ≤ maxLen := by
  obtain ⟨D, ⟨vr, ve, Dr, De, T, h1, h2, h3, rfl, h5, h6⟩, _, _⟩ := h.use
  obtain ⟨a, c, rfl, hn, hc⟩ := h2.slice
  obtain ⟨a2, n2, c2, rfl, hl2, hn2, hc2, -⟩ := h3
  rw [endsS_length, Nat.mul_one] at hl2
  subst hl2
  exact ⟨a, c, a2, c2, T, h1, hn, hc, hn2, hc2⟩

theorem first_any (h : Sep w0 w (ThLog g d L :: R) rows) :
    Calls Try.prog 18 #[.pointer (some ⟨g, 0, none⟩)] w fun e w' => e = .returned (.int .i64 L.first) ∧ Sep w0 w' (ThLog g d L :: R) rows := by
  obtain ⟨ar, cr, ae, ce, T, h1, -⟩ := logc h
  have c3 := cell_of h1 3 rfl
  have H := Lib.hid h
  clear h1 h
  go_enter Try.func18, Try.ntmps18
  go_wp2_with fail
  go_ret
  exact ⟨rfl, H.out⟩

set_option maxRecDepth 100000 in
theorem logNext_any (h : Sep w0 w (ThLog g d L :: R) rows) :
    Calls Try.prog 17 #[.pointer (some ⟨g, 0, none⟩)] w fun e w' => e = .returned (.int .i64 (IntKind.i64.wrap (L.first + (L.recs.length : Int)))) ∧ Sep w0 w' (ThLog g d L :: R) rows := by
  obtain ⟨ar, cr, ae, ce, T, h1, hn, hc, -⟩ := logc h
  unfold maxLen at hc
  have c3 := cell_of h1 3 rfl
  have c4 := cell_of h1 4 rfl
  have H := Lib.hid h
  clear h1 h
  go_enter Try.func17, Try.ntmps17
  go_wp2_with fail
  refine wp_region_M (fun W => W.cell? ⟨g, 3, none⟩ = some (.int .i64 L.first) ∧ W.cell? ⟨g, 4, none⟩ = some (.slice ar L.recs.length cr)) 11 (by kernel_rfl) ?_
  refine wpAnyM_take (by kernel_rfl) (by intro c a d v w h; cases d <;> exact h) [(0, false), (1, false), (2, false), (3, true), (4, false), (5, false), (6, false), (7, true), (8, false), (9, false), (10, false)] (fuel := 0) (by kernel_rfl) ?_
  apply Exists.intro; refine ⟨?_, ⟨c3, c4⟩, ?_⟩
  · iterate 11 ((first | (apply yieldN; (· (simp only [List.getElem?_toArray, List.getElem?_cons_succ, List.getElem?_cons_zero]; try rfl)); (· rfl)) | ((first | apply yieldP | apply yieldL); (· (simp only [List.getElem?_toArray, List.getElem?_cons_succ, List.getElem?_cons_zero]; try rfl)); (· rfl); (· (intros; go_simp; try with_reducible rfl)))); (· (simp only [Act.put, List.setIfInBounds_toArray, List.set_cons_zero, List.set_cons_succ]; try rfl)))
    exact rfl
  refine wpAnyM_done (by kernel_rfl) ?_ _
  go_wp2_with fail
  go_ret
  exact ⟨rfl, H.out.drew⟩

theorem logCheck_any (k : Int) (h : Sep w0 w (ThLog g d L :: R) rows) :
    Calls Try.prog 32 #[.pointer (some ⟨g, 0, none⟩), .int .i64 k] w fun e w' => e = .returned (.int .i64 k) ∧ Sep w0 w' (ThLog g d { L with done := L.done || (k != 0) } :: R) rows := by
  obtain ⟨D, ⟨vr, ve, Dr, De, T, h1, h2, h3, rfl, h5, h6⟩, hr, back⟩ := h.use
  have c2 := cell_of h1 2 rfl
  have y2 := frz_of h1 2
  have fin : ∀ b : Bool, Sep w0 (w.setCell ⟨g, 2, none⟩ (.bool b)) (ThLog g d { L with done := b } :: R) rows := fun b => by
    have hg : ∀ x, x ≠ g → (w.setCell ⟨g, 2, none⟩ (.bool b)).heap[x]? = w.heap[x]? := fun x hx => heap_setCell_other _ _ _ _ hx
    exact back _ (g :: Dr ++ De) (ThLog g d { L with done := b }) (Upd.set1 _ _ _ _ (by simp)) ⟨vr, ve, Dr, De, T, heap_setCell_same w g 2 _ T (.bool b) h1, h2.frame (fun x hx => hg x (h5 x hx).1), h3.frame (fun x hx => hg x (h6 x hx)), rfl, h5, h6⟩
  have FIN := Lib.hid fin
  clear fin h1 h2 h3 h5 h6 hr back h
  cases hd : L.done with
  | true =>
    rw [hd] at c2
    clear hd
    go_enter Try.func32, Try.ntmps32
    go_wp2_with fail
    go_ret
    exact ⟨rfl, FIN.out true⟩
  | false =>
    rw [hd] at c2
    clear hd
    go_enter Try.func32, Try.ntmps32
    go_wp2_with fail
    go_ret
    exact ⟨rfl, FIN.out (k != 0)⟩

def offS (L : LogS) (S : DiskS) : Bool := L.done || (S.lives != L.lives) || S.off

set_option maxRecDepth 100000 in
theorem off_any (h : Sep w0 w (ThLog g d L :: ThDisk d S :: R) rows) :
    Calls Try.prog 31 #[.pointer (some ⟨g, 0, none⟩)] w fun e w' => e = .returned (.bool (offS L S)) ∧ Sep w0 w' (ThLog g d L :: ThDisk d S :: R) rows := by
  obtain ⟨ar, cr, ae, ce, T, h1, -⟩ := logc h
  have c0 := cell_of h1 0 rfl
  have c1 := cell_of h1 1 rfl
  have c2 := cell_of h1 2 rfl
  have H := Lib.hid h
  have HO := Lib.hid (show offS L S = (L.done || (S.lives != L.lives) || S.off) from rfl)
  clear h1 h
  obtain ⟨o, ho⟩ : ∃ o, o = offS L S := ⟨_, rfl⟩
  have HO := Lib.hid (ho.trans HO.out)
  rw [← ho]
  clear ho
  obtain ⟨dn, hdn⟩ : ∃ x, x = L.done := ⟨_, rfl⟩
  obtain ⟨lv, hlv⟩ : ∃ x, x = L.lives := ⟨_, rfl⟩
  rw [← hdn] at c2
  rw [← hlv] at c1
  have HO := Lib.hid (show o = (dn || (S.lives != lv) || S.off) by rw [hdn, hlv]; exact HO.out)
  clear hdn hlv
  obtain ⟨ne, hne⟩ : ∃ ne, (S.lives != lv) = ne := ⟨_, rfl⟩
  have HO := Lib.hid (show o = (dn || ne || S.off) by rw [← hne]; exact HO.out)
  have Hc : ∀ W : World, W.heap = w.heap → W.cell? ⟨g, 0, none⟩ = some (.pointer (some ⟨d, 0, none⟩)) ∧ W.cell? ⟨g, 1, none⟩ = some (.int .i64 lv) ∧ W.cell? ⟨g, 2, none⟩ = some (.bool dn) := fun W hW => by
    have e : ∀ a, W.cell? a = w.cell? a := fun a => by unfold World.cell?; rw [hW]
    rw [e, e, e]; exact ⟨c0, c1, c2⟩
  cases dn <;> cases ne
  · go_enter Try.func31, Try.ntmps31
    go_wp2_with fail
    refine wp_region_M (fun W => W.cell? ⟨g, 0, none⟩ = some (.pointer (some ⟨d, 0, none⟩)) ∧ W.cell? ⟨g, 1, none⟩ = some (.int .i64 lv) ∧ W.cell? ⟨g, 2, none⟩ = some (.bool false)) 24 (by kernel_rfl) ?_
    refine wpAnyM_take (by kernel_rfl) (by intro c a d v w h; cases d <;> exact h) [(0, false), (1, false), (2, false), (3, true), (4, false), (5, false), (6, false), (7, false), (8, true), (10, false), (11, false), (12, false), (13, true)] (fuel := 12) (by kernel_rfl) ?_
    apply Exists.intro; refine ⟨?_, ⟨c0, c1, c2⟩, ?_⟩
    · iterate 13 ((first | (apply yieldN; (· (simp only [List.getElem?_toArray, List.getElem?_cons_succ, List.getElem?_cons_zero]; try rfl)); (· rfl)) | ((first | apply yieldP | apply yieldL); (· (simp only [List.getElem?_toArray, List.getElem?_cons_succ, List.getElem?_cons_zero]; try rfl)); (· rfl); (· (intros; go_simp; try with_reducible rfl)))); (· (simp only [Act.put, List.setIfInBounds_toArray, List.set_cons_zero, List.set_cons_succ]; try rfl)))
      exact rfl
    refine wpAnyM_one (fuel := 11) (i := 9) (by kernel_rfl) (by rfl) (fun K hK => ?_)    -- CALL
    go_wp2_with (go_at_call 29; go_must (refine (SD.lives H.out.drew.swap).mono ?_); rintro e w1 ⟨rfl, rfl⟩)
    refine hK _ _ ⟨c0, c1, c2⟩ ?_
    refine wpAnyM_take (by kernel_rfl) (by intro c a d v w h; cases d <;> exact h) [(14, false), (15, false), (16, false), (17, false), (18, false), (19, false), (20, true)] (fuel := 4) (by kernel_rfl) ?_
    apply Exists.intro; refine ⟨?_, ⟨c0, c1, c2⟩, ?_⟩
    · iterate 7 ((first | (apply yieldN; (· (simp only [List.getElem?_toArray, List.getElem?_cons_succ, List.getElem?_cons_zero]; try rfl)); (· rfl)) | ((first | apply yieldP | apply yieldL); (· (simp only [List.getElem?_toArray, List.getElem?_cons_succ, List.getElem?_cons_zero]; try rfl)); (· rfl); (· (intros; go_simp; try with_reducible rfl)))); (· (simp only [Act.put, List.setIfInBounds_toArray, List.set_cons_zero, List.set_cons_succ]; try rfl)))
      exact rfl
    refine wpAnyM_one (fuel := 3) (i := 21) (by kernel_rfl) (by rfl) (fun K hK => ?_)    -- CALL
    go_wp2_with (go_at_call 52; go_must (refine (SD.power H.out.drew.swap).mono ?_); rintro e w1 ⟨rfl, rfl⟩)
    refine hK _ _ ⟨c0, c1, c2⟩ ?_
    refine wpAnyM_take (by kernel_rfl) (by intro c a d v w h; cases d <;> exact h) [(22, false), (23, false)] (fuel := 1) (by kernel_rfl) ?_
    apply Exists.intro; refine ⟨?_, ⟨c0, c1, c2⟩, ?_⟩
    · iterate 2 ((first | (apply yieldN; (· (simp only [List.getElem?_toArray, List.getElem?_cons_succ, List.getElem?_cons_zero]; try rfl)); (· rfl)) | ((first | apply yieldP | apply yieldL); (· (simp only [List.getElem?_toArray, List.getElem?_cons_succ, List.getElem?_cons_zero]; try rfl)); (· rfl); (· (intros; go_simp; try with_reducible rfl)))); (· (simp only [Act.put, List.setIfInBounds_toArray, List.set_cons_zero, List.set_cons_succ]; try rfl)))
      exact rfl
    refine wpAnyM_of_any _ _ _ _ (by decide) ?_
    refine wpAny_list [24] (fuel := 0) (by kernel_rfl) ?_
    simp only [List.filterMap_cons, List.filterMap_nil, List.getElem?_toArray, List.getElem?_cons_succ, List.getElem?_cons_zero]
    go_wp2_with fail
    go_ret
    refine ⟨?_, H.out.drew⟩
    rw [HO.out]
    cases S.off <;> rfl
  · go_enter Try.func31, Try.ntmps31
    go_wp2_with fail
    refine wp_region_M (fun W => W.cell? ⟨g, 0, none⟩ = some (.pointer (some ⟨d, 0, none⟩)) ∧ W.cell? ⟨g, 1, none⟩ = some (.int .i64 lv) ∧ W.cell? ⟨g, 2, none⟩ = some (.bool false)) 24 (by kernel_rfl) ?_
    refine wpAnyM_take (by kernel_rfl) (by intro c a d v w h; cases d <;> exact h) [(0, false), (1, false), (2, false), (3, true), (4, false), (5, false), (6, false), (7, false), (8, true), (10, false), (11, false), (12, false), (13, true)] (fuel := 12) (by kernel_rfl) ?_
    apply Exists.intro; refine ⟨?_, ⟨c0, c1, c2⟩, ?_⟩
    · iterate 13 ((first | (apply yieldN; (· (simp only [List.getElem?_toArray, List.getElem?_cons_succ, List.getElem?_cons_zero]; try rfl)); (· rfl)) | ((first | apply yieldP | apply yieldL); (· (simp only [List.getElem?_toArray, List.getElem?_cons_succ, List.getElem?_cons_zero]; try rfl)); (· rfl); (· (intros; go_simp; try with_reducible rfl)))); (· (simp only [Act.put, List.setIfInBounds_toArray, List.set_cons_zero, List.set_cons_succ]; try rfl)))
      exact rfl
    refine wpAnyM_one (fuel := 11) (i := 9) (by kernel_rfl) (by rfl) (fun K hK => ?_)    -- CALL
    go_wp2_with (go_at_call 29; go_must (refine (SD.lives H.out.drew.swap).mono ?_); rintro e w1 ⟨rfl, rfl⟩)
    refine hK _ _ ⟨c0, c1, c2⟩ ?_
    refine wpAnyM_take (by kernel_rfl) (by intro c a d v w h; cases d <;> exact h) [(14, false), (15, false), (16, false), (17, false), (18, false), (19, false), (20, true)] (fuel := 4) (by kernel_rfl) ?_
    apply Exists.intro; refine ⟨?_, ⟨c0, c1, c2⟩, ?_⟩
    · iterate 7 ((first | (apply yieldN; (· (simp only [List.getElem?_toArray, List.getElem?_cons_succ, List.getElem?_cons_zero]; try rfl)); (· rfl)) | ((first | apply yieldP | apply yieldL); (· (simp only [List.getElem?_toArray, List.getElem?_cons_succ, List.getElem?_cons_zero]; try rfl)); (· rfl); (· (intros; go_simp; try with_reducible rfl)))); (· (simp only [Act.put, List.setIfInBounds_toArray, List.set_cons_zero, List.set_cons_succ]; try rfl)))
      exact rfl
    refine wpAnyM_one (fuel := 3) (i := 21) (by kernel_rfl) (by rfl) (fun K hK => ?_)    -- CALL
    go_wp2_with (go_at_call 52; go_must (refine (SD.power H.out.drew.swap).mono ?_); rintro e w1 ⟨rfl, rfl⟩)
    refine hK _ _ ⟨c0, c1, c2⟩ ?_
    refine wpAnyM_take (by kernel_rfl) (by intro c a d v w h; cases d <;> exact h) [(22, false), (23, false)] (fuel := 1) (by kernel_rfl) ?_
    apply Exists.intro; refine ⟨?_, ⟨c0, c1, c2⟩, ?_⟩
    · iterate 2 ((first | (apply yieldN; (· (simp only [List.getElem?_toArray, List.getElem?_cons_succ, List.getElem?_cons_zero]; try rfl)); (· rfl)) | ((first | apply yieldP | apply yieldL); (· (simp only [List.getElem?_toArray, List.getElem?_cons_succ, List.getElem?_cons_zero]; try rfl)); (· rfl); (· (intros; go_simp; try with_reducible rfl)))); (· (simp only [Act.put, List.setIfInBounds_toArray, List.set_cons_zero, List.set_cons_succ]; try rfl)))
      exact rfl
    refine wpAnyM_of_any _ _ _ _ (by decide) ?_
    refine wpAny_list [24] (fuel := 0) (by kernel_rfl) ?_
    simp only [List.filterMap_cons, List.filterMap_nil, List.getElem?_toArray, List.getElem?_cons_succ, List.getElem?_cons_zero]
    go_wp2_with fail
    go_ret
    refine ⟨?_, H.out.drew⟩
    rw [HO.out]
    cases S.off <;> rfl
  · go_enter Try.func31, Try.ntmps31
    go_wp2_with fail
    refine wp_region_M (fun W => W.cell? ⟨g, 0, none⟩ = some (.pointer (some ⟨d, 0, none⟩)) ∧ W.cell? ⟨g, 1, none⟩ = some (.int .i64 lv) ∧ W.cell? ⟨g, 2, none⟩ = some (.bool true)) 24 (by kernel_rfl) ?_
    refine wpAnyM_take (by kernel_rfl) (by intro c a d v w h; cases d <;> exact h) [(0, false), (1, false), (2, false), (3, true), (4, false), (5, false), (6, false), (7, false), (8, true), (10, false), (11, false), (12, false), (13, true)] (fuel := 12) (by kernel_rfl) ?_
    apply Exists.intro; refine ⟨?_, ⟨c0, c1, c2⟩, ?_⟩
    · iterate 13 ((first | (apply yieldN; (· (simp only [List.getElem?_toArray, List.getElem?_cons_succ, List.getElem?_cons_zero]; try rfl)); (· rfl)) | ((first | apply yieldP | apply yieldL); (· (simp only [List.getElem?_toArray, List.getElem?_cons_succ, List.getElem?_cons_zero]; try rfl)); (· rfl); (· (intros; go_simp; try with_reducible rfl)))); (· (simp only [Act.put, List.setIfInBounds_toArray, List.set_cons_zero, List.set_cons_succ]; try rfl)))
      exact rfl
    refine wpAnyM_one (fuel := 11) (i := 9) (by kernel_rfl) (by rfl) (fun K hK => ?_)    -- CALL
    go_wp2_with (go_at_call 29; go_must (refine (SD.lives H.out.drew.swap).mono ?_); rintro e w1 ⟨rfl, rfl⟩)
    refine hK _ _ ⟨c0, c1, c2⟩ ?_
    refine wpAnyM_take (by kernel_rfl) (by intro c a d v w h; cases d <;> exact h) [(14, false), (15, false), (16, false), (17, false), (18, false), (19, false), (20, true)] (fuel := 4) (by kernel_rfl) ?_
    apply Exists.intro; refine ⟨?_, ⟨c0, c1, c2⟩, ?_⟩
    · iterate 7 ((first | (apply yieldN; (· (simp only [List.getElem?_toArray, List.getElem?_cons_succ, List.getElem?_cons_zero]; try rfl)); (· rfl)) | ((first | apply yieldP | apply yieldL); (· (simp only [List.getElem?_toArray, List.getElem?_cons_succ, List.getElem?_cons_zero]; try rfl)); (· rfl); (· (intros; go_simp; try with_reducible rfl)))); (· (simp only [Act.put, List.setIfInBounds_toArray, List.set_cons_zero, List.set_cons_succ]; try rfl)))
      exact rfl
    refine wpAnyM_one (fuel := 3) (i := 21) (by kernel_rfl) (by rfl) (fun K hK => ?_)    -- CALL
    go_wp2_with (go_at_call 52; go_must (refine (SD.power H.out.drew.swap).mono ?_); rintro e w1 ⟨rfl, rfl⟩)
    refine hK _ _ ⟨c0, c1, c2⟩ ?_
    refine wpAnyM_take (by kernel_rfl) (by intro c a d v w h; cases d <;> exact h) [(22, false), (23, false)] (fuel := 1) (by kernel_rfl) ?_
    apply Exists.intro; refine ⟨?_, ⟨c0, c1, c2⟩, ?_⟩
    · iterate 2 ((first | (apply yieldN; (· (simp only [List.getElem?_toArray, List.getElem?_cons_succ, List.getElem?_cons_zero]; try rfl)); (· rfl)) | ((first | apply yieldP | apply yieldL); (· (simp only [List.getElem?_toArray, List.getElem?_cons_succ, List.getElem?_cons_zero]; try rfl)); (· rfl); (· (intros; go_simp; try with_reducible rfl)))); (· (simp only [Act.put, List.setIfInBounds_toArray, List.set_cons_zero, List.set_cons_succ]; try rfl)))
      exact rfl
    refine wpAnyM_of_any _ _ _ _ (by decide) ?_
    refine wpAny_list [24] (fuel := 0) (by kernel_rfl) ?_
    simp only [List.filterMap_cons, List.filterMap_nil, List.getElem?_toArray, List.getElem?_cons_succ, List.getElem?_cons_zero]
    go_wp2_with fail
    go_ret
    refine ⟨?_, H.out.drew⟩
    rw [HO.out]
    cases S.off <;> rfl
  · go_enter Try.func31, Try.ntmps31
    go_wp2_with fail
    refine wp_region_M (fun W => W.cell? ⟨g, 0, none⟩ = some (.pointer (some ⟨d, 0, none⟩)) ∧ W.cell? ⟨g, 1, none⟩ = some (.int .i64 lv) ∧ W.cell? ⟨g, 2, none⟩ = some (.bool true)) 24 (by kernel_rfl) ?_
    refine wpAnyM_take (by kernel_rfl) (by intro c a d v w h; cases d <;> exact h) [(0, false), (1, false), (2, false), (3, true), (4, false), (5, false), (6, false), (7, false), (8, true), (10, false), (11, false), (12, false), (13, true)] (fuel := 12) (by kernel_rfl) ?_
    apply Exists.intro; refine ⟨?_, ⟨c0, c1, c2⟩, ?_⟩
    · iterate 13 ((first | (apply yieldN; (· (simp only [List.getElem?_toArray, List.getElem?_cons_succ, List.getElem?_cons_zero]; try rfl)); (· rfl)) | ((first | apply yieldP | apply yieldL); (· (simp only [List.getElem?_toArray, List.getElem?_cons_succ, List.getElem?_cons_zero]; try rfl)); (· rfl); (· (intros; go_simp; try with_reducible rfl)))); (· (simp only [Act.put, List.setIfInBounds_toArray, List.set_cons_zero, List.set_cons_succ]; try rfl)))
      exact rfl
    refine wpAnyM_one (fuel := 11) (i := 9) (by kernel_rfl) (by rfl) (fun K hK => ?_)    -- CALL
    go_wp2_with (go_at_call 29; go_must (refine (SD.lives H.out.drew.swap).mono ?_); rintro e w1 ⟨rfl, rfl⟩)
    refine hK _ _ ⟨c0, c1, c2⟩ ?_
    refine wpAnyM_take (by kernel_rfl) (by intro c a d v w h; cases d <;> exact h) [(14, false), (15, false), (16, false), (17, false), (18, false), (19, false), (20, true)] (fuel := 4) (by kernel_rfl) ?_
    apply Exists.intro; refine ⟨?_, ⟨c0, c1, c2⟩, ?_⟩
    · iterate 7 ((first | (apply yieldN; (· (simp only [List.getElem?_toArray, List.getElem?_cons_succ, List.getElem?_cons_zero]; try rfl)); (· rfl)) | ((first | apply yieldP | apply yieldL); (· (simp only [List.getElem?_toArray, List.getElem?_cons_succ, List.getElem?_cons_zero]; try rfl)); (· rfl); (· (intros; go_simp; try with_reducible rfl)))); (· (simp only [Act.put, List.setIfInBounds_toArray, List.set_cons_zero, List.set_cons_succ]; try rfl)))
      exact rfl
    refine wpAnyM_one (fuel := 3) (i := 21) (by kernel_rfl) (by rfl) (fun K hK => ?_)    -- CALL
    go_wp2_with (go_at_call 52; go_must (refine (SD.power H.out.drew.swap).mono ?_); rintro e w1 ⟨rfl, rfl⟩)
    refine hK _ _ ⟨c0, c1, c2⟩ ?_
    refine wpAnyM_take (by kernel_rfl) (by intro c a d v w h; cases d <;> exact h) [(22, false), (23, false)] (fuel := 1) (by kernel_rfl) ?_
    apply Exists.intro; refine ⟨?_, ⟨c0, c1, c2⟩, ?_⟩
    · iterate 2 ((first | (apply yieldN; (· (simp only [List.getElem?_toArray, List.getElem?_cons_succ, List.getElem?_cons_zero]; try rfl)); (· rfl)) | ((first | apply yieldP | apply yieldL); (· (simp only [List.getElem?_toArray, List.getElem?_cons_succ, List.getElem?_cons_zero]; try rfl)); (· rfl); (· (intros; go_simp; try with_reducible rfl)))); (· (simp only [Act.put, List.setIfInBounds_toArray, List.set_cons_zero, List.set_cons_succ]; try rfl)))
      exact rfl
    refine wpAnyM_of_any _ _ _ _ (by decide) ?_
    refine wpAny_list [24] (fuel := 0) (by kernel_rfl) ?_
    simp only [List.filterMap_cons, List.filterMap_nil, List.getElem?_toArray, List.getElem?_cons_succ, List.getElem?_cons_zero]
    go_wp2_with fail
    go_ret
    refine ⟨?_, H.out.drew⟩
    rw [HO.out]
    cases S.off <;> rfl
end
end Go.Proofs.Ytbfblekabnkghaa
