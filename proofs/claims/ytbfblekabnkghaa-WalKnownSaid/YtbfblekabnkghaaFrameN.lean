/-
  The walk of the next frame.
-/
import Derived.Test.YtbfblekabnkghaaFrameZ
import Derived.Test.YtbfblekabnkghaaSliceX
namespace Go.Proofs.Ytbfblekabnkghaa
open Go.RowKit Go.Av

theorem rows_frame_heap {w w' : World} {v : Value} {rows : List (Value × Bs)} (h : RowsAt w v rows) (hw : w'.heap = w.heap) : RowsAt w' v rows := by
  obtain ⟨⟨E, h1⟩, h2⟩ := h
  exact ⟨⟨E, h1.frame (fun b _ => by rw [hw])⟩, fun r hr => by
    obtain ⟨⟨E, h3⟩, h4⟩ := h2 r hr
    exact ⟨⟨E, h3.frame (fun b _ => by rw [hw])⟩, h4⟩⟩

def NextPost (w : World) (l : Bs) (e : Ending) (w' : World) : Prop := e = .returned (.tuple #[.int .i64 ((nextS l).1 : Int), .int .i64 (nextS l).2]) ∧ Upd w w' [] []

set_option maxRecDepth 100000 in
set_option maxHeartbeats 1000000 in
theorem next_any (v : Value) (l : Bs) (E : List Nat) (w : World) (h : ReadRow w 1 v (l.map bv) E) :
    Calls Try.prog 51 #[v] w (NextPost w l) := by
  obtain ⟨i0, hi0, hz0, hz1, hz2⟩ := info_parts info5
  obtain ⟨a, n, c, rfl, -⟩ := id h
  obtain ⟨hn, hnc, hcm, -⟩ := row_cell h
  rw [List.length_map] at hn
  subst hn
  unfold maxLen at hcm
  by_cases h12 : l.length < 12
  · have hs : nextS l = (0, 1) := by unfold nextS; rw [if_pos h12]
    have HS := Lib.hid hs
    clear h hs
    go_enter Try.func51, Try.ntmps51
    go_wp2_with fail
    go_ret2
    exact ⟨by rw [HS.out]; rfl, Upd.refl _ _⟩
  · obtain ⟨v0, hv0⟩ : ∃ v0, v0 = at4 l 0 := ⟨_, rfl⟩
    obtain ⟨v4, hv4⟩ : ∃ v4, v4 = at4 l 4 := ⟨_, rfl⟩
    have hl0 : v0 < 4294967296 := by rw [hv0]; exact at4_lt _ _
    have hl4 : v4 < 4294967296 := by rw [hv4]; exact at4_lt _ _
    have e2 := not_u32 hl0
    obtain ⟨nn, hnn⟩ : ∃ nn : Nat, nn = 4294967295 - v0 := ⟨_, rfl⟩
    rw [← hnn] at e2
    have H := Lib.hid h
    have c0 := at_any _ l E 0 w h (by omega)
    rw [← hv0] at c0
    have C0 := Lib.hid c0
    have HV := Lib.hid (show v0 = at4 l 0 ∧ v4 = at4 l 4 ∧ nn = 4294967295 - v0 from ⟨hv0, hv4, hnn⟩)
    clear hv0 hv4 hnn h c0
    go_enter Try.func51, Try.ntmps51
    go_wp2_with fail
    refine C0.out.mono ?_
    rintro e w1 ⟨rfl, hu1⟩
    have h1 := H.out.frame (hu1.same H.out.lt (by simp))
    have c4 := at_any _ l E 4 w1 h1 (by omega)
    rw [← HV.out.2.1] at c4
    have C4 := Lib.hid c4
    have H1 := Lib.hid h1
    have HU1 := Lib.hid hu1
    clear c4 h1 hu1
    by_cases hne : v4 = nn
    · subst hne
      by_cases hbig : 20000 < v0
      · go_wp2_with fail
        refine C4.out.mono ?_
        rintro e w2 ⟨rfl, hu2⟩
        have HU2 := Lib.hid (HU1.out.trans hu2)
        clear hu2
        go_wp2_with fail
        go_ret2
        have hs : nextS l = (0, 2) := by
          obtain ⟨h0, h4, hh⟩ := HV.out
          unfold nextS; rw [if_neg h12, if_pos (.inr (by rw [← h0]; exact hbig))]
        exact ⟨by rw [hs]; rfl, HU2.out⟩
      · have e3 : IntKind.i64.wrap (v0 : Int) = (v0 : Int) := by rw [IntWalk.i64_in _ (by omega)]
        have hpass : ¬ (at4 l 4 ≠ 4294967295 - at4 l 0 ∨ 20000 < at4 l 0) := by
          obtain ⟨h0, h4, hh⟩ := HV.out
          rw [← h0, ← h4, hh]; omega
        by_cases hlen : l.length < 12 + v0
        · go_wp2_with fail
          refine C4.out.mono ?_
          rintro e w2 ⟨rfl, hu2⟩
          have HU2 := Lib.hid (HU1.out.trans hu2)
          clear hu2
          have HP := Lib.hid hpass
          clear hpass
          go_wp2_with fail
          go_ret2
          have hs : nextS l = (0, 1) := by
            obtain ⟨h0, h4, hh⟩ := HV.out
            unfold nextS; rw [if_neg h12, if_neg HP.out, if_pos (by rw [← h0]; exact hlen)]
          exact ⟨by rw [hs]; rfl, HU2.out⟩
        · have HP := Lib.hid hpass
          clear hpass
          go_wp2_with fail
          refine C4.out.mono ?_
          rintro e w2 ⟨rfl, hu2⟩
          have hr2 := H1.out.frame (hu2.same H1.out.lt (by simp))
          have HU2 := Lib.hid (HU1.out.trans hu2)
          clear hu2
          obtain ⟨a12, hs12, E12, hr12, -⟩ := slice_cut Try.underlying31 hi0 hz1 hr2 12 (12 + v0) (by omega) (by omega)
          have hsl1 : ∀ W : World, (Instr.slice 31 (.slice a l.length c) none (some (.int .i64 8)) none).run Try.prog W = .ok (.slice a 8 c) W := fun W => run_slice_hi (P := Try.prog) Try.underlying31 hi0 a l.length c 8 (by omega) W
          have hsl2 : ∀ W : World, (Instr.slice 31 (.slice a l.length c) (some (.int .i64 12)) (some (.int .i64 (12 + (v0 : Int)))) none).run Try.prog W = .ok (.slice a12 v0 (c - 12)) W := fun W => by
            have := hs12 W
            rw [show 12 + v0 - 12 = v0 by omega] at this
            exact this
          rw [show 12 + v0 - 12 = v0 by omega] at hr12
          obtain ⟨-, E8, hr8, -⟩ := slice_cut Try.underlying31 hi0 hz1 hr2 0 8 (by omega) (by omega)
          have h8 : ReadRow w2 1 (.slice a 8 c) ((l.take 8).map bv) E := by
            obtain ⟨a', n', c', hv, hl, hn, hc, ha, hr⟩ := hr2
            cases hv
            refine ⟨a, 8, c, rfl, by simp; omega, by omega, hc, ha, ?_⟩
            rcases hr with ⟨h2, _⟩ | ⟨g, off, h2, h3, h4, h5⟩
            · rw [h2] at hl; simp at hl; omega
            · refine .inr ⟨g, off, h2, h3, h4, fun i x hx => h5 i x ?_⟩
              rw [← map_take', List.getElem?_take] at hx
              split at hx
              · exact hx
              · cases hx
          have hR := rows_two 31 h8 hr12
          have HR := Lib.hid hR
          have H2 := Lib.hid hr2
          obtain ⟨cs, hcs⟩ : ∃ cs, cs = crcS (l.take 8 ++ (l.drop 12).take v0) := ⟨_, rfl⟩
          obtain ⟨v8, hv8⟩ : ∃ v8, v8 = at4 l 8 := ⟨_, rfl⟩
          have hW : ∀ W : World, W.heap = (w2.alloc (.cells #[.slice a 8 c, .slice a12 v0 (c - 12)] 31 (0, 0))).heap → Calls Try.prog 58 #[.slice a l.length c, .int .i64 8] W (fun e w' => e = .returned (.int .u32 v8) ∧ Upd W w' [] []) := fun W hW => by
            rw [hv8]
            exact at_any _ l E 8 W (H2.out.frame (fun b hb => by rw [hW]; exact (Upd.alloc0 w2 _ []).keep b (H2.out.lt b hb) (by simp))) (by omega)
          have HW := Lib.hid hW
          have HC := Lib.hid (show cs = crcS (l.take 8 ++ (l.drop 12).take v0) ∧ v8 = at4 l 8 from ⟨hcs, hv8⟩)
          clear hs12 hr8 hr12 h8 hR hr2 hW hcs hv8
          go_wp2_with fail
          clear e2
          refine wp_region_M (fun W => True) 9 (by kernel_rfl) ?_
          refine wpAnyM_take (by kernel_rfl) (by intro c a d v w h; cases d <;> exact h) [(0, false), (1, false), (2, false), (3, false), (4, false), (7, false)] (fuel := 5) (by kernel_rfl) ?_
          apply Exists.intro; refine ⟨?_, trivial, ?_⟩
          · iterate 6 ((first | (apply yieldN; (· (simp only [List.getElem?_toArray, List.getElem?_cons_succ, List.getElem?_cons_zero]; try rfl)); (· rfl)) | ((first | apply yieldP | apply yieldL); (· (simp only [List.getElem?_toArray, List.getElem?_cons_succ, List.getElem?_cons_zero]; try rfl)); (· rfl); (· (intros; go_simp; try with_reducible rfl)))); (· (simp only [Act.put, List.setIfInBounds_toArray, List.set_cons_zero, List.set_cons_succ]; try rfl)))
            exact rfl
          refine wpAnyM_one (fuel := 4) (i := 5) (by kernel_rfl) (by rfl) (fun K hK => ?_)    -- buildSlice
          go_wp2_with fail
          refine hK _ _ trivial ?_
          refine wpAnyM_one (fuel := 3) (i := 6) (by kernel_rfl) (by rfl) (fun K hK => ?_)    -- CALL
          go_wp2_with fail
          refine (crc_any _ _ _ (rows_frame_heap (w' := (w2.alloc (.cells #[.slice a 8 c, .slice a12 v0 (c - 12)] 31 (0, 0))).drew) HR.out rfl)).mono ?_
          rintro e w3 ⟨rfl, hw3⟩
          subst w3
          simp only [List.flatMap_cons, List.flatMap_nil, List.append_nil]
          rw [← HC.out.1]
          go_wp2_with fail
          refine hK _ _ trivial ?_
          refine wpAnyM_one (fuel := 2) (i := 8) (by kernel_rfl) (by rfl) (fun K hK => ?_)    -- CALL
          go_wp2_with fail
          refine (HW.out (w2.alloc (.cells #[.slice a 8 c, .slice a12 v0 (c - 12)] 31 (0, 0))).drew rfl).mono ?_
          rintro e w4 ⟨rfl, hu4⟩
          have HU4 := Lib.hid (HU2.out.trans (((Upd.alloc0 w2 (.cells #[.slice a 8 c, .slice a12 v0 (c - 12)] 31 (0, 0)) []).drew).trans hu4))
          clear hu4
          go_wp2_with fail
          refine hK _ _ trivial ?_
          by_cases heq : cs = v8
          · have hne : (cs != v8) = false := by simp [heq]
            refine wpAnyM_of_any _ _ _ _ (by decide) ?_
            refine wpAny_list [9, 10] (fuel := 0) (by kernel_rfl) ?_
            simp only [List.filterMap_cons, List.filterMap_nil, List.getElem?_toArray, List.getElem?_cons_succ, List.getElem?_cons_zero]
            clear e3 hsl1 hsl2
            go_wp2_with fail
            go_ret2
            have hs : nextS l = (12 + v0, 0) := by
              obtain ⟨h0, h4, hh⟩ := HV.out
              obtain ⟨h1, h8⟩ := HC.out
              unfold nextS
              rw [if_neg h12, if_neg HP.out, if_neg (by rw [← h0]; exact hlen), if_neg (by rw [← h0, ← h1, ← h8, heq]; simp), ← h0]
            exact ⟨by rw [hs]; simp, HU4.out⟩
          · have hne : (cs != v8) = true := by simp [heq]
            refine wpAnyM_of_any _ _ _ _ (by decide) ?_
            refine wpAny_list [9, 10] (fuel := 0) (by kernel_rfl) ?_
            simp only [List.filterMap_cons, List.filterMap_nil, List.getElem?_toArray, List.getElem?_cons_succ, List.getElem?_cons_zero]
            clear e3 hsl1 hsl2
            go_wp2_with fail
            go_ret2
            have hs : nextS l = (0, 2) := by
              obtain ⟨h0, h4, hh⟩ := HV.out
              obtain ⟨h1, h8⟩ := HC.out
              unfold nextS
              rw [if_neg h12, if_neg HP.out, if_neg (by rw [← h0]; exact hlen), if_pos (by rw [← h0, ← h1, ← h8]; exact heq)]
            exact ⟨by rw [hs]; rfl, HU4.out⟩
    · go_wp2_with fail
      refine C4.out.mono ?_
      rintro e w2 ⟨rfl, hu2⟩
      have HU2 := Lib.hid (HU1.out.trans hu2)
      clear hu2
      go_wp2_with fail
      go_ret2
      have hs : nextS l = (0, 2) := by
        obtain ⟨h0, h4, hh⟩ := HV.out
        unfold nextS; rw [if_neg h12, if_pos (.inl (by rw [← h0, ← h4, ← hh]; exact hne))]
      exact ⟨by rw [hs]; rfl, HU2.out⟩
end Go.Proofs.Ytbfblekabnkghaa
