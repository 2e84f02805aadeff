/-
  DiskRoom: there is never more than the room; what does not fit changes nothing.
-/
import Derived.Test.YthphinlibhafcaaHeld
import Derived.Test.YthphinlibhafcaaReg
import Derived.Deep.LoopGhost
namespace Go.Proofs.Ythphinlibhafcaa
open Go.RowKit Go.Av

/-- What the walk is told of a slice of slices of bytes: its rows can be read. -/
def IsRowsB (w : World) (a : Option Addr) (len cap : Nat) (rows : List (Value × Bs)) : Prop :=
  rows.length = len ∧ len ≤ cap ∧ cap ≤ maxLen ∧ (a = none → cap = 0) ∧ (∀ x, a = some x → ∀ i, (h : i < rows.length) → w.cell? (x.add i) = some rows[i].1) ∧ (∀ r ∈ rows, ∃ E, ReadRow w 1 r.1 (r.2.map bv) E) ∧ ∀ r ∈ rows, ∃ a c, r.1 = .slice a r.2.length c

theorem cell_lt {w : World} {a : Addr} {v : Value} (hc : w.cell? a = some v) : a.block < w.heap.size := by
  cases hh : w.heap[a.block]? with
  | none => rw [World.cell?, hh] at hc; cases hc
  | some o => exact lt_of_heap hh
theorem Held.below_cell {w0 w : World} {d : Nat} {S : DiskS} {rows : List (Value × Bs)} (h : Held w0 w d S rows) {a : Addr} {v : Value} (hc : w0.cell? a = some v) : w.cell? a = some v := by
  have hb := h.below
  have hlt : a.block < w0.heap.size := by
    cases hh : w0.heap[a.block]? with
    | none => rw [World.cell?, hh] at hc; cases hc
    | some o => exact lt_of_heap hh
  rw [World.cell?_of_block (hb.block _ hlt)]; exact hc

theorem and_one (n : Nat) (h : n < 2 ^ 62) : bits .and .i64 (n : Int) 1 = ((n % 2 : Nat) : Int) := by
  have := bits_mask .i64 62 (by decide) (fun n h0 h1 => by rw [IntKind.wrap_i64]; omega) 1 (by decide) (n : Int) (by omega) (by omega)
  simpa using this

theorem app_full (S : DiskS) (name : ByteArray) (b : Bs) (h : S.off = false) (hg : S.room - (total S.fs : Int) < (b.length : Int)) (hn : goodN name = true := by rfl) : S.append name b = (9, S) := by
  have h1 : S.may [name] = 0 := by simp [DiskS.may, h, hn]
  unfold DiskS.append
  rw [if_neg (by simp [h1]), if_pos hg]
theorem app_good (S : DiskS) (name : ByteArray) (b : Bs) (h : S.off = false) (hn : goodN name = true) (hg : ¬ S.room - (total S.fs : Int) < (b.length : Int)) : S.append name b = (0, { S with fs := putApp name b S.fs }) := by
  have h1 : S.may [name] = 0 := by simp [DiskS.may, h, hn]
  unfold DiskS.append
  rw [if_neg (by simp [h1]), if_neg hg]
theorem size_on {S : DiskS} (h : S.off = false) : DiskS.size S = total S.fs := by simp [DiskS.size, h]
theorem Held.alloc {w0 w : World} {d : Nat} {S : DiskS} {rows : List (Value × Bs)} (h : Held w0 w d S rows) (o : Obj) : Held w0 (w.drew.alloc o) d S rows := by
  obtain ⟨D, hD, hu, hr⟩ := h
  have hu2 : Upd w (w.drew.alloc o) D D := (Upd.refl w D).drew.alloc o
  have hu0 : Upd w (w.drew.alloc o) [] [] := (Upd.refl w []).drew.alloc o
  exact ⟨D, hD.frame (hu0.same hD.lt (by simp)), hu.trans hu2, rows_frame hr hu2⟩

set_option maxRecDepth 100000 in
set_option maxHeartbeats 1000000 in
theorem room_walk (room : Int) (a : Option Addr) (len cap : Nat) (rows : List (Value × Bs)) (w : World) (h : IsRowsB w a len cap rows) :
    Calls Try.prog 3 #[.int .i64 room, .slice a len cap] w fun e w' => e = .returned (.bool true) ∧ Below w.heap.size w w' := by
  obtain ⟨hl, hn, hc, ha, hcell, hread, hform⟩ := h
  subst hl
  by_cases hok : 64 ≤ room ∧ room ≤ 500 ∧ rows.length ≤ 30
  · obtain ⟨h1, h2, h3⟩ := hok
    have HC := Lib.hid hcell
    have HR := Lib.hid hread
    have HF := Lib.hid hform
    clear hcell hread hform
    go_enter Try.func3, Try.ntmps3
    go_wp2_with fail
    refine (awake_any _).mono ?_
    rintro e w1 ⟨rfl, hu1⟩
    go_wp2_with fail
    refine (Held.new (rows := rows) room h1 (by omega) hu1 HR.out).mono ?_
    rintro e w2 ⟨d, rfl, H⟩
    clear hu1
    have hst : ∃ S : DiskS, (0 : Int) = total S.fs ∧ S.off = false ∧ S.room = room ∧ (total S.fs : Int) ≤ room ∧ Held w w2 d S rows := ⟨_, rfl, rfl, rfl, by simp [DiskS.new, total]; omega, H⟩
    clear H
    go_wp2_with fail
    go_loopg [7, 8] rows.length (fun k s i wr => ∃ (n : Nat) (z : Int), n ≤ rows.length ∧ k = rows.length - n ∧ i = .int .i64 n ∧ s = .int .i64 z ∧ ∃ S : DiskS, z = total S.fs ∧ S.off = false ∧ S.room = room ∧ (total S.fs : Int) ≤ room ∧ Held w wr d S rows)
    case atStart => exact ⟨0, 0, Nat.zero_le _, rfl, rfl, rfl, hst⟩
    case round =>
      obtain ⟨n, z, hn, hk, rfl, rfl, S, hz, hoff, hroom, hfit, H⟩ := hrel
      subst hz
      by_cases hlt : n < rows.length
      · have hm : rows[n] ∈ rows := List.getElem_mem hlt
        obtain ⟨ar, cr, hv⟩ := HF.out _ hm
        cases a with
        | none => exact absurd (ha rfl) (by omega)
        | some x =>
        have hcl := H.below_cell (HC.out x rfl n hlt)
        rw [hv] at hcl
        by_cases hbig : 300 < rows[n].2.length
        · have HH := Lib.hid (show Held w wr d S rows ∧ S.off = false ∧ S.room = room ∧ (total S.fs : Int) ≤ room ∧ gk = rows.length - n from ⟨H, hoff, hroom, hfit, hk⟩)
          clear H hoff hroom hfit hk
          go_wp2_with fail
          go_ret
          exact ⟨rfl, HH.out.1.below⟩
        · have HH := Lib.hid (show Held w wr d S rows ∧ S.off = false ∧ S.room = room ∧ (total S.fs : Int) ≤ room ∧ gk = rows.length - n from ⟨H, hoff, hroom, hfit, hk⟩)
          clear H hoff hroom hfit hk
          go_wp2_with fail
          obtain ⟨p, hp, hbit⟩ : ∃ p : Nat, (p = 0 ∨ p = 1) ∧ bits .and .i64 (n : Int) 1 = (p : Int) := ⟨n % 2, by omega, and_one n (by omega)⟩
          refine wp_region_M (fun W => W.cell? (x.add n) = some (.slice ar rows[n].2.length cr)) 11 (by kernel_rfl) ?_
          refine wpAnyM_take (by kernel_rfl) (by intro c a d v w h; cases d <;> exact h) [(0, false), (2, false), (3, false), (6, false), (7, false), (8, false), (9, true)] (fuel := 5) (by kernel_rfl) ?_
          apply Exists.intro; refine ⟨?_, hcl, ?_⟩
          · iterate 7 ((first | (apply yieldN; (· (simp only [List.getElem?_toArray, List.getElem?_cons_succ, List.getElem?_cons_zero]; try rfl)); (· rfl)) | ((first | apply yieldP | apply yieldL); (· (simp only [List.getElem?_toArray, List.getElem?_cons_succ, List.getElem?_cons_zero]; try rfl)); (· rfl); (· (intros; go_simp; try with_reducible rfl)))); (· (simp only [Act.put, List.setIfInBounds_toArray, List.set_cons_zero, List.set_cons_succ]; try rfl)))
            exact rfl
          refine wpAnyM_one (fuel := 4) (i := 1) (by kernel_rfl) (by rfl) (fun K hK => ?_)    -- buildSlice
          go_wp2_with fail
          have hxl := cell_lt hcl
          have hcl2 : ∀ o : Obj, (wr.alloc o).cell? (x.add n) = some (.slice ar rows[n].2.length cr) := fun o => by
            rw [World.cell?_of_block (Below.heap_alloc wr o _ hxl)]; exact hcl
          refine hK _ _ (by go_simp) ?_
          refine wpAnyM_one (fuel := 3) (i := 4) (by kernel_rfl) (by rfl) (fun K hK => ?_)
          have hA : ∀ o, Held w (wr.drew.alloc o) d S rows := fun o => HH.out.1.alloc o
          have hin : (Value.slice ar rows[n].2.length cr, rows[n].2) ∈ rows := by rw [← hv]; exact hm
          rcases hp with rfl | rfl
          · clear hbit
            go_wp2_with fail
            refine hK _ _ (by go_simp) ?_
            refine wpAnyM_one (fuel := 2) (i := 5) (by kernel_rfl) (by rfl) (fun K hK => ?_)
            go_wp2_with fail
            refine hK _ _ (by go_simp) ?_
            refine wpAnyM_one (fuel := 1) (i := 10) (by kernel_rfl) (by rfl) (fun K hK => ?_)
            clear hcl hcl2
            have hwr : wrap64 (room - (total S.fs : Int)) = room - (total S.fs : Int) := by
              obtain ⟨_, _, _, h4, _⟩ := HH.out
              exact IntWalk.wrap64_in _ ⟨by omega, by omega⟩
            by_cases hfull : room - (total S.fs : Int) < (rows[n].2.length : Int)
            · go_wp2_with (go_at_call 11; go_must (refine ((hA _).append ⟨#[97]⟩ (by decide) hin (app_full S ⟨#[97]⟩ rows[n].2 HH.out.2.1 (by rw [HH.out.2.2.1]; exact hfull))).mono ?_); rintro e w6 ⟨rfl, H6⟩)
              have hcl := H6.below_cell (HC.out x rfl n hlt)
              rw [hv] at hcl
              refine hK _ _ hcl ?_
              refine wpAnyM_of_any _ _ _ _ (by decide) ?_
              refine wpAny_list [11] (fuel := 0) (by kernel_rfl) ?_
              simp only [List.filterMap_cons, List.filterMap_nil, List.getElem?_toArray, List.getElem?_cons_succ, List.getElem?_cons_zero]
              have HH6 := Lib.hid H6
              clear H6
              have hsz := size_on HH.out.2.1
              go_wp2_with (go_at_call 12; go_must (refine (HH6.out.size).mono ?_); rintro e w7 ⟨rfl, H7⟩; rw [hsz])
              have HH7 := Lib.hid H7
              clear H7
              go_wp2_with fail
              go_roundg (rows.length - (n + 1))
              case rel =>
                obtain ⟨h1, h2, h3, h4, h5⟩ := HH.out
                exact ⟨n + 1, _, by omega, rfl, by go_num, rfl, S, rfl, h2, h3, h4, HH7.out⟩
              case measure =>
                obtain ⟨h1, h2, h3, h4, h5⟩ := HH.out
                omega
            · go_wp2_with (go_at_call 11; go_must (refine ((hA _).append ⟨#[97]⟩ (by decide) hin (app_good S ⟨#[97]⟩ rows[n].2 HH.out.2.1 (by rfl) (by rw [HH.out.2.2.1]; exact hfull))).mono ?_); rintro e w6 ⟨rfl, H6⟩)
              have hcl := H6.below_cell (HC.out x rfl n hlt)
              rw [hv] at hcl
              refine hK _ _ hcl ?_
              refine wpAnyM_of_any _ _ _ _ (by decide) ?_
              refine wpAny_list [11] (fuel := 0) (by kernel_rfl) ?_
              simp only [List.filterMap_cons, List.filterMap_nil, List.getElem?_toArray, List.getElem?_cons_succ, List.getElem?_cons_zero]
              obtain ⟨S', hS'⟩ : ∃ S' : DiskS, S' = { S with fs := putApp ⟨#[97]⟩ rows[n].2 S.fs } := ⟨_, rfl⟩
              rw [← hS'] at H6
              have ht : total S'.fs = total S.fs + rows[n].2.length := by rw [hS']; exact total_putApp _ _ _
              have hsz := size_on (S := S') (by rw [hS']; exact HH.out.2.1)
              rw [ht] at hsz
              have HH6 := Lib.hid (show Held w w6 d S' rows ∧ S' = _ from ⟨H6, hS'⟩)
              clear H6 hS'
              go_wp2_with (go_at_call 12; go_must (refine (HH6.out.1.size).mono ?_); rintro e w7 ⟨rfl, H7⟩; rw [hsz])
              have HH7 := Lib.hid H7
              clear H7
              go_wp2_with fail
              go_roundg (rows.length - (n + 1))
              case rel =>
                obtain ⟨h1, h2, h3, h4, h5⟩ := HH.out
                exact ⟨n + 1, _, by omega, rfl, by go_num, by go_num, S', by rw [ht]; go_num, by rw [HH6.out.2]; exact h2, by rw [HH6.out.2]; exact h3, by rw [ht]; omega, HH7.out⟩
              case measure =>
                obtain ⟨h1, h2, h3, h4, h5⟩ := HH.out
                omega
          · clear hbit
            go_wp2_with fail
            refine hK _ _ (by go_simp) ?_
            refine wpAnyM_one (fuel := 2) (i := 5) (by kernel_rfl) (by rfl) (fun K hK => ?_)
            go_wp2_with fail
            refine hK _ _ (by go_simp) ?_
            refine wpAnyM_one (fuel := 1) (i := 10) (by kernel_rfl) (by rfl) (fun K hK => ?_)
            clear hcl hcl2
            have hwr : wrap64 (room - (total S.fs : Int)) = room - (total S.fs : Int) := by
              obtain ⟨_, _, _, h4, _⟩ := HH.out
              exact IntWalk.wrap64_in _ ⟨by omega, by omega⟩
            by_cases hfull : room - (total S.fs : Int) < (rows[n].2.length : Int)
            · go_wp2_with (go_at_call 11; go_must (refine ((hA _).append ⟨#[98]⟩ (by decide) hin (app_full S ⟨#[98]⟩ rows[n].2 HH.out.2.1 (by rw [HH.out.2.2.1]; exact hfull))).mono ?_); rintro e w6 ⟨rfl, H6⟩)
              have hcl := H6.below_cell (HC.out x rfl n hlt)
              rw [hv] at hcl
              refine hK _ _ hcl ?_
              refine wpAnyM_of_any _ _ _ _ (by decide) ?_
              refine wpAny_list [11] (fuel := 0) (by kernel_rfl) ?_
              simp only [List.filterMap_cons, List.filterMap_nil, List.getElem?_toArray, List.getElem?_cons_succ, List.getElem?_cons_zero]
              have HH6 := Lib.hid H6
              clear H6
              have hsz := size_on HH.out.2.1
              go_wp2_with (go_at_call 12; go_must (refine (HH6.out.size).mono ?_); rintro e w7 ⟨rfl, H7⟩; rw [hsz])
              have HH7 := Lib.hid H7
              clear H7
              go_wp2_with fail
              go_roundg (rows.length - (n + 1))
              case rel =>
                obtain ⟨h1, h2, h3, h4, h5⟩ := HH.out
                exact ⟨n + 1, _, by omega, rfl, by go_num, rfl, S, rfl, h2, h3, h4, HH7.out⟩
              case measure =>
                obtain ⟨h1, h2, h3, h4, h5⟩ := HH.out
                omega
            · go_wp2_with (go_at_call 11; go_must (refine ((hA _).append ⟨#[98]⟩ (by decide) hin (app_good S ⟨#[98]⟩ rows[n].2 HH.out.2.1 (by rfl) (by rw [HH.out.2.2.1]; exact hfull))).mono ?_); rintro e w6 ⟨rfl, H6⟩)
              have hcl := H6.below_cell (HC.out x rfl n hlt)
              rw [hv] at hcl
              refine hK _ _ hcl ?_
              refine wpAnyM_of_any _ _ _ _ (by decide) ?_
              refine wpAny_list [11] (fuel := 0) (by kernel_rfl) ?_
              simp only [List.filterMap_cons, List.filterMap_nil, List.getElem?_toArray, List.getElem?_cons_succ, List.getElem?_cons_zero]
              obtain ⟨S', hS'⟩ : ∃ S' : DiskS, S' = { S with fs := putApp ⟨#[98]⟩ rows[n].2 S.fs } := ⟨_, rfl⟩
              rw [← hS'] at H6
              have ht : total S'.fs = total S.fs + rows[n].2.length := by rw [hS']; exact total_putApp _ _ _
              have hsz := size_on (S := S') (by rw [hS']; exact HH.out.2.1)
              rw [ht] at hsz
              have HH6 := Lib.hid (show Held w w6 d S' rows ∧ S' = _ from ⟨H6, hS'⟩)
              clear H6 hS'
              go_wp2_with (go_at_call 12; go_must (refine (HH6.out.1.size).mono ?_); rintro e w7 ⟨rfl, H7⟩; rw [hsz])
              have HH7 := Lib.hid H7
              clear H7
              go_wp2_with fail
              go_roundg (rows.length - (n + 1))
              case rel =>
                obtain ⟨h1, h2, h3, h4, h5⟩ := HH.out
                exact ⟨n + 1, _, by omega, rfl, by go_num, by go_num, S', by rw [ht]; go_num, by rw [HH6.out.2]; exact h2, by rw [HH6.out.2]; exact h3, by rw [ht]; omega, HH7.out⟩
              case measure =>
                obtain ⟨h1, h2, h3, h4, h5⟩ := HH.out
                omega
      · have hn' : n = rows.length := by omega
        have HH := Lib.hid (show Held w wr d S rows ∧ S.off = false ∧ S.room = room ∧ (total S.fs : Int) ≤ room ∧ gk = rows.length - n from ⟨H, hoff, hroom, hfit, hk⟩)
        have hfit' := hfit
        clear H hoff hroom hfit hk
        go_wp2_with fail
        go_ret
        exact ⟨rfl, HH.out.1.below⟩
  · have hh : room < 64 ∨ 500 < room ∨ 30 < rows.length := by omega
    clear hok hcell hread hform
    by_cases h1 : room < 64
    · clear hh
      go_enter Try.func3, Try.ntmps3
      go_wp2_with fail
      refine (awake_any _).mono ?_
      rintro e w1 ⟨rfl, hu1⟩
      go_wp2_with fail
      go_ret
      exact ⟨rfl, hu1.below⟩
    by_cases h2 : 500 < room
    · clear hh
      go_enter Try.func3, Try.ntmps3
      go_wp2_with fail
      refine (awake_any _).mono ?_
      rintro e w1 ⟨rfl, hu1⟩
      go_wp2_with fail
      go_ret
      exact ⟨rfl, hu1.below⟩
    have h3 : 30 < rows.length := by omega
    clear hh
    go_enter Try.func3, Try.ntmps3
    go_wp2_with fail
    refine (awake_any _).mono ?_
    rintro e w1 ⟨rfl, hu1⟩
    go_wp2_with fail
    go_ret
    exact ⟨rfl, hu1.below⟩
end Go.Proofs.Ythphinlibhafcaa
