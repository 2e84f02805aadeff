/-
  slices.DeleteFunc: the walk.
-/
import Derived.Test.YtebmmbommkpjaaaCoordB
namespace Go.Proofs.Ytebmmbommkpjaaa
open Go.RowKit Go.Av

theorem slice_end {P : Program} {t e : TypeId} {i : TypeInfo} (ht : P.underlying t = some (.slice e)) (hi : P.info? e = some i) (hz : i.size = 1) (a : Option Addr) (n : Nat) (ha : a = none → n = 0) (W : World) :
    (Instr.slice t (.slice a n n) (some (.int .i64 (n : Int))) none none).run P W = .ok (.slice a 0 0) W := by
  cases a with
  | none =>
    have := ha rfl
    subst this
    simp [Instr.slice, run_underlying ht, Instr.sliceBounds, Instr.sliceBound, asIntOf, sizeOf, typeInfo, hi, Result.andThen, hz]
  | some x => simp [Instr.slice, run_underlying ht, Instr.sliceBounds, Instr.sliceBound, asIntOf, sizeOf, typeInfo, hi, Result.andThen, hz]
theorem Sep.tail {w0 w : World} {R : List Thing} {rows : List (Value × Bs)} {P : Program} {t e : TypeId} {i : TypeInfo} (ht : P.underlying t = some (.slice e)) (hi : P.info? e = some i) (hz : i.size = 1) {a : Option Addr} {n c : Nat} {xs : List Value}
    (h : Sep w0 w (ThRow 1 (.slice a n c) xs :: R) rows) : ∃ a', ∀ W, (Instr.slice t (.slice a n c) (some (.int .i64 (n : Int))) none none).run P W = .ok (.slice a' 0 (c - n)) W := by
  obtain ⟨D, hP⟩ := h.fst
  obtain ⟨a', n', c', hv, hl, hn, hc, ha, hr⟩ := hP
  cases hv
  by_cases hcn : c = n
  · subst hcn
    exact ⟨a, fun W => by rw [Nat.sub_self]; exact slice_end ht hi hz a c ha W⟩
  · rcases hr with ⟨hc0, _⟩ | ⟨g, off, cur, T, h1, h2, h3, h4, h5⟩
    · omega
    · subst h1
      exact ⟨_, fun W => by have := slice_run' ht hi hz g off n c n (Nat.le_refl _) W; rwa [Nat.sub_self] at this⟩
section
variable {w0 w : World} {R : List Thing} {rows : List (Value × Bs)}

theorem filter_step (q : Int → Bool) (l : List Int) (j : Nat) (hj : j < l.length) : (l.take (j + 1)).filter q = (l.take j).filter q ++ if q l[j] then [l[j]] else [] := by
  rw [List.take_succ_eq_append_getElem hj, List.filter_append, List.filter_cons, List.filter_nil]
theorem filter_le (q : Int → Bool) (l : List Int) (j : Nat) : ((l.take j).filter q).length ≤ j := by
  have := List.length_filter_le q (l.take j)
  rw [List.length_take] at this
  omega

set_option maxRecDepth 100000 in
set_option maxHeartbeats 1000000 in
theorem deleteFunc_any (v : Value) (l : List Int) (s : Int) (cq : Nat) (T : TypeId) (h : Sep w0 w (ThRow 1 v (l.map iv) :: R) rows) (hT : ThCell cq (.cells #[.int .i64 s] T (0, 0)) ∈ R) :
    Calls Try.prog 37 #[v, .func (.func 38) #[] #[.pointer (some ⟨cq, 0, none⟩)]] w fun e w' => ∃ v', e = .returned v' ∧ Sep w0 w' (ThRow 1 v' ((l.filter fun x => !decide (x = s)).map iv) :: R) rows := by
  obtain ⟨a, n, c, rfl, hl, hnc, hcm⟩ := h.rowLen
  rw [List.length_map, Nat.mul_one] at hl
  subst hl
  unfold maxLen at hcm
  obtain ⟨E, hE⟩ := h.readRow
  have hcq : ∀ (W : World) (xs : List Value) (u : Value), Sep w0 W (ThRow 1 u xs :: R) rows → W.cell? ⟨cq, 0, none⟩ = some (.int .i64 s) := fun W xs u hS => by
    have hb := hS.block (List.mem_cons_of_mem _ hT)
    exact cell_of hb 0 rfl
  have hifn := indexFunc_done (.slice a l.length c) l ⟨cq, 0, none⟩ (fun x => decide (x = s)) E w hE (fun x => done1_any x s cq w (hcq w _ _ h))
  obtain ⟨r, hr⟩ : ∃ r, findF (fun x => decide (x = s)) l = r := ⟨_, rfl⟩
  have H := Lib.hid h
  have HC := Lib.hid hcq
  have HF := Lib.hid hifn
  have HRR := Lib.hid hr
  clear h hcq hifn hE hr
  cases r with
  | none =>
    have hF := HF.out
    rw [show idxQ (fun x => decide (x = s)) l = -1 by unfold idxQ; rw [HRR.out]] at hF
    have HF2 := Lib.hid hF
    have hfn := findF_none HRR.out
    clear hF
    have HN := Lib.hid (show l.filter (fun x => !decide (x = s)) = l from List.filter_eq_self.2 fun x hx => by rw [hfn x hx]; rfl)
    clear hfn
    go_enter Try.func37, Try.ntmps37
    go_wp2_with fail
    refine HF2.out.mono ?_
    rintro e w1 ⟨rfl, rfl⟩
    go_wp2_with fail
    go_ret
    exact ⟨_, rfl, by rw [HN.out]; exact H.out⟩
  | some i0 =>
    have hF := HF.out
    rw [show idxQ (fun x => decide (x = s)) l = (i0 : Int) by unfold idxQ; rw [HRR.out]] at hF
    have HF2 := Lib.hid hF
    clear hF
    obtain ⟨hi0, hf0⟩ := findF_some HRR.out
    have HF0 := Lib.hid hf0
    have b1 : ((i0 : Int) == -1) = false := by simp
    clear hf0
    go_enter Try.func37, Try.ntmps37
    go_wp2_with fail
    refine HF2.out.mono ?_
    rintro e w1 ⟨rfl, rfl⟩
    go_wp2_with fail
    go_loopg [5, 6] (l.length - (i0 + 1)) (fun k ti tj wr => ∃ (i j : Nat) (xs : List Value), i < j ∧ j ≤ l.length ∧ k = l.length - j ∧ ti = .int .i64 (i : Int) ∧ tj = .int .i64 (j : Int) ∧ Sep w0 wr (ThRow 1 (.slice a l.length c) xs :: R) rows ∧ xs.length = l.length ∧
      i = ((l.take j).filter fun x => !decide (x = s)).length ∧ xs.take i = ((l.take j).filter fun x => !decide (x = s)).map iv ∧ xs.drop j = (l.drop j).map iv)
    case atStart =>
      refine ⟨i0, i0 + 1, l.map iv, by omega, by omega, rfl, rfl, by go_num, H.out, by simp, ?_, ?_, by rw [List.map_drop]⟩
      · rw [HF0.out, List.length_take]; omega
      · rw [HF0.out, List.map_take]
    case round =>
      obtain ⟨i, j, xs, hij, hj, hk, hti, htj, hS, hxl, hi, hxt, hxd⟩ := hrel
      subst hti htj
      by_cases hlt : j < l.length
      · have hxj : xs[j]? = some (iv l[j]) := by
          have : (xs.drop j)[0]? = some (iv l[j]) := by rw [hxd, List.getElem?_map, List.getElem?_drop, Nat.add_zero, List.getElem?_eq_getElem hlt]; rfl
          rwa [List.getElem?_drop, Nat.add_zero] at this
        obtain ⟨y, rfl, hys, hcy⟩ := hS.rowCell hxj
        obtain ⟨x, hx⟩ : ∃ x, l[j] = x := ⟨_, rfl⟩
        have hst := filter_step (fun x => !decide (x = s)) l j hlt
        rw [hx] at hst hcy
        unfold iv at hcy
        have hd1 := done1_any x s cq wr (HC.out _ _ _ hS)
        have hnx : xs.drop (j + 1) = (l.drop (j + 1)).map iv := by
          have : (xs.drop j).drop 1 = ((l.drop j).map iv).drop 1 := by rw [hxd]
          rwa [List.drop_drop, ← List.map_drop, List.drop_drop] at this
        by_cases hxs : x = s
        · have hb : decide (x = s) = true := by simp [hxs]
          rw [hb] at hd1
          have hst2 : (l.take (j + 1)).filter (fun x => !decide (x = s)) = (l.take j).filter fun x => !decide (x = s) := by rw [hst, if_neg (by simp [hxs]), List.append_nil]
          have HD := Lib.hid hd1
          have HX := Lib.hid (show _ ∧ _ ∧ _ ∧ _ ∧ _ ∧ _ from ⟨hS, hxl, hi, hxt, hnx, hst2⟩)
          clear hS hxl hi hxt hxd hnx hst hst2 hxj hx hxs hb hd1
          go_wp2_with (go_at_call 38; refine HD.out.mono ?_; rintro e w2 ⟨rfl, rfl⟩)
          go_roundg (l.length - (j + 1))
          case rel =>
            obtain ⟨hS, hxl, hi, hxt, hnx, hst2⟩ := HX.out
            refine ⟨i, j + 1, xs, by omega, by omega, rfl, rfl, by go_num, hS, hxl, ?_, ?_, hnx⟩
            · rw [hst2]; exact hi
            · rw [hst2]; exact hxt
          case measure => omega
        · have hb : decide (x = s) = false := by simp [hxs]
          rw [hb] at hd1
          have hst2 : (l.take (j + 1)).filter (fun x => !decide (x = s)) = ((l.take j).filter fun x => !decide (x = s)) ++ [x] := by rw [hst, if_pos (by simp [hxs])]
          obtain ⟨hfr, -, ⟨u, hu⟩, hset⟩ := hS.rowSet (i := i) (by omega) (.int .i64 x)
          have hxt2 : (xs.set i (iv x)).take (i + 1) = xs.take i ++ [iv x] := by
            rw [List.take_succ_eq_append_getElem (by simp; omega), List.take_set, List.set_eq_of_length_le (by rw [List.length_take]; exact Nat.min_le_left _ _)]
            simp
          have hxd2 : (xs.set i (iv x)).drop (j + 1) = xs.drop (j + 1) := by rw [List.drop_set_of_lt (by omega)]
          have HD := Lib.hid hd1
          have HX := Lib.hid (show _ ∧ _ ∧ _ ∧ _ ∧ _ ∧ _ ∧ _ ∧ _ from ⟨hset, hxl, hi, hxt, hnx, hst2, hxt2, hxd2⟩)
          clear hS hxl hi hxt hxd hnx hst hst2 hxj hx hxs hb hd1 hset hxt2 hxd2
          go_wp2_with (go_at_call 38; refine HD.out.mono ?_; rintro e w2 ⟨rfl, rfl⟩)
          go_roundg (l.length - (j + 1))
          case rel =>
            obtain ⟨hset, hxl, hi, hxt, hnx, hst2, hxt2, hxd2⟩ := HX.out
            refine ⟨i + 1, j + 1, _, by omega, by omega, rfl, by go_num, by go_num, hset, by simpa using hxl, ?_, ?_, ?_⟩
            · rw [hst2, List.length_append, ← hi]; rfl
            · rw [hst2, List.map_append, ← hxt]; exact hxt2
            · exact hxd2.trans hnx
          case measure => omega
      · obtain rfl : j = l.length := by omega
        rw [List.take_length] at hi hxt
        have hin : i ≤ l.length := by omega
        have hlt' : ¬ l.length < l.length := by omega
        obtain ⟨z0, hz0, hz00, hz1, hz2⟩ := info_parts infoI
        have HX := Lib.hid (show _ ∧ _ ∧ _ ∧ _ from ⟨hS, hxl, hi, hxt⟩)
        clear hxd hi hxt
        by_cases hil : i = l.length
        · have hs2 := fun W => run_slice_hi (P := Try.prog) Try.underlying22 hz0 a l.length c i (by omega) W
          have e0 : l.length - i = 0 := by omega
          have hcl : ∀ ty (x : Option Addr) (c' : Nat) (W : World), (Builtin.clear_ #[22] ty #[.slice x (l.length - i) c']).run Try.prog W = .ok (.tuple #[]) W := fun ty x c' W => by
            rw [e0]
            cases x <;> simp [Builtin.clear_, run_underlying Try.underlying22]
          have hic : i ≤ l.length := by omega
          clear hS hil e0
          by_cases hci : c = i
          all_goals
            go_wp2_with fail
            go_ret
            obtain ⟨hS, hxl, hi, hxt⟩ := HX.out
            refine ⟨_, rfl, ?_⟩
            rw [← hxt]
            have h9 := hS.rowTake hin
            first | exact h9 | (rw [hci] at h9; exact h9)
        · obtain ⟨b, off, rfl⟩ : ∃ b off, a = some ⟨b, off, none⟩ := by
            obtain ⟨x, hx, hsp, -⟩ := hS.rowCell (i := i) (x := xs[i]'(by omega)) (List.getElem?_eq_getElem (by omega))
            obtain ⟨b, off, sp⟩ := x
            simp only at hsp
            subst hsp
            exact ⟨b, off, hx⟩
          obtain ⟨b', off', hy, hfc, hff, hfill⟩ := hS.rowFill i (l.length - i) (by omega) (by omega) (.int .i64 0)
          cases hy
          have hcl := fun ty => Lib.run_clear_slice (P := Try.prog) wr 22 3 ty (.int .i64 0) Try.underlying22 (fun _ => rfl) rfl rfl b (off + i) (l.length - i) (c - i) (by omega) hfc hff
          have hs2 := fun W => run_slice_hi (P := Try.prog) Try.underlying22 hz0 (some ⟨b, off, none⟩) l.length c i (by omega) W
          have hci : ¬ c = i := by omega
          have HFI := Lib.hid hfill
          clear hS hil hfc hff hfill
          go_wp2_with fail
          go_ret
          obtain ⟨hS, hxl, hi, hxt⟩ := HX.out
          refine ⟨_, rfl, ?_⟩
          have h9 := HFI.out.rowTake hin
          rw [List.append_assoc, List.take_append_of_le_length (by rw [List.length_take]; omega), List.take_of_length_le (by rw [List.length_take]; omega), hxt] at h9
          exact h9
end
end Go.Proofs.Ytebmmbommkpjaaa
