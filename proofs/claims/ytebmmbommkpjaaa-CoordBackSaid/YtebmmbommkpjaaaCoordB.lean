/-
  Slices of numbers that are cloned, out of which numbers are taken.
-/
import Derived.Test.YtebmmbommkpjaaaCoordA
import Derived.Test.YtebmmbommkpjaaaSliceX
import Derived.Lib.SliceRun
namespace Go.Av
open Go.RowKit
section
variable {w0 w : World} {R : List Thing} {rows : List (Value × Bs)}
theorem Sep.rowFill {y : Addr} {n c : Nat} {xs : List Value} (h : Sep w0 w (ThRow 1 (.slice (some y) n c) xs :: R) rows) (i k : Nat) (hk : i + k ≤ n) (hn : 0 < n) (v : Value) :
    ∃ b off, y = ⟨b, off, none⟩ ∧ (∀ j, j < k → (w.cell? ⟨b, off + i + j, none⟩).isSome = true) ∧ (∀ j, j < k → w.frozen? ⟨b, off + i + j, none⟩ = false) ∧
      Sep w0 (w.setCells b (off + i) (List.replicate k v)) (ThRow 1 (.slice (some y) n c) (xs.take i ++ List.replicate k v ++ xs.drop (i + k)) :: R) rows := by
  obtain ⟨D, hP, _, back⟩ := h.use
  obtain ⟨a', n', c', hv, hl, hn', hc, ha, hr⟩ := hP
  cases hv
  rcases hr with ⟨hc0, _⟩ | ⟨g, off, cur, T, h1, h2, h3, h4, h5⟩
  · omega
  · cases h1
    subst h2
    rw [Nat.mul_one] at hl h4 h5
    refine ⟨g, off, rfl, fun j hj => ?_, fun j hj => frz_of h3 _, ?_⟩
    · rw [cell_of_row w g (off + i + j) cur T _ h3, Array.getElem?_eq_getElem (by omega)]; rfl
    · obtain ⟨r1, r2, r3⟩ := rest_setCells g (List.replicate k v) (off + i) w
      refine back _ [g] (ThRow 1 (.slice (some ⟨g, off, none⟩) n c) _) ⟨r1, r2, r3, by rw [size_setCells]; exact Nat.le_refl _, fun b _ hbn => heap_setCells_other g b (by simpa using hbn) _ _ _, fun _ h => .inl h⟩
        ⟨_, n, c, rfl, by simp; omega, hn', hc, ha, .inr ⟨g, off, _, T, rfl, rfl, heap_setCells_same g T _ _ w cur h3 (by simp; omega), by simp; omega, ?_⟩⟩
      rw [← h5, Nat.mul_one, List.length_replicate]
      apply List.ext_getElem?
      intro q
      simp only [List.getElem?_take, List.getElem?_drop, List.getElem?_append, List.length_take, List.length_drop, List.length_append, List.length_replicate, Array.length_toList, List.getElem?_replicate, Array.getElem?_toList]
      have e1 : min (off + i) cur.size = off + i := by omega
      have e2 : min i (min n (cur.size - off)) = i := by omega
      rw [e1, e2]
      by_cases hq : q < n
      · by_cases hq1 : q < i
        · repeat (first | rw [if_pos (by omega)] | rw [if_neg (by omega)])
        · by_cases hq2 : q < i + k
          · repeat (first | rw [if_pos (by omega)] | rw [if_neg (by omega)])
          · repeat (first | rw [if_pos (by omega)] | rw [if_neg (by omega)])
            congr 1
            omega
      · repeat (first | rw [if_neg hq] | rw [if_pos (by omega)] | rw [if_neg (by omega)])
theorem Sep.rowTake {a : Option Addr} {n c : Nat} {xs : List Value} (h : Sep w0 w (ThRow 1 (.slice a n c) xs :: R) rows) {k : Nat} (hk : k ≤ n) : Sep w0 w (ThRow 1 (.slice a k c) (xs.take k) :: R) rows := by
  obtain ⟨D, hP, _, back⟩ := h.use
  have := (OwnRow.take hP hk).1
  rw [Nat.mul_one] at this
  exact back w D (ThRow 1 (.slice a k c) (xs.take k)) (Upd.refl w D) this
theorem Sep.readRow {v : Value} {xs : List Value} {size : Nat} (h : Sep w0 w (ThRow size v xs :: R) rows) : ∃ E, ReadRow w size v xs E := by
  obtain ⟨D, hP⟩ := h.fst
  obtain ⟨E, hE, _⟩ := OwnRow.read hP
  exact ⟨E, hE⟩
end
end Go.Av
namespace Go.Proofs.Ytebmmbommkpjaaa
open Go.RowKit Go.Av

def NewInts (w : World) (b : List Int) (e : Ending) (w' : World) : Prop := ∃ v' D', e = .returned v' ∧ OwnRow w' 1 v' (b.map iv) D' ∧ Upd w w' [] D'

set_option maxHeartbeats 400000 in
theorem cloneI_any (v : Value) (b : List Int) (E : List Nat) (w : World) (hb : ReadRow w 1 v (b.map iv) E) (hlen : b.length ≤ 1048576) :
    Calls Try.prog 34 #[v] w (NewInts w b) := by
  obtain ⟨i0, hi0, hz0, hz1, hz2⟩ := info_parts infoI
  obtain ⟨nb, hnb, hsrc⟩ := hb.src (P := Try.prog) (tx := 22) Try.underlying22 iv_one
  obtain rfl : b.length = nb := by simpa using hnb
  obtain ⟨a, n, c, rfl, hl, hn, hc, ha, hr⟩ := hb
  obtain rfl : b.length = n := by simpa using hl
  have hnil := fun (W : World) (a : Option Addr) (n c n' c' : Nat) => Lib.run_eql_slice_nil (P := Try.prog) W 22 3 a n c n' c' Try.underlying22
  cases a with
  | none =>
    obtain rfl : c = 0 := ha rfl
    have hb0 : b.length = 0 := by omega
    have H0 := Lib.hid (show b = [] by simpa using hb0)
    clear hl hn hnb hb0 hsrc hr
    go_enter Try.func34, Try.ntmps34
    go_wp2_with fail
    go_ret
    rw [H0.out]
    exact ⟨_, [], rfl, OwnRow.nil _ _, Upd.refl _ _⟩
  | some ad =>
    have HBD := Lib.hid (show ∀ n, ([] : List Value).length = n * 1 → n + b.length ≤ 140737488355328 ∧ (n + b.length) * i0.bytes ≤ 140737488355328 from fun n hn => by simp at hn; rw [hz2]; omega)
    have hread : ReadRow w 1 (.slice (some ad) b.length c) (b.map iv) E := ⟨_, _, _, rfl, hl, hn, hc, ha, hr⟩
    have HR := Lib.hid hread
    clear hread hr hl hnb
    go_enter Try.func34, Try.ntmps34
    obtain ⟨nb', hnb', hsrc'⟩ := (HR.out.frame ((Upd.alloc0 w (.cells #[] 3) []).same HR.out.lt (by simp))).src (P := Try.prog) (tx := 22) Try.underlying22 iv_one
    obtain rfl : b.length = nb' := by simpa using hnb'
    clear hsrc hnb'
    go_wp2_with (at_builtin; go_must (refine wpList_app rfl _ _ 22 22 rfl 1 _ _ _ rfl (OwnRow.zero _ _ _) _ i0 _ Try.underlying22 hi0 hz0 hz1 rfl _ _ _ rfl hsrc' HBD.out ?_); intro a3 n3 c3' w4 D3 hown3 hu4)
    go_ret
    exact ⟨_, D3, rfl, by simpa using hown3, (Upd.alloc0 _ _ _).trans hu4⟩

theorem done1_any (x s : Int) (q : Nat) (w : World) (hc : w.cell? ⟨q, 0, none⟩ = some (.int .i64 s)) :
    Calls Try.prog 38 #[.int .i64 x, .pointer (some ⟨q, 0, none⟩)] w fun e w' => e = .returned (.bool (decide (x = s))) ∧ w' = w := by
  obtain ⟨b, hb⟩ : ∃ b, (x == s) = b := ⟨_, rfl⟩
  have HB := Lib.hid (show decide (x = s) = b by rw [← hb]; rfl)
  go_enter Try.func38, Try.ntmps38
  go_wp2_with fail
  go_ret
  rw [HB.out]
  exact ⟨rfl, rfl⟩

theorem findF_none {q : Int → Bool} : ∀ {l : List Int}, findF q l = none → ∀ x ∈ l, q x = false
  | [], _, x, hx => by cases hx
  | y :: r, h, x, hx => by
    rw [findF_cons] at h
    by_cases hq : q y = true
    · rw [if_pos hq] at h; cases h
    · rw [if_neg hq, Option.map_eq_none_iff] at h
      rcases List.mem_cons.1 hx with rfl | hx
      · simpa using hq
      · exact findF_none h x hx
theorem findF_some {q : Int → Bool} : ∀ {l : List Int} {i : Nat}, findF q l = some i → i < l.length ∧ (l.take (i + 1)).filter (fun x => !q x) = l.take i
  | [], i, h => by cases h
  | y :: r, i, h => by
    rw [findF_cons] at h
    by_cases hq : q y = true
    · rw [if_pos hq] at h
      cases h
      simp [hq]
    · rw [if_neg hq] at h
      cases hr : findF q r with
      | none => rw [hr] at h; cases h
      | some j =>
        rw [hr] at h
        cases h
        obtain ⟨h1, h2⟩ := findF_some hr
        have hq' : q y = false := by simpa using hq
        simp only [List.length_cons, List.take_succ_cons, List.filter_cons, hq', Bool.not_false, if_true]
        exact ⟨by omega, by rw [h2]⟩
end Go.Proofs.Ytebmmbommkpjaaa
