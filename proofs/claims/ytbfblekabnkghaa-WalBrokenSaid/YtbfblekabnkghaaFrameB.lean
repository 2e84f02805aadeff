/-
  One byte of frames turned: they are broken.
-/
import Derived.Test.YtbfblekabnkghaaFrameA
namespace Go.Av

theorem getD_app_l {l m : Bs} {i : Nat} (h : i < l.length) : (l ++ m).getD i 0 = l.getD i 0 := by
  rw [List.getD_eq_getElem?_getD, List.getD_eq_getElem?_getD, List.getElem?_append_left h]
theorem getD_app_r {l m : Bs} {i : Nat} (h : l.length ≤ i) : (l ++ m).getD i 0 = m.getD (i - l.length) 0 := by
  rw [List.getD_eq_getElem?_getD, List.getD_eq_getElem?_getD, List.getElem?_append_right h]
def v4 (l : Bs) : Nat := at4 l 0
theorem four {l : Bs} (h : l.length = 4) : ∃ a b c d, l = [a, b, c, d] := by
  match l, h with
  | [a, b, c, d], _ => exact ⟨a, b, c, d, rfl⟩
theorem v4_be4 (v : Nat) (h : v < 4294967296) : v4 (be4 v) = v := by
  simp only [v4, be4, at4, List.getD_cons_zero, List.getD_cons_succ, of_nat]
  omega
theorem be4_length (v : Nat) : (be4 v).length = 4 := rfl
theorem v4_lt (l : Bs) : v4 l < 4294967296 := at4_lt l 0
theorem u8_ne {a b : UInt8} (h : a ≠ b) : a.toNat ≠ b.toNat := fun e => h (UInt8.toNat_inj.1 e)
theorem v4_set {l : Bs} (h : l.length = 4) (i : Nat) (hi : i < 4) (y : UInt8) (hy : y ≠ l.getD i 0) : v4 (l.set i y) ≠ v4 l := by
  obtain ⟨a, b, c, d, rfl⟩ := four h
  have ha := a.toNat_lt
  have hb := b.toNat_lt
  have hc := c.toNat_lt
  have hd := d.toNat_lt
  have hyy := y.toNat_lt
  match i, hi with
  | 0, _ => have := u8_ne hy; simp [v4, at4] at this ⊢; omega
  | 1, _ => have := u8_ne hy; simp [v4, at4] at this ⊢; omega
  | 2, _ => have := u8_ne hy; simp [v4, at4] at this ⊢; omega
  | 3, _ => have := u8_ne hy; simp [v4, at4] at this ⊢; omega
theorem nextS_bad1 {h k q : Bs} (y : Bs) (h1 : h.length = 4) (h2 : k.length = 4) (h3 : q.length = 4) (hne : v4 k ≠ 4294967295 - v4 h) : nextS (h ++ (k ++ (q ++ y))) = (0, 2) := by
  obtain ⟨a, b, c, d, rfl⟩ := four h1
  obtain ⟨a2, b2, c2, d2, rfl⟩ := four h2
  obtain ⟨a3, b3, c3, d3, rfl⟩ := four h3
  unfold nextS
  rw [if_neg (by simp <;> omega)]
  exact if_pos (.inl hne)
theorem nextS_bad2 {h k q : Bs} (r x : Bs) (h1 : h.length = 4) (h2 : k.length = 4) (h3 : q.length = 4) (hk : v4 k = 4294967295 - v4 h) (hn : v4 h = r.length) (hs : r.length ≤ 20000) (hc : crcS (h ++ (k ++ r)) ≠ v4 q) :
    nextS (h ++ (k ++ (q ++ (r ++ x)))) = (0, 2) := by
  obtain ⟨a, b, c, d, rfl⟩ := four h1
  obtain ⟨a2, b2, c2, d2, rfl⟩ := four h2
  obtain ⟨a3, b3, c3, d3, rfl⟩ := four h3
  have e0 : at4 ([a, b, c, d] ++ ([a2, b2, c2, d2] ++ ([a3, b3, c3, d3] ++ (r ++ x)))) 0 = r.length := hn
  have e4 : at4 ([a, b, c, d] ++ ([a2, b2, c2, d2] ++ ([a3, b3, c3, d3] ++ (r ++ x)))) 4 = 4294967295 - r.length := by rw [← hn]; exact hk
  have e8 : at4 ([a, b, c, d] ++ ([a2, b2, c2, d2] ++ ([a3, b3, c3, d3] ++ (r ++ x)))) 8 = v4 [a3, b3, c3, d3] := rfl
  have et : ([a, b, c, d] ++ ([a2, b2, c2, d2] ++ ([a3, b3, c3, d3] ++ (r ++ x)))).take 8 ++ (([a, b, c, d] ++ ([a2, b2, c2, d2] ++ ([a3, b3, c3, d3] ++ (r ++ x)))).drop 12).take r.length = [a, b, c, d] ++ ([a2, b2, c2, d2] ++ r) := by
    simp
  unfold nextS
  rw [e0, e4, e8, et, if_neg (by simp <;> omega), if_neg (by omega), if_neg (by simp <;> omega), if_pos hc]
theorem set_ne {α : Type} {l : List α} {i : Nat} (hi : i < l.length) (y : α) : l.set i y = l.take i ++ y :: l.drop (i + 1) := by
  rw [List.set_eq_take_append_cons_drop, if_pos hi]
theorem nextS_turned (r x : Bs) (i : Nat) (y : UInt8) (hs : r.length ≤ 20000) (hi : i < (frameS r).length) (hy : y ≠ (frameS r).getD i 0) : nextS ((frameS r).set i y ++ x) = (0, 2) := by
  have hf : frameS r = be4 r.length ++ (be4 (4294967295 - r.length) ++ (be4 (crcS (headS r.length ++ r)) ++ r)) := by simp [frameS, headS]
  have hcl := crcS_lt (headS r.length ++ r)
  have hv1 := v4_be4 r.length (by omega)
  have hv2 := v4_be4 (4294967295 - r.length) (by omega)
  have hv3 := v4_be4 _ hcl
  rw [frameS_length] at hi
  rw [hf] at hy ⊢
  by_cases i1 : i < 4
  · rw [List.set_append_left _ _ (by rw [be4_length]; exact i1), List.append_assoc, List.append_assoc, List.append_assoc]
    refine nextS_bad1 _ (by simp [be4]) (be4_length _) (be4_length _) ?_
    have hne := v4_set (be4_length r.length) i i1 y (by rwa [getD_app_l (by rw [be4_length]; exact i1)] at hy)
    rw [hv2]
    rw [hv1] at hne
    have := v4_lt ((be4 r.length).set i y)
    omega
  rw [List.set_append_right _ _ (by rw [be4_length]; omega), be4_length]
  rw [getD_app_r (by rw [be4_length]; omega), be4_length] at hy
  by_cases i2 : i - 4 < 4
  · rw [List.set_append_left _ _ (by rw [be4_length]; exact i2), List.append_assoc, List.append_assoc, List.append_assoc]
    refine nextS_bad1 _ (be4_length _) (by simp [be4]) (be4_length _) ?_
    have hne := v4_set (be4_length (4294967295 - r.length)) (i - 4) i2 y (by rwa [getD_app_l (by rw [be4_length]; exact i2)] at hy)
    rw [hv1]
    rw [hv2] at hne
    exact hne
  rw [List.set_append_right _ _ (by rw [be4_length]; omega), be4_length]
  rw [getD_app_r (by rw [be4_length]; omega), be4_length] at hy
  by_cases i3 : i - 4 - 4 < 4
  · rw [List.set_append_left _ _ (by rw [be4_length]; exact i3), List.append_assoc, List.append_assoc, List.append_assoc]
    refine nextS_bad2 r x (be4_length _) (be4_length _) (by simp [be4]) (by rw [hv1, hv2]) hv1 hs ?_
    have hne := v4_set (be4_length (crcS (headS r.length ++ r))) (i - 4 - 4) i3 y (by rwa [getD_app_l (by rw [be4_length]; exact i3)] at hy)
    rw [hv3] at hne
    rw [← List.append_assoc]
    exact fun e => hne e.symm
  rw [List.set_append_right _ _ (by rw [be4_length]; omega), be4_length, List.append_assoc, List.append_assoc, List.append_assoc]
  rw [getD_app_r (by rw [be4_length]; omega), be4_length] at hy
  refine nextS_bad2 (r.set (i - 4 - 4 - 4) y) x (be4_length _) (be4_length _) (be4_length _) (by rw [hv1, hv2]) (by rw [hv1, List.length_set]) (by rw [List.length_set]; exact hs) ?_
  rw [hv3, ← List.append_assoc]
  intro e
  have hj : i - 4 - 4 - 4 < r.length := by omega
  have hr : r = r.take (i - 4 - 4 - 4) ++ r[i - 4 - 4 - 4] :: r.drop (i - 4 - 4 - 4 + 1) := by rw [List.getElem_cons_drop hj, List.take_append_drop]
  have e2 : headS r.length ++ r.set (i - 4 - 4 - 4) y = (headS r.length ++ r.take (i - 4 - 4 - 4)) ++ y :: r.drop (i - 4 - 4 - 4 + 1) := by rw [set_ne hj, List.append_assoc]
  have e3 : headS r.length ++ r = (headS r.length ++ r.take (i - 4 - 4 - 4)) ++ r[i - 4 - 4 - 4] :: r.drop (i - 4 - 4 - 4 + 1) := by rw [List.append_assoc, ← hr]
  have e' : crcS (headS r.length ++ r.set (i - 4 - 4 - 4) y) = crcS (headS r.length ++ r) := e
  rw [e2, e3] at e'
  refine hy ((crcS_one _ _ e').trans ?_)
  rw [List.getD_eq_getElem?_getD, List.getElem?_eq_getElem hj]
  rfl
theorem scanS_turned : ∀ (ls : List Bs) (i : Nat) (y : UInt8), (∀ r ∈ ls, r.length ≤ 20000) → i < (frames ls).length → y ≠ (frames ls).getD i 0 → (scanS ((frames ls).set i y)).2.2 = 2
  | [], i, y, _, hi, _ => by simp [frames] at hi
  | r :: ls, i, y, h, hi, hy => by
    have hf : frames (r :: ls) = frameS r ++ frames ls := by simp [frames]
    rw [hf] at hi hy ⊢
    have hr := h r (by simp)
    by_cases h1 : i < (frameS r).length
    · rw [List.set_append_left _ _ h1]
      have hn := nextS_turned r (frames ls) i y hr h1 (by rwa [getD_app_l h1] at hy)
      rw [scanS_stop (by simp [frameS_length] <;> omega) (by rw [hn]; simp), hn]
    · rw [List.set_append_right _ _ (by omega), scanS_frame _ _ hr]
      rw [getD_app_r (by omega)] at hy
      rw [List.length_append] at hi
      exact scanS_turned ls _ y (fun q hq => h q (by simp [hq])) (by omega) hy
end Go.Av
