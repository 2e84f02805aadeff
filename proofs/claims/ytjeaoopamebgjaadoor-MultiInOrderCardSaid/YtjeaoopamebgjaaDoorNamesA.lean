/-
  Names that rise, in plain words: a name's place, laid in, taken out.
-/
import Derived.Test.YtjeaoopamebgjaaDoorPathA
import Derived.Sort.Walk0
import Derived.Shelf.Spec.SearchS
namespace Go.Av
open Go.RowKit
/-- How many stand ahead of a name. -/
def placeS (l : List Bs) (s : Bs) : Nat := (l.takeWhile fun y => decide (y < s)).length
def insS (l : List Bs) (s : Bs) : List Bs := l.take (placeS l s) ++ s :: l.drop (placeS l s)
def delS (l : List Bs) (s : Bs) : List Bs := l.take (placeS l s) ++ l.drop (placeS l s + 1)
def hasS (l : List Bs) (s : Bs) : Bool := decide (l[placeS l s]? = some s)
def RiseS (l : List Bs) : Prop := l.Pairwise (· < ·)

theorem placeS_le (l : List Bs) (s : Bs) : placeS l s ≤ l.length := by
  unfold placeS
  exact (List.takeWhile_sublist _).length_le
theorem place_cons_lt {x s : Bs} {l : List Bs} (h : x < s) : placeS (x :: l) s = placeS l s + 1 := by
  unfold placeS
  rw [List.takeWhile_cons_of_pos (by simpa using h)]
  rfl
theorem place_cons_ge {x s : Bs} {l : List Bs} (h : ¬ x < s) : placeS (x :: l) s = 0 := by
  unfold placeS
  rw [List.takeWhile_cons_of_neg (by simpa using h)]
  rfl
theorem place_lt : ∀ {l : List Bs} {s : Bs} {j : Nat} (hj : j < l.length), j < placeS l s → l[j] < s
  | x :: l, s, j, hj, h => by
    by_cases hx : x < s
    · rw [place_cons_lt hx] at h
      cases j with
      | zero => exact hx
      | succ j => exact place_lt (l := l) (by simpa using hj) (by omega)
    · rw [place_cons_ge hx] at h; omega
theorem place_ge : ∀ {l : List Bs} {s : Bs}, RiseS l → ∀ {j : Nat} (hj : j < l.length), placeS l s ≤ j → ¬ l[j] < s
  | x :: l, s, hr, j, hj, h => by
    have hr2 := List.pairwise_cons.1 hr
    by_cases hx : x < s
    · rw [place_cons_lt hx] at h
      cases j with
      | zero => omega
      | succ j => exact place_ge (l := l) hr2.2 (by simpa using hj) (by omega)
    · cases j with
      | zero => exact hx
      | succ j => exact fun hl => hx (List.lt_trans (hr2.1 _ (List.getElem_mem (by simpa using hj))) hl)
/-- A place that parts what is less from what is not is that place. -/
theorem place_of {l : List Bs} {s : Bs} {k : Nat} (hk : k ≤ l.length) (h1 : ∀ j (hj : j < l.length), j < k → l[j] < s) (h2 : ∀ h : k < l.length, ¬ l[k] < s) : placeS l s = k := by
  have hp := placeS_le l s
  by_cases h : placeS l s < k
  · have hl : placeS l s < l.length := by omega
    exfalso
    have hx := h1 _ hl h
    have : ∀ (l : List Bs) (hl : placeS l s < l.length), ¬ l[placeS l s] < s := by
      intro l
      induction l with
      | nil => intro hl; simp at hl
      | cons x l ih =>
        intro hl
        by_cases hx : x < s
        · have e := place_cons_lt (l := l) hx
          have : placeS l s < l.length := by rw [e] at hl; simpa using hl
          have := ih this
          simp only [e, List.getElem_cons_succ]
          exact this
        · have e := place_cons_ge (l := l) hx
          simp only [e, List.getElem_cons_zero]
          exact hx
    exact this l hl hx
  · by_cases h' : k < placeS l s
    · have hl : k < l.length := by omega
      exact absurd (place_lt hl h') (h2 hl)
    · omega
theorem has_mem {l : List Bs} {s : Bs} (hr : RiseS l) : hasS l s = true ↔ s ∈ l := by
  unfold hasS
  rw [decide_eq_true_eq]
  constructor
  · exact fun h => List.mem_of_getElem? h
  · intro h
    obtain ⟨j, hj, rfl⟩ := List.getElem_of_mem h
    have : placeS l l[j] = j := place_of (Nat.le_of_lt hj) (fun i hi hij => List.pairwise_iff_getElem.1 hr i j hi hj hij) (fun _ => List.lt_irrefl _)
    rw [this, List.getElem?_eq_getElem hj]
theorem not_lt_gt {a b : Bs} (h : ¬ a < b) (hne : a ≠ b) : b < a := by
  rcases (List.not_lt.1 h : b ≤ a) with h2
  exact Classical.byContradiction fun h3 => hne (List.le_antisymm (List.not_lt.1 h3) h2)
theorem ins_rise {l : List Bs} {s : Bs} (hr : RiseS l) (hn : hasS l s = false) : RiseS (insS l s) := by
  have hne : s ∉ l := fun h => by rw [(has_mem hr).2 h] at hn; cases hn
  unfold insS RiseS
  rw [List.pairwise_append]
  refine ⟨List.Pairwise.sublist (List.take_sublist _ _) hr, ?_, fun a ha b hb => ?_⟩
  · rw [List.pairwise_cons]
    refine ⟨fun b hb => ?_, List.Pairwise.sublist (List.drop_sublist _ _) hr⟩
    obtain ⟨j, hj, rfl⟩ := List.getElem_of_mem hb
    rw [List.getElem_drop]
    rw [List.length_drop] at hj
    have hj2 : placeS l s + j < l.length := by omega
    exact not_lt_gt (place_ge hr hj2 (by omega)) fun e => hne (e ▸ List.getElem_mem hj2)
  · have h1 : a < s := by
      obtain ⟨j, hj, rfl⟩ := List.getElem_of_mem ha
      rw [List.getElem_take]
      rw [List.length_take] at hj
      exact place_lt (by omega) (by omega)
    rcases List.mem_cons.1 hb with rfl | hb
    · exact h1
    · obtain ⟨i, hi, rfl⟩ := List.getElem_of_mem ha
      obtain ⟨j, hj, rfl⟩ := List.getElem_of_mem hb
      rw [List.getElem_take, List.getElem_drop]
      rw [List.length_take] at hi
      rw [List.length_drop] at hj
      exact List.pairwise_iff_getElem.1 hr _ _ _ _ (by omega)
theorem del_rise {l : List Bs} {s : Bs} (hr : RiseS l) : RiseS (delS l s) := by
  unfold delS
  have : (l.take (placeS l s) ++ l.drop (placeS l s + 1)).Sublist l := by
    conv => rhs; rw [← List.take_append_drop (placeS l s) l]
    exact (List.Sublist.refl _).append (List.drop_sublist_drop_left _ (Nat.le_succ _))
  exact List.Pairwise.sublist this hr
theorem ins_len (l : List Bs) (s : Bs) : (insS l s).length = l.length + 1 := by
  have := placeS_le l s
  unfold insS
  simp only [List.length_append, List.length_take, List.length_cons, List.length_drop]
  omega
theorem del_len {l : List Bs} {s : Bs} (h : hasS l s = true) : (delS l s).length + 1 = l.length := by
  have hp : placeS l s < l.length := by
    unfold hasS at h
    rw [decide_eq_true_eq] at h
    exact (List.getElem?_eq_some_iff.1 h).1
  unfold delS
  simp only [List.length_append, List.length_take, List.length_drop]
  omega
/-- The library's halving finds a name's place. -/
theorem bs_place {l : List Bs} {s : Bs} (hr : RiseS l) (less : Nat → Bool) (h : ∀ j (hj : j < l.length), less j = decide (l[j] < s)) (n : Nat) (hn : n = l.length) : Lib.bsGo less n 0 n = placeS l s := by
  subst hn
  have hp := placeS_le l s
  rw [show Lib.bsGo less l.length 0 l.length = Lib.bsGo (fun t => decide (t < placeS l s)) l.length 0 l.length from ?_]
  · exact Lib.bsGo_spec _ (placeS l s) (fun t ht => by simpa using ht) (fun t ht => by simpa using ht) _ _ _ (by omega) (by omega) hp
  · have : ∀ (f lo hi : Nat), hi ≤ l.length → Lib.bsGo less f lo hi = Lib.bsGo (fun t => decide (t < placeS l s)) f lo hi := by
      intro f
      induction f with
      | zero => intro lo hi _; rfl
      | succ f ih =>
        intro lo hi hhi
        unfold Lib.bsGo
        by_cases hlt : lo < hi
        · rw [if_pos hlt, if_pos hlt]
          have hm : (lo + hi) / 2 < l.length := by omega
          have : less ((lo + hi) / 2) = decide ((lo + hi) / 2 < placeS l s) := by
            rw [h _ hm]
            apply decide_eq_decide.2
            constructor
            · intro hx
              exact Classical.byContradiction fun hc => place_ge hr hm (by omega) hx
            · exact fun hx => place_lt hm hx
          rw [this, ih _ _ hhi, ih _ _ (by omega)]
        · rw [if_neg hlt, if_neg hlt]
    exact this _ _ _ (Nat.le_refl _)
end Go.Av
