/-
  Texts of this claim, laid together.
-/
import Derived.Test.YtbakgoncfggidaaGreatDoorMg3
import Derived.IntWalk
import Derived.WalkKit
import Derived.Deep.DeepCutAuto
import Derived.Sort.KeysCollected
import Derived.Lib.SlKeysI
import Derived.Shelf.SlIter.Nil
import Derived.Shelf.SortM.Plain
import Derived.Shelf.SortM.SortNone
import Derived.Ground.GgzProg
import Derived.Ground.SlgmProg
import Derived.Test.YtbakgoncfggidaaGreatDoorProg
set_option linter.unusedVariables false
set_option linter.unusedSimpArgs false

namespace Go.Av
def LexK (K : Nat → Int) (x y : Nat) : Prop := K x < K y ∨ K x = K y ∧ x < y
def SortF (K : Nat → Int) (σ : Nat → Nat) (a b : Nat) : Prop := ∀ i j, a ≤ i → i < j → j < b → LexK K (σ i) (σ j)
def swapF (σ : Nat → Nat) (i j k : Nat) : Nat := if k = i then σ j else if k = j then σ i else σ k
structure PermF (a b : Nat) (σ σ' : Nat → Nat) : Prop where
  out : ∀ i, i < a ∨ b ≤ i → σ' i = σ i
  into : ∀ i, a ≤ i → i < b → ∃ j, a ≤ j ∧ j < b ∧ σ' i = σ j
  all : ∀ n, b ≤ n → ((List.range n).map σ').Perm ((List.range n).map σ)
theorem LexK.trans {K : Nat → Int} {x y z : Nat} (h1 : LexK K x y) (h2 : LexK K y z) : LexK K x z := by
  unfold LexK at *
  omega
theorem PermF.refl (a b : Nat) (σ : Nat → Nat) : PermF a b σ σ := ⟨fun _ _ => rfl, fun i h1 h2 => ⟨i, h1, h2, rfl⟩, fun _ _ => .refl _⟩
theorem PermF.trans {a b : Nat} {σ σ1 σ2 : Nat → Nat} (h : PermF a b σ σ1) (h' : PermF a b σ1 σ2) : PermF a b σ σ2 :=
  ⟨fun i hi => (h'.out i hi).trans (h.out i hi), fun i h1 h2 => by
    obtain ⟨j, h3, h4, h5⟩ := h'.into i h1 h2
    obtain ⟨k, h6, h7, h8⟩ := h.into j h3 h4
    exact ⟨k, h6, h7, h5.trans h8⟩, fun n hn => (h'.all n hn).trans (h.all n hn)⟩
theorem PermF.wide {a b c d : Nat} {σ σ' : Nat → Nat} (h : PermF a b σ σ') (h1 : c ≤ a) (h2 : b ≤ d) : PermF c d σ σ' :=
  ⟨fun i hi => h.out i (by omega), fun i h3 h4 => by
    by_cases hi : a ≤ i ∧ i < b
    · obtain ⟨j, h5, h6, h7⟩ := h.into i hi.1 hi.2
      exact ⟨j, by omega, by omega, h7⟩
    · exact ⟨i, h3, h4, h.out i (by omega)⟩, fun n hn => h.all n (by omega)⟩
theorem swapF_list (σ : Nat → Nat) (n i j : Nat) :
    (List.range n).map (swapF σ i j) = (((List.range n).map σ).set i (σ j)).set j (σ i) := by
  apply List.ext_getElem
  · simp
  · intro k h1 h2
    simp only [List.getElem_map, List.getElem_range, List.getElem_set, swapF]
    repeat' split
    all_goals first | rfl | (exfalso; omega) | (congr 1; omega)
theorem PermF.swap (σ : Nat → Nat) {a b i j : Nat} (hi : a ≤ i ∧ i < b) (hj : a ≤ j ∧ j < b) : PermF a b σ (swapF σ i j) :=
  ⟨fun k hk => by unfold swapF; rw [if_neg (by omega), if_neg (by omega)], fun k h1 h2 => by
    unfold swapF
    by_cases h3 : k = i
    · exact ⟨j, hj.1, hj.2, by rw [if_pos h3]⟩
    · by_cases h4 : k = j
      · exact ⟨i, hi.1, hi.2, by rw [if_neg h3, if_pos h4]⟩
      · exact ⟨k, h1, h2, by rw [if_neg h3, if_neg h4]⟩, fun n hn => by
    rw [swapF_list σ n i j]
    have h1 := @List.set_set_perm _ ((List.range n).map σ) i j (by simp; omega) (by simp; omega)
    simpa using h1⟩
def swapR (σ : Nat → Nat) (a b n k : Nat) : Nat := if a ≤ k ∧ k < a + n then σ (k - a + b) else if b ≤ k ∧ k < b + n then σ (k - b + a) else σ k
theorem swapR_zero (σ : Nat → Nat) (a b : Nat) : swapR σ a b 0 = σ := by
  funext k
  unfold swapR
  repeat' split
  all_goals first | rfl | (exfalso; omega) | (congr 1; omega)
theorem swapR_succ (σ : Nat → Nat) {a b n i : Nat} (h : a + n ≤ b) (hi : i < n) : swapF (swapR σ a b i) (a + i) (b + i) = swapR σ a b (i + 1) := by
  funext k
  unfold swapF swapR
  repeat' split
  all_goals first | rfl | (exfalso; omega) | (congr 1; omega)
theorem swapR_perm (σ : Nat → Nat) {a b n lo hi : Nat} (h : a + n ≤ b) (h1 : lo ≤ a) (h2 : b + n ≤ hi) : PermF lo hi σ (swapR σ a b n) := by
  have : ∀ i, i ≤ n → PermF lo hi σ (swapR σ a b i) := by
    intro i
    induction i with
    | zero => intro _; rw [swapR_zero]; exact .refl _ _ _
    | succ i ih =>
      intro hi'
      rw [← swapR_succ σ h (by omega)]
      exact (ih (by omega)).trans (.swap _ (by omega) (by omega))
  exact this n (Nat.le_refl _)
def rotF (σ : Nat → Nat) (a m b k : Nat) : Nat := if a ≤ k ∧ k < a + (b - m) then σ (k - a + m) else if a + (b - m) ≤ k ∧ k < b then σ (k - (b - m)) else σ k
theorem rotF_same (σ : Nat → Nat) {m i : Nat} (h : i ≤ m) : swapR σ (m - i) m i = rotF σ (m - i) m (m + i) := by
  funext k
  unfold swapR rotF
  repeat' split
  all_goals first | rfl | (exfalso; omega) | (congr 1; omega)
theorem rotF_left (σ : Nat → Nat) {m i j : Nat} (h : i ≤ m) (h2 : j < i) : rotF (swapR σ (m - i) m j) (m - (i - j)) m (m + j) = rotF σ (m - i) m (m + j) := by
  funext k
  unfold rotF swapR
  repeat' split
  all_goals first | rfl | (exfalso; omega) | (congr 1; omega)
theorem rotF_right (σ : Nat → Nat) {m i j : Nat} (h : i ≤ m) (h2 : i < j) : rotF (swapR σ (m - i) (m + j - i) i) (m - i) m (m + (j - i)) = rotF σ (m - i) m (m + j) := by
  funext k
  unfold rotF swapR
  repeat' split
  all_goals first | rfl | (exfalso; omega) | (congr 1; omega)
theorem rotF_none1 (σ : Nat → Nat) {m b : Nat} (h : m ≤ b) : rotF σ m m b = σ := by
  funext k
  unfold rotF
  repeat' split
  all_goals first | rfl | (exfalso; omega) | (congr 1; omega)
theorem rotF_none2 (σ : Nat → Nat) (a m : Nat) : rotF σ a m m = σ := by
  funext k
  unfold rotF
  repeat' split
  all_goals first | rfl | (exfalso; omega) | (congr 1; omega)
def movU (σ : Nat → Nat) (a k j : Nat) : Nat := if a ≤ j ∧ j < k then σ (j + 1) else if j = k then σ a else σ j
def movD (σ : Nat → Nat) (m k j : Nat) : Nat := if k < j ∧ j ≤ m then σ (j - 1) else if j = k then σ m else σ j
theorem movU_zero (σ : Nat → Nat) (a : Nat) : movU σ a a = σ := by
  funext k
  unfold movU
  repeat' split
  all_goals first | rfl | (exfalso; omega) | (congr 1; omega)
theorem movD_zero (σ : Nat → Nat) (m : Nat) : movD σ m m = σ := by
  funext k
  unfold movD
  repeat' split
  all_goals first | rfl | (exfalso; omega) | (congr 1; omega)
theorem movU_succ (σ : Nat → Nat) {a k : Nat} (h : a ≤ k) : swapF (movU σ a k) k (k + 1) = movU σ a (k + 1) := by
  funext k
  unfold swapF movU
  repeat' split
  all_goals first | rfl | (exfalso; omega) | (congr 1; omega)
theorem movD_succ (σ : Nat → Nat) {m k : Nat} (h : k + 1 ≤ m) : swapF (movD σ m (k + 1)) (k + 1) k = movD σ m k := by
  funext k
  unfold swapF movD
  repeat' split
  all_goals first | rfl | (exfalso; omega) | (congr 1; omega)
theorem movU_perm (σ : Nat → Nat) {a k lo hi : Nat} (h : a ≤ k) (h1 : lo ≤ a) (h2 : k < hi) : PermF lo hi σ (movU σ a k) := by
  obtain ⟨d, rfl⟩ : ∃ d, k = a + d := ⟨k - a, by omega⟩
  induction d with
  | zero => rw [Nat.add_zero, movU_zero]; exact .refl _ _ _
  | succ d ih =>
    rw [← Nat.add_assoc, ← movU_succ σ (by omega : a ≤ a + d)]
    exact (ih (by omega) (by omega)).trans (.swap _ (by omega) (by omega))
theorem movD_perm (σ : Nat → Nat) {m k lo hi : Nat} (h : k ≤ m) (h1 : lo ≤ k) (h2 : m < hi) : PermF lo hi σ (movD σ m k) := by
  obtain ⟨d, rfl⟩ : ∃ d, m = k + d := ⟨m - k, by omega⟩
  suffices ∀ e, e ≤ d → PermF lo hi σ (movD σ (k + d) (k + d - e)) by
    have := this d (Nat.le_refl _)
    rwa [show k + d - d = k by omega] at this
  intro e
  induction e with
  | zero => intro _; rw [Nat.sub_zero, movD_zero]; exact .refl _ _ _
  | succ e ih =>
    intro he
    have hs := movD_succ σ (m := k + d) (k := k + d - (e + 1)) (by omega)
    rw [show k + d - (e + 1) + 1 = k + d - e by omega] at hs
    rw [← hs]
    exact (ih (by omega)).trans (.swap _ (by omega) (by omega))
theorem rotF_perm : ∀ (f : Nat) (σ : Nat → Nat) (m i j lo hi : Nat), i + j ≤ f → 0 < i → 0 < j → i ≤ m → lo ≤ m - i → m + j ≤ hi → PermF lo hi σ (rotF σ (m - i) m (m + j))
  | 0, _, _, i, j, _, _, h, h1, h2, _, _, _ => by omega
  | f + 1, σ, m, i, j, lo, hi, h, h1, h2, h3, h4, h5 => by
    rcases Nat.lt_trichotomy i j with h6 | h6 | h6
    · rw [← rotF_right σ h3 h6]
      exact (swapR_perm σ (a := m - i) (b := m + j - i) (n := i) (by omega) h4 (by omega)).trans (rotF_perm f _ m i (j - i) lo hi (by omega) h1 (by omega) h3 h4 (by omega))
    · subst h6
      rw [← rotF_same σ h3]
      exact swapR_perm σ (by omega) h4 h5
    · rw [← rotF_left σ h3 h6]
      exact (swapR_perm σ (a := m - i) (b := m) (n := j) (by omega) h4 h5).trans (rotF_perm f _ m (i - j) j lo hi (by omega) (by omega) h2 (by omega) (by omega) h5)
structure MergIn (K : Nat → Int) (σ : Nat → Nat) (a m b : Nat) : Prop where
  am : a < m
  mb : m < b
  left : SortF K σ a m
  right : SortF K σ m b
  tags : ∀ i j, a ≤ i → i < m → m ≤ j → j < b → σ i < σ j
def MergOut (K : Nat → Int) (σ σ' : Nat → Nat) (a b : Nat) : Prop := PermF a b σ σ' ∧ SortF K σ' a b
theorem merg_one1 {K : Nat → Int} {σ : Nat → Nat} {a b i : Nat} (h : MergIn K σ a (a + 1) b) (h1 : a + 1 ≤ i) (h2 : i ≤ b) (h3 : ∀ x, a + 1 ≤ x → x < i → K (σ x) < K (σ a)) (h4 : ∀ x, i ≤ x → x < b → K (σ a) ≤ K (σ x)) :
    MergOut K σ (movU σ a (i - 1)) a b := by
  refine ⟨movU_perm σ (by omega) (Nat.le_refl _) (by omega), fun x y h5 h6 h7 => ?_⟩
  have ht := h.tags
  have hr := h.right
  unfold movU
  by_cases hx : x < i - 1
  · rw [if_pos (by omega)]
    by_cases hy : y < i - 1
    · rw [if_pos (by omega)]; exact hr _ _ (by omega) (by omega) (by omega)
    · rw [if_neg (by omega)]
      by_cases hy2 : y = i - 1
      · rw [if_pos hy2]; exact .inl (h3 _ (by omega) (by omega))
      · rw [if_neg hy2]; exact hr _ _ (by omega) (by omega) (by omega)
  · rw [if_neg (by omega), if_neg (c := a ≤ y ∧ y < i - 1) (by omega), if_neg (c := y = i - 1) (by omega)]
    by_cases hx2 : x = i - 1
    · rw [if_pos hx2]
      have h8 := h4 y (by omega) h7
      have h9 := ht a y (by omega) (by omega) (by omega) h7
      unfold LexK; omega
    · rw [if_neg hx2]; exact hr _ _ (by omega) h6 h7
theorem merg_one2 {K : Nat → Int} {σ : Nat → Nat} {a m i : Nat} (h : MergIn K σ a m (m + 1)) (h1 : a ≤ i) (h2 : i ≤ m) (h3 : ∀ x, a ≤ x → x < i → K (σ x) ≤ K (σ m)) (h4 : ∀ x, i ≤ x → x < m → K (σ m) < K (σ x)) :
    MergOut K σ (movD σ m i) a (m + 1) := by
  refine ⟨movD_perm σ h2 h1 (by omega), fun x y h5 h6 h7 => ?_⟩
  have ht := h.tags
  have hr := h.left
  unfold movD
  by_cases hx : x < i
  · rw [if_neg (by omega), if_neg (c := x = i) (by omega)]
    by_cases hy : i < y
    · rw [if_pos (by omega)]; exact hr _ _ (by omega) (by omega) (by omega)
    · rw [if_neg (by omega)]
      by_cases hy2 : y = i
      · rw [if_pos hy2]
        have h8 := h3 x h5 hx
        have h9 := ht x m h5 (by omega) (by omega) (by omega)
        unfold LexK; omega
      · rw [if_neg hy2]; exact hr _ _ (by omega) (by omega) (by omega)
  · rw [if_pos (c := i < y ∧ y ≤ m) (by omega)]
    by_cases hx2 : x = i
    · rw [if_neg (by omega), if_pos hx2]; exact .inl (h4 _ (by omega) (by omega))
    · rw [if_pos (by omega)]; exact hr _ _ (by omega) (by omega) (by omega)
structure CutOk (K : Nat → Int) (σ : Nat → Nat) (a m b mid s e : Nat) : Prop where
  as_ : a ≤ s
  sm : s ≤ m
  smid : s ≤ mid
  me : m ≤ e
  eb : e ≤ b
  mide : mid ≤ e
  amid : a < mid
  midb : mid < b
  sum : s + e = mid + m
  cross1 : ∀ i j, a ≤ i → i < s → e ≤ j → j < b → K (σ i) ≤ K (σ j)
  cross2 : ∀ i j, s ≤ i → i < m → m ≤ j → j < e → K (σ j) < K (σ i)
theorem SortF.le {K : Nat → Int} {σ : Nat → Nat} {a b i j : Nat} (h : SortF K σ a b) (h1 : a ≤ i) (h2 : i ≤ j) (h3 : j < b) : K (σ i) ≤ K (σ j) := by
  rcases Nat.lt_or_ge i j with h4 | h4
  · have := h i j h1 h4 h3
    unfold LexK at this
    omega
  · obtain rfl : i = j := by omega
    exact Int.le_refl _
theorem cut_ok {K : Nat → Int} {σ : Nat → Nat} {a m b mid s s0 r0 : Nat} (h : MergIn K σ a m b) (hmid : mid = (a + b) / 2) (h0 : m > mid → s0 + b = mid + m ∧ r0 = mid) (h0' : ¬ m > mid → s0 = a ∧ r0 = m) (h1 : s0 ≤ s) (h2 : s ≤ r0)
    (h3 : ∀ c, s0 ≤ c → c < s → K (σ c) ≤ K (σ (mid + m - 1 - c))) (h4 : ∀ c, s ≤ c → c < r0 → K (σ (mid + m - 1 - c)) < K (σ c)) (h5 : a + 2 ≤ b) : CutOk K σ a m b mid s (mid + m - s) := by
  have ham := h.am
  have hmb := h.mb
  have hl := h.left
  have hr := h.right
  by_cases hm : m > mid
  · obtain ⟨e1, e2⟩ := h0 hm
    refine ⟨by omega, by omega, by omega, by omega, by omega, by omega, by omega, by omega, by omega, fun i j g1 g2 g3 g4 => ?_, fun i j g1 g2 g3 g4 => ?_⟩
    · have k1 := h3 (s - 1) (by omega) (by omega)
      have k2 := hl.le (i := i) (j := s - 1) g1 (by omega) (by omega)
      have k3 := hr.le (i := mid + m - 1 - (s - 1)) (j := j) (by omega) (by omega) g4
      omega
    · have k1 := h4 s (by omega) (by omega)
      have k2 := hl.le (i := s) (j := i) (by omega) (by omega) g2
      have k3 := hr.le (i := j) (j := mid + m - 1 - s) g3 (by omega) (by omega)
      omega
  · obtain ⟨e1, e2⟩ := h0' hm
    refine ⟨by omega, by omega, by omega, by omega, by omega, by omega, by omega, by omega, by omega, fun i j g1 g2 g3 g4 => ?_, fun i j g1 g2 g3 g4 => ?_⟩
    · have k1 := h3 (s - 1) (by omega) (by omega)
      have k2 := hl.le (i := i) (j := s - 1) g1 (by omega) (by omega)
      have k3 := hr.le (i := mid + m - 1 - (s - 1)) (j := j) (by omega) (by omega) g4
      omega
    · have k1 := h4 s (by omega) (by omega)
      have k2 := hl.le (i := s) (j := i) (by omega) (by omega) g2
      have k3 := hr.le (i := j) (j := mid + m - 1 - s) g3 (by omega) (by omega)
      omega
section
variable {K : Nat → Int} {σ σ2 σ3 : Nat → Nat} {a m b mid s e : Nat}
theorem CutOk.rot (h : MergIn K σ a m b) (c : CutOk K σ a m b mid s e) : PermF a b σ (rotF σ s m e) := by
  have := c.as_; have := c.sm; have := c.me; have := c.eb
  by_cases h1 : s = m
  · subst h1; rw [rotF_none1 σ c.me]; exact .refl _ _ _
  · by_cases h2 : m = e
    · subst h2; rw [rotF_none2 σ s m]; exact .refl _ _ _
    · have := rotF_perm (m - s + (e - m)) σ m (m - s) (e - m) a b (Nat.le_refl _) (by omega) (by omega) (by omega) (by omega) (by omega)
      rwa [show m - (m - s) = s by omega, show m + (e - m) = e by omega] at this
theorem CutOk.rot_at (c : CutOk K σ a m b mid s e) (k : Nat) : rotF σ s m e k = if s ≤ k ∧ k < mid then σ (k - s + m) else if mid ≤ k ∧ k < e then σ (k - mid + s) else σ k := by
  have := c.sum; have := c.smid; have := c.me; have := c.sm
  unfold rotF
  rw [show s + (e - m) = mid by omega]
  split
  · rfl
  · split
    · congr 1; omega
    · rfl
theorem CutOk.in1 (h : MergIn K σ a m b) (c : CutOk K σ a m b mid s e) (h1 : a < s) (h2 : s < mid) : MergIn K (rotF σ s m e) a s mid := by
  have := c.sum; have := c.eb; have := c.me; have := c.sm; have := c.mide
  refine ⟨h1, h2, fun i j g1 g2 g3 => ?_, fun i j g1 g2 g3 => ?_, fun i j g1 g2 g3 g4 => ?_⟩
  · rw [c.rot_at, c.rot_at, if_neg (by omega), if_neg (by omega), if_neg (by omega), if_neg (by omega)]
    exact h.left _ _ g1 g2 (by omega)
  · rw [c.rot_at, c.rot_at, if_pos (by omega), if_pos (by omega)]
    exact h.right _ _ (by omega) (by omega) (by omega)
  · rw [c.rot_at, c.rot_at, if_neg (by omega), if_neg (by omega), if_pos (by omega)]
    exact h.tags _ _ g1 (by omega) (by omega) (by omega)
theorem CutOk.in2 (h : MergIn K σ a m b) (c : CutOk K σ a m b mid s e) (hp : PermF a mid (rotF σ s m e) σ2) (h1 : mid < e) (h2 : e < b) : MergIn K σ2 mid e b := by
  have := c.sum; have := c.eb; have := c.me; have := c.sm; have := c.smid; have := c.as_
  refine ⟨h1, h2, fun i j g1 g2 g3 => ?_, fun i j g1 g2 g3 => ?_, fun i j g1 g2 g3 g4 => ?_⟩
  · rw [hp.out _ (.inr g1), hp.out _ (.inr (by omega)), c.rot_at, c.rot_at, if_neg (by omega), if_neg (c := s ≤ j ∧ j < mid) (by omega), if_pos (by omega), if_pos (by omega)]
    exact h.left _ _ (by omega) (by omega) (by omega)
  · rw [hp.out _ (.inr (by omega)), hp.out _ (.inr (by omega)), c.rot_at, c.rot_at, if_neg (by omega), if_neg (by omega), if_neg (c := s ≤ j ∧ j < mid) (by omega), if_neg (c := mid ≤ j ∧ j < e) (by omega)]
    exact h.right _ _ (by omega) g2 g3
  · rw [hp.out _ (.inr g1), hp.out _ (.inr (by omega)), c.rot_at, c.rot_at, if_neg (by omega), if_pos (by omega), if_neg (c := s ≤ j ∧ j < mid) (by omega), if_neg (c := mid ≤ j ∧ j < e) (by omega)]
    exact h.tags _ _ (by omega) (by omega) (by omega) g4
theorem CutOk.done (h : MergIn K σ a m b) (c : CutOk K σ a m b mid s e) (h1 : a < s ∧ s < mid → MergOut K (rotF σ s m e) σ2 a mid) (h1' : ¬ (a < s ∧ s < mid) → σ2 = rotF σ s m e)
    (h2 : mid < e ∧ e < b → MergOut K σ2 σ3 mid b) (h2' : ¬ (mid < e ∧ e < b) → σ3 = σ2) : MergOut K σ σ3 a b := by
  have q1 := c.sum; have q2 := c.eb; have q3 := c.me; have q4 := c.sm; have q5 := c.smid; have q6 := c.as_; have q7 := c.mide; have q8 := c.amid; have q9 := c.midb
  have p1 : PermF a mid (rotF σ s m e) σ2 := by
    by_cases hh : a < s ∧ s < mid
    · exact (h1 hh).1
    · rw [h1' hh]; exact .refl _ _ _
  have p2 : PermF mid b σ2 σ3 := by
    by_cases hh : mid < e ∧ e < b
    · exact (h2 hh).1
    · rw [h2' hh]; exact .refl _ _ _
  have s1 : SortF K σ2 a mid := by
    by_cases hh : a < s ∧ s < mid
    · exact (h1 hh).2
    · rw [h1' hh]
      intro i j g1 g2 g3
      rw [c.rot_at, c.rot_at]
      by_cases k1 : s = mid
      · rw [if_neg (by omega), if_neg (by omega), if_neg (by omega), if_neg (by omega)]
        exact h.left _ _ g1 g2 (by omega)
      · rw [if_pos (by omega), if_pos (by omega)]
        exact h.right _ _ (by omega) (by omega) (by omega)
  have s2 : SortF K σ3 mid b := by
    by_cases hh : mid < e ∧ e < b
    · exact (h2 hh).2
    · rw [h2' hh]
      intro i j g1 g2 g3
      rw [p1.out _ (.inr g1), p1.out _ (.inr (by omega)), c.rot_at, c.rot_at, if_neg (by omega), if_neg (c := s ≤ j ∧ j < mid) (by omega)]
      by_cases k1 : mid = e
      · rw [if_neg (by omega), if_neg (by omega)]
        exact h.right _ _ (by omega) g2 g3
      · rw [if_pos (by omega), if_pos (by omega)]
        exact h.left _ _ (by omega) (by omega) (by omega)
  have cr : ∀ i j, a ≤ i → i < mid → mid ≤ j → j < b → LexK K (rotF σ s m e i) (rotF σ s m e j) := by
    intro i j g1 g2 g3 g4
    rw [c.rot_at, c.rot_at, if_neg (c := s ≤ j ∧ j < mid) (by omega)]
    by_cases k1 : i < s
    · rw [if_neg (by omega), if_neg (by omega)]
      by_cases k2 : j < e
      · rw [if_pos (by omega)]; exact h.left _ _ g1 (by omega) (by omega)
      · rw [if_neg (by omega)]
        have z1 := c.cross1 i j g1 k1 (by omega) g4
        have z2 := h.tags i j g1 (by omega) (by omega) g4
        unfold LexK; omega
    · rw [if_pos (by omega)]
      by_cases k2 : j < e
      · rw [if_pos (by omega)]; exact .inl (c.cross2 _ _ (by omega) (by omega) (by omega) (by omega))
      · rw [if_neg (by omega)]; exact h.right _ _ (by omega) (by omega) g4
  refine ⟨((CutOk.rot h c).trans (p1.wide (Nat.le_refl _) (by omega))).trans (p2.wide (by omega) (Nat.le_refl _)), fun i j g1 g2 g3 => ?_⟩
  by_cases k1 : j < mid
  · rw [p2.out _ (.inl (by omega)), p2.out _ (.inl k1)]; exact s1 _ _ g1 g2 k1
  · by_cases k2 : mid ≤ i
    · exact s2 _ _ k2 g2 g3
    · obtain ⟨i', e1, e2, e3⟩ := p1.into i g1 (by omega)
      obtain ⟨j', e4, e5, e6⟩ := p2.into j (by omega) g3
      rw [p2.out _ (.inl (by omega)), e3, e6, p1.out _ (.inr e4)]
      exact cr _ _ e1 e2 e4 e5
end
structure InBlk (K : Nat → Int) (σ : Nat → Nat) (a b : Nat) : Prop where
  sort : SortF K σ a b
  own : ∀ i, a ≤ i → i < b → a ≤ σ i ∧ σ i < b
theorem InBlk.join {K : Nat → Int} {σ σ' : Nat → Nat} {a m b : Nat} (ham : a ≤ m) (hmb : m ≤ b) (h2 : InBlk K σ a m) (h3 : InBlk K σ m b) (h4 : MergOut K σ σ' a b) : InBlk K σ' a b :=
  ⟨h4.2, fun i g1 g2 => by
    obtain ⟨j, e1, e2, e3⟩ := h4.1.into i g1 g2
    rw [e3]
    by_cases hj : j < m
    · have := h2.own j e1 hj
      omega
    · have := h3.own j (by omega) e2
      omega⟩
theorem InBlk.merg {K : Nat → Int} {σ : Nat → Nat} {a m b : Nat} (h : InBlk K σ a m) (h' : InBlk K σ m b) (h1 : a < m) (h2 : m < b) : MergIn K σ a m b :=
  ⟨h1, h2, h.sort, h'.sort, fun i j g1 g2 g3 g4 => by have := h.own i g1 g2; have := h'.own j g3 g4; omega⟩
theorem InBlk.keep {K : Nat → Int} {σ σ' : Nat → Nat} {a b c d : Nat} (h : InBlk K σ a b) (hp : PermF c d σ σ') (hd : b ≤ c ∨ d ≤ a) : InBlk K σ' a b :=
  ⟨fun i j g1 g2 g3 => by rw [hp.out i (by omega), hp.out j (by omega)]; exact h.sort i j g1 g2 g3, fun i g1 g2 => by rw [hp.out i (by omega)]; exact h.own i g1 g2⟩
theorem InBlk.snoc {K : Nat → Int} {σ : Nat → Nat} {a i j : Nat} (h : InBlk K σ a i) (hi : σ i = i) (h1 : a ≤ j) (h2 : j ≤ i) (h3 : ∀ x, j ≤ x → x < i → K (σ i) < K (σ x)) (h4 : j = a ∨ K (σ (j - 1)) ≤ K (σ i)) : InBlk K (movD σ i j) a (i + 1) := by
  by_cases hai : a = i
  · obtain rfl : j = i := by omega
    subst hai
    rw [movD_zero]
    refine ⟨fun x y g1 g2 g3 => by omega, fun x g1 g2 => ?_⟩
    have : x = a := by omega
    rw [this, hi]
    omega
  have hm : MergIn K σ a i (i + 1) := ⟨by omega, by omega, h.sort, fun x y g1 g2 g3 => by omega, fun x y g1 g2 g3 g4 => by
    obtain rfl : y = i := by omega
    have := h.own x g1 g2
    omega⟩
  have ho := merg_one2 hm h1 h2 (fun x g1 g2 => by
    rcases h4 with h4 | h4
    · omega
    · have := h.sort.le (i := x) (j := j - 1) g1 (by omega) (by omega)
      omega) h3
  refine ⟨ho.2, fun x g1 g2 => ?_⟩
  obtain ⟨y, e1, e2, e3⟩ := ho.1.into x g1 g2
  rw [e3]
  by_cases hy : y < i
  · have := h.own y e1 hy; omega
  · obtain rfl : y = i := by omega
    omega
theorem lex_sorted_eq {K : Nat → Int} {l1 l2 : List Nat} (hp : l1.Perm l2) (h1 : l1.Pairwise (LexK K)) (h2 : l2.Pairwise (LexK K)) : l1 = l2 :=
  hp.eq_of_pairwise (fun x y _ _ g1 g2 => by unfold LexK at g1 g2; omega) h1 h2
end Go.Av

namespace Go.Av
open Go.RowKit
section
variable {P : Program} {w0 w : World} {R Ts Ts' : List Thing} {rows : List (Value × Bs)}
def cellsF (n : Nat) (f : Nat → Value) : List Value := (List.range n).map f
theorem cellsF_at {n i : Nat} {f : Nat → Value} (h : i < n) : (cellsF n f)[i]? = some (f i) := by simp [cellsF, h]
theorem cellsF_set (n : Nat) (f : Nat → Value) (i : Nat) (v : Value) : (cellsF n f).set i v = cellsF n (fun k => if k = i then v else f k) := by
  apply List.ext_getElem
  · simp [cellsF]
  · intro k h1 h2
    simp only [cellsF, List.getElem_set, List.getElem_map, List.getElem_range]
    by_cases h : i = k
    · rw [if_pos h, if_pos h.symm]
    · rw [if_neg h, if_neg (fun e => h e.symm)]
theorem run_store_at {ty : TypeId} {b i : Nat} {v u : Value} (hs : sizeB P ty 1 = true) (hc : v.cells = #[v]) (hcell : w.cell? ⟨b, i, none⟩ = some u) (hf : w.frozen? ⟨b, i, none⟩ = false) (h1 : v.oneCell' = true) :
    (Instr.storeAt ty (.pointer (some ⟨b, i, none⟩)) v).run P w = .ok () (w.setCell ⟨b, i, none⟩ v) := by
  unfold sizeB at hs
  cases hi : P.info? ty with
  | none => simp [hi] at hs
  | some ii =>
    simp only [hi, beq_iff_eq] at hs
    have := run_storeCells_cells (P := P) b i [v] 0 w (fun j hj => by
        obtain rfl : j = 0 := by simpa using hj
        simp [hcell]) (fun j hj => by
        obtain rfl : j = 0 := by simpa using hj
        simpa using hf)
      (fun v' hv => by rw [List.mem_singleton] at hv; rw [hv]; exact h1)
    simp only [Nat.add_zero] at this
    have hsc : w.setCells b i [v] = w.setCell ⟨b, i, none⟩ v := rfl
    rw [hsc] at this
    simp [Instr.storeAt, Instr.sureAddr, Sem.run_bind, storeVar, sizeOf, typeInfo, hi, hs, hc, this]
theorem run_rowSet {y : Nat} {off n c i : Nat} {xs : List Value} {ty : TypeId} {v : Value} (H : Sep w0 w (ThRow 1 (.slice (some ⟨y, off, none⟩) n c) xs :: R) rows) (hs : sizeB P ty 1 = true) (hc : v.cells = #[v]) (h1 : v.oneCell' = true) (hi : i < n) :
    ∃ w', (Instr.storeAt ty (.pointer (some ⟨y, off + i, none⟩)) v).run P w = .ok () w' ∧ Sep w0 w' (ThRow 1 (.slice (some ⟨y, off, none⟩) n c) (xs.set i v) :: R) rows := by
  obtain ⟨h2, h3, ⟨u, h4⟩, h5⟩ := H.rowSet hi v
  rw [Addr.add_lit] at h2 h4 h5
  exact ⟨_, run_store_at hs hc h4 h2 h1, h5⟩
variable {ops : Array Oper} {Q : Exit → Act → World → Prop} {rest : List Oper} {a : Act} {dst : Option Tmp} {tyy : TypeId} {pos : String} {aft : Array Edge} {g : Option (Nat × Bool)}
theorem sx_rowSet {y off n c i : Nat} {xs : List Value} {ty : TypeId} {v : Value} {x z : Operand} (H : Hid (Sep w0 w (ThRow 1 (.slice (some ⟨y, off, none⟩) n c) xs :: R) rows)) (hx : a.eval x = .pointer (some ⟨y, off + i, none⟩)) (hy : a.eval z = v) (hc : v.cells = #[v])
    (hw : Region.wanted ⟨dst, .store ty x z, tyy, pos, aft, g⟩ (yielded ops a.tmps) = true) (hs : sizeB P ty 1 = true) (h1 : v.oneCell' = true) (hi : i < n)
    (k : ∀ w', Hid (Sep w0 w' (ThRow 1 (.slice (some ⟨y, off, none⟩) n c) (xs.set i v) :: R) rows) → wpList P ops Q rest (a.put dst undef) w') : wpList P ops Q (⟨dst, .store ty x z, tyy, pos, aft, g⟩ :: rest) a w := by
  obtain ⟨w', h2, h3⟩ := run_rowSet (P := P) (ty := ty) H hs hc h1 hi
  refine wpList_did hw ?_ (k w' h3)
  unfold execOp
  dsimp only
  rw [hx, hy, Sem.run_bind, h2]
  rfl
end
end Go.Av

namespace Go.Av
open Go.RowKit
def strF (f : Nat → Bs) (σ : Nat → Nat) (k : Nat) : Value := sv (f (σ k))
theorem strF_swap (n : Nat) (f : Nat → Bs) (σ : Nat → Nat) (i j : Nat) : ((cellsF n (strF f σ)).set i (sv (f (σ j)))).set j (sv (f (σ i))) = cellsF n (strF f (swapF σ i j)) := by
  rw [cellsF_set, cellsF_set]
  unfold cellsF
  apply List.map_congr_left
  intro k _
  unfold strF swapF
  by_cases h1 : k = j
  · rw [if_pos h1]
    by_cases h2 : k = i
    · rw [if_pos h2, ← h1, h2]
    · rw [if_neg h2, if_pos h1]
  · rw [if_neg h1]
    by_cases h2 : k = i
    · rw [if_pos h2, if_pos h2]
    · rw [if_neg h2, if_neg h2, if_neg h1]
theorem i64_idx {x : Int} {k n : Nat} (h : x = (k : Int)) (hk : k < n) (hn : n ≤ 100000) : IntKind.i64.wrap x = x ∧ ((0 ≤ x ∧ x < (n : Int)) = True) ∧ x.toNat = k :=
  ⟨Go.IntWalk.i64_in _ (by omega), eq_true ⟨by omega, by omega⟩, by omega⟩
end Go.Av
namespace Go.Proofs.YtbakgoncfggidaaGreatDoor
open Go.RowKit Go.Av
section
variable {w0 w : World} {R : List Thing} {rows : List (Value × Bs)} {g off n c : Nat} {f : Nat → Bs} {σ : Nat → Nat}
theorem str_load {W : World} (h : Sep w0 W (ThRow 1 (.slice (some ⟨g, off, none⟩) n c) (cellsF n (strF f σ)) :: R) rows) {i : Nat} (hi : i < n) :
    (Instr.loadAt 9 (.pointer (some ⟨g, off + i, none⟩))).run Tryz.prog W = .ok (strF f σ i) W := by
  obtain ⟨D, hD⟩ := h.fst
  obtain ⟨E, hE, -⟩ := OwnRow.read hD
  exact row_load1 hE (by kernel_rfl) (cellsF_at hi)
set_option maxRecDepth 100000 in
set_option maxHeartbeats 2000000 in
theorem swapRange_any (h : Sep w0 w (ThRow 1 (.slice (some ⟨g, off, none⟩) n c) (cellsF n (strF f σ)) :: R) rows) (a b m : Nat) (fv : Value) (h1 : a + m ≤ b) (h2 : b + m ≤ n) (hn : n ≤ 100000) :
    Calls Tryz.prog 302 #[.slice (some ⟨g, off, none⟩) n c, .int .i64 (a : Int), .int .i64 (b : Int), .int .i64 (m : Int), fv] w fun e w' => e = .returned (.tuple #[]) ∧
      Sep w0 w' (ThRow 1 (.slice (some ⟨g, off, none⟩) n c) (cellsF n (strF f (swapR σ a b m))) :: R) rows := by
  have HX := Lib.hid h
  clear h
  go_enter Tryz.func302, Tryz.ntmps302
  go_wp2_with fail
  go_loopg [10] m (fun k v wr => ∃ i : Nat, i + k = m ∧ v = .int .i64 (i : Int) ∧ Sep w0 wr (ThRow 1 (.slice (some ⟨g, off, none⟩) n c) (cellsF n (strF f (swapR σ a b i))) :: R) rows)
  case atStart => exact ⟨0, by omega, rfl, by rw [swapR_zero]; exact HX.out⟩
  case round =>
    rename World => w
    obtain ⟨i, hik, rfl, hS⟩ := hrel
    clear HX
    have HX := Lib.hid hS
    clear hS
    by_cases hlt : i < m
    case neg =>
      obtain rfl : i = m := by omega
      clear hlt hik
      go_wp2_with fail
      go_end0
      exact ⟨rfl, HX.out⟩
    case pos =>
      have q0 : decide (i < m) = true := decide_eq_true hlt
      obtain ⟨τ, hτ⟩ : ∃ τ, swapR σ a b i = τ := ⟨_, rfl⟩
      rw [hτ] at HX
      have HT := Lib.hid hτ
      clear hτ
      obtain ⟨hn1, hn2, hn3⟩ := i64_idx (x := (a : Int) + (i : Int)) (k := a + i) (n := n) (by omega) (by omega) hn
      obtain ⟨hn4, hn5, hn6⟩ := i64_idx (x := (b : Int) + (i : Int)) (k := b + i) (n := n) (by omega) (by omega) hn
      go_wp2_with fail
      refine wp_region_M (fun W => W = w.drew) 20 (by kernel_rfl) ?_
      replace HX := Lib.hid HX.out.drew
      generalize w.drew = w at HX ⊢
      have hl := str_load HX.out (i := a + i) (by omega)
      have hl2 := str_load HX.out (i := b + i) (by omega)
      refine wpAnyM_take (by kernel_rfl) (by intro c a d v w h; cases d <;> exact h) [(0, false), (1, false), (2, false), (3, false), (4, false), (5, false), (6, false), (7, false), (8, false), (9, false), (10, false), (11, false), (12, false), (13, true), (14, false), (15, false), (16, false), (17, false), (18, false), (19, true)] (fuel := 4) (by kernel_rfl) ?_
      apply Exists.intro; refine ⟨?_, rfl, ?_⟩
      · iterate 20 (first | refine yDp ?_ | ((first | apply yieldP | apply yieldL); (· (simp only [k_i, k_j, k_k]; try rfl)); (· rfl); (· (intros; go_simp; (try simp only [hn1, hn2, hn3, hn4, hn5, hn6, ↓reduceIte, and_self, Int.toNat_natCast]); try with_reducible rfl)); (· (simp only [Act.put, k_a, k_b, k_c, k_d, k_e, k_f, k_g, k_h]; try rfl))))
        exact rfl
      refine wpAnyM_of_any _ _ _ _ (by decide) ?_
      refine wpAny_list [20, 21, 22, 23] (fuel := 0) (by kernel_rfl) ?_
      simp only [List.filterMap_cons, List.filterMap_nil, k_i, k_j, k_k]
      clear hl hl2
      go_step
      go_step
      refine sx_rowSet (i := (a + i)) (v := (strF f τ (b + i))) HX rfl rfl rfl rfl (by kernel_rfl) rfl (by omega) ?_
      clear HX
      intro w HX
      simp only [Act.put, k_a, k_b, k_c] at HX ⊢
      go_step
      go_step
      refine sx_rowSet (i := (b + i)) (v := (strF f τ (a + i))) HX rfl rfl rfl rfl (by kernel_rfl) rfl (by omega) ?_
      clear HX
      intro w HX
      simp only [Act.put, k_a, k_b, k_c] at HX ⊢
      have h3 := HX.out
      rw [show (((cellsF n (strF f τ)).set (a + i) (strF f τ (b + i))).set (b + i) (strF f τ (a + i))) = _ from strF_swap n f τ (a + i) (b + i), ← HT.out, swapR_succ σ h1 hlt] at h3
      have HX := Lib.hid h3
      clear h3
      go_wp2_with fail
      go_roundg (m - (i + 1))
      case rel => exact ⟨i + 1, by omega, by go_num, HX.out⟩
      case measure => omega
set_option maxRecDepth 100000 in
set_option maxHeartbeats 2000000 in
theorem rotate_any (h : Sep w0 w (ThRow 1 (.slice (some ⟨g, off, none⟩) n c) (cellsF n (strF f σ)) :: R) rows) (a m b : Nat) (fv : Value) (h1 : a < m) (h2 : m < b) (h3 : b ≤ n) (hn : n ≤ 100000) :
    Calls Tryz.prog 275 #[.slice (some ⟨g, off, none⟩) n c, .int .i64 (a : Int), .int .i64 (m : Int), .int .i64 (b : Int), fv] w fun e w' => e = .returned (.tuple #[]) ∧
      Sep w0 w' (ThRow 1 (.slice (some ⟨g, off, none⟩) n c) (cellsF n (strF f (rotF σ a m b))) :: R) rows := by
  have HX := Lib.hid h
  clear h
  have e1 : (m : Int) - (a : Int) = ((m - a : Nat) : Int) := by omega
  have e2 : (b : Int) - (m : Int) = ((b - m : Nat) : Int) := by omega
  go_enter Tryz.func275, Tryz.ntmps275
  go_wp2_with fail
  go_loopg [10, 11] (m - a + (b - m)) (fun k v v' wr => ∃ (i j : Nat) (τ : Nat → Nat), i + j = k ∧ v = .int .i64 (i : Int) ∧ v' = .int .i64 (j : Int) ∧ 0 < i ∧ 0 < j ∧ i ≤ m ∧ a ≤ m - i ∧ m + j ≤ b ∧ rotF τ (m - i) m (m + j) = rotF σ a m b ∧
    Sep w0 wr (ThRow 1 (.slice (some ⟨g, off, none⟩) n c) (cellsF n (strF f τ)) :: R) rows)
  case atStart => exact ⟨m - a, b - m, σ, by omega, by go_num, by go_num, by omega, by omega, by omega, by omega, by omega, by rw [show m - (m - a) = a by omega, show m + (b - m) = b by omega], HX.out⟩
  case round =>
    rename World => w
    obtain ⟨i, j, τ, hij, rfl, rfl, hi, hj, him, hai, hjb, hrot, hS⟩ := hrel
    clear HX e1 e2
    have HX := Lib.hid hS
    have HR := Lib.hid hrot
    clear hS hrot
    have e1 : ((m - i : Nat) : Int) = (m : Int) - (i : Int) := by omega
    rcases Nat.lt_trichotomy i j with h4 | h4 | h4
    · have q1 : ((i : Int) != (j : Int)) = true := by rw [bne_iff_ne]; omega
      have q2 : decide (j < i) = false := decide_eq_false (by omega)
      have e2 : ((m + j - i : Nat) : Int) = (m : Int) + (j : Int) - (i : Int) := by omega
      have hc := swapRange_any HX.out (m - i) (m + j - i) i fv (by omega) (by omega) hn
      rw [e1, e2] at hc
      go_wp2_with fail
      refine hc.mono ?_
      rintro e w ⟨rfl, hx⟩
      clear HX
      have HX := Lib.hid hx
      clear hc hx
      go_wp2_with fail
      go_roundg (i + (j - i))
      case rel => exact ⟨i, j - i, _, by omega, by go_num, by go_num, by omega, by omega, by omega, by omega, by omega, by rw [rotF_right τ him h4]; exact HR.out, HX.out⟩
      case measure => omega
    · subst h4
      have q1 : ((i : Int) != (i : Int)) = false := by simp
      have hc := swapRange_any HX.out (m - i) m i fv (by omega) (by omega) hn
      rw [e1] at hc
      go_wp2_with fail
      refine hc.mono ?_
      rintro e w ⟨rfl, hx⟩
      clear HX
      have HX := Lib.hid hx
      clear hc hx
      go_wp2_with fail
      go_end0
      refine ⟨rfl, ?_⟩
      rw [← HR.out, ← rotF_same τ him]
      exact HX.out
    · have q1 : ((i : Int) != (j : Int)) = true := by rw [bne_iff_ne]; omega
      have q2 : decide (j < i) = true := decide_eq_true (by omega)
      have hc := swapRange_any HX.out (m - i) m j fv (by omega) (by omega) hn
      rw [e1] at hc
      go_wp2_with fail
      refine hc.mono ?_
      rintro e w ⟨rfl, hx⟩
      clear HX
      have HX := Lib.hid hx
      clear hc hx
      go_wp2_with fail
      go_roundg (i - j + j)
      case rel => exact ⟨i - j, j, _, by omega, by go_num, by go_num, by omega, by omega, by omega, by omega, by omega, by rw [rotF_left τ him h4]; exact HR.out, HX.out⟩
      case measure => omega
end
end Go.Proofs.YtbakgoncfggidaaGreatDoor

namespace Go.Av
section
variable {P : Program} {ops : Array Oper} {Q : Exit → Act → World → Prop} {md : Region.Mode} {S : World → Prop}
theorem wpAnyM_each {N : Nat} {fuel : Nat} {listed : Array Bool} {a : Act} {w : World} (rs : List Nat) (hr : Region.ready md ops listed = rs) (hne : rs ≠ [])
    (h : ∀ i ∈ rs, ∃ o, ops[i]? = some o ∧ ∀ K : Act → World → Prop, (∀ a' w', S w' → wpAnyM P md ops Q S N fuel (listed.setIfInBounds i true) a' w' → K a' w') → wpList P ops (Exit.then K Q) [o] a w) :
    wpAnyM P md ops Q S N (fuel + 1) listed a w := by
  refine ⟨fun h0 => absurd (hr.symm.trans h0) hne, fun j hj => ?_⟩
  rw [hr] at hj
  obtain ⟨o, ho, h⟩ := h j hj
  have h := h (fun a' w' => (j < N → S w → S w') ∧ wpAnyM P md ops Q S N fuel (listed.setIfInBounds j true) a' w') (fun a' w' h1 h2 => ⟨fun _ _ => h1, h2⟩)
  unfold wpList at h
  unfold wpOp
  simp only [ho]
  by_cases hw : Region.wanted o (yielded ops a.tmps) = true
  · rw [if_pos hw] at h ⊢
    rcases h with h | ⟨h1, h2⟩
    · refine .inl ?_
      unfold Oper.wp at h ⊢
      generalize (execOp a.eval o).run P w = r at h ⊢
      cases r with
      | ok n w' =>
        cases n <;> simp only [Oper.upon, wpList, Exit.then] at h ⊢
        case value => exact h
        case skip => exact h
        case defer => exact h
        case enter =>
          refine Calls.mono h fun e w'' he => ?_
          cases e with
          | returned v => exact he
          | panicked c => exact he
          | outgrown => exact he
        case row => exact h
      | halt x w' => cases x <;> simp only [Oper.upon, Exit.then] at h ⊢ <;> exact h
    · exact .inr ⟨h1, h2⟩
  · rw [if_neg hw] at h ⊢
    exact h
end
end Go.Av

namespace Go.Av
section
variable {P : Program} {ops : Array Oper} {Q : Exit → Act → World → Prop} {md : Region.Mode} {S : World → Prop}
theorem wpAnyM_skip {N i : Nat} {o : Oper} {fuel : Nat} {listed : Array Bool} {a a' : Act} {w : World} (hr : Region.ready md ops listed = [i]) (ho : ops[i]? = some o) (hw : Region.wanted o (yielded ops a.tmps) = false) (ha : a' = a.put o.dst undef) (hS : S w)
    (h : wpAnyM P md ops Q S N fuel (listed.setIfInBounds i true) a' w) : wpAnyM P md ops Q S N (fuel + 1) listed a w := by
  refine wpAnyM_one hr ho (fun K hK => ?_)
  unfold wpList
  rw [if_neg (by rw [hw]; simp)]
  unfold wpList
  rw [← ha]
  exact hK _ _ hS h
end
end Go.Av

namespace Go.Proofs.YtbakgoncfggidaaGreatDoor
open Go.RowKit Go.Av
def LessPost (w0 : World) (Ky : Bs → Int) (x y : Bs) (R : List Thing) (rows : List (Value × Bs)) (e : Ending) (w' : World) : Prop :=
  ∃ r : Int, e = .returned (.int .i64 r) ∧ (r < 0 ↔ Ky x < Ky y) ∧ Sep w0 w' R rows
def LessC (w0 : World) (Ky : Bs → Int) (ok : Bs → Prop) : Prop := ∀ (x y : Bs) (w : World) (R : List Thing) (rows : List (Value × Bs)), ok x → ok y → Sep w0 w R rows → Calls Tryz.prog 156 #[sv x, sv y] w (LessPost w0 Ky x y R rows)
abbrev lessV : Value := .func (.func 156) #[] #[]
section
variable {w0 w : World} {R : List Thing} {rows : List (Value × Bs)} {g off n c : Nat} {f : Nat → Bs} {σ : Nat → Nat} {Ky : Bs → Int} {ok : Bs → Prop}
def SortPost (w0 : World) (g off n c : Nat) (f : Nat → Bs) (R : List Thing) (rows : List (Value × Bs)) (X : (Nat → Nat) → Prop) (e : Ending) (w' : World) : Prop :=
  ∃ τ, e = .returned (.tuple #[]) ∧ X τ ∧ Sep w0 w' (ThRow 1 (.slice (some ⟨g, off, none⟩) n c) (cellsF n (strF f τ)) :: R) rows
set_option maxRecDepth 100000 in
set_option maxHeartbeats 4000000 in
theorem insertion_any (hc : LessC w0 Ky ok) (hf : ∀ i, ok (f i)) (h : Sep w0 w (ThRow 1 (.slice (some ⟨g, off, none⟩) n c) (cellsF n (strF f σ)) :: R) rows) (a b : Nat) (h1 : a ≤ b) (h2 : b ≤ n) (hn : n ≤ 100000) (hs : ∀ x, a ≤ x → x < b → σ x = x) :
    Calls Tryz.prog 230 #[.slice (some ⟨g, off, none⟩) n c, .int .i64 (a : Int), .int .i64 (b : Int), lessV] w (SortPost w0 g off n c f R rows fun τ => PermF a b σ τ ∧ InBlk (fun i => Ky (f i)) τ a b) := by
  have HC := Lib.hid hc
  have HF := Lib.hid hf
  have HX := Lib.hid h
  have HS := Lib.hid hs
  clear h hc hf hs
  by_cases hab : a = b
  · subst hab
    have q1 : decide ((a : Int) + 1 < (a : Int)) = false := decide_eq_false (by omega)
    have q1' : decide (a + 1 < a) = false := decide_eq_false (by omega)
    go_enter Tryz.func230, Tryz.ntmps230
    go_wp2_with fail
    refine wp_loop_rounds 1 ?_
    rw [rounds_succ]
    go_wp2_with fail
    go_end0
    exact ⟨σ, rfl, ⟨.refl _ _ _, ⟨fun x y g1 g2 g3 => by omega, fun x g1 g2 => by omega⟩⟩, HX.out⟩
  go_enter Tryz.func230, Tryz.ntmps230
  go_wp2_with fail
  go_loopg [8] (b - (a + 1)) (fun k v wr => ∃ (i : Nat) (τ : Nat → Nat), i + k = b ∧ v = .int .i64 (i : Int) ∧ a < i ∧ PermF a b σ τ ∧ InBlk (fun i => Ky (f i)) τ a i ∧ (∀ x, i ≤ x → x < b → τ x = x) ∧
    Sep w0 wr (ThRow 1 (.slice (some ⟨g, off, none⟩) n c) (cellsF n (strF f τ)) :: R) rows)
  case atStart =>
    refine ⟨a + 1, σ, by omega, by go_num, by omega, .refl _ _ _, ⟨fun x y g1 g2 g3 => by omega, fun x g1 g2 => ?_⟩, fun x g1 g2 => HS.out x (by omega) g2, HX.out⟩
    have := HS.out x g1 (by omega)
    omega
  case round =>
    rename World => w
    obtain ⟨i, τ, hik, rfl, hai, hp, hb, hid, hS⟩ := hrel
    clear HX HS
    have HX := Lib.hid hS
    have HT := Lib.hid (show _ ∧ _ ∧ _ from ⟨hp, hb, hid⟩)
    clear hS hp hb hid
    by_cases hlt : i < b
    case neg =>
      obtain rfl : i = b := by omega
      clear hlt hik
      go_wp2_with fail
      go_end0
      exact ⟨τ, rfl, ⟨HT.out.1, HT.out.2.1⟩, HX.out⟩
    case pos =>
      have q0 : decide (i < b) = true := decide_eq_true hlt
      go_wp2_with fail
      go_loopg [9] (i - a) (fun k v wr => ∃ j : Nat, a + k = j ∧ v = .int .i64 (j : Int) ∧ j ≤ i ∧ (∀ x, j ≤ x → x < i → Ky (f (τ i)) < Ky (f (τ x))) ∧
        Sep w0 wr (ThRow 1 (.slice (some ⟨g, off, none⟩) n c) (cellsF n (strF f (movD τ i j))) :: R) rows)
      case atStart => exact ⟨i, by omega, rfl, Nat.le_refl _, fun x g1 g2 => by omega, by rw [movD_zero]; exact HX.out⟩
      case round =>
        rename World => w
        obtain ⟨j, hjk, rfl, hji, hgt, hS⟩ := hrel
        clear HX
        have HX := Lib.hid hS
        have HG := Lib.hid hgt
        clear hS hgt
        obtain ⟨ρ, hρ⟩ : ∃ ρ, movD τ i j = ρ := ⟨_, rfl⟩
        have hρj : ρ j = τ i := by rw [← hρ]; unfold movD; rw [if_neg (by omega), if_pos rfl]
        rw [hρ] at HX
        have HR := Lib.hid (show _ ∧ _ from ⟨hρ, hρj⟩)
        clear hρ hρj
        by_cases hja : j = a
        · have q1 : decide (a < j) = false := decide_eq_false (by omega)
          go_wp2_with fail
          refine wp_region_M (fun W => W = w.drew) 17 (by kernel_rfl) ?_
          replace HX := Lib.hid HX.out.drew
          generalize w.drew = w at HX ⊢
          refine wpAnyM_take (by kernel_rfl) (by intro c a d v w h; cases d <;> exact h) [(0, false), (1, false), (2, false), (3, false), (4, false), (5, false), (6, false), (7, false), (8, true), (9, false), (10, false), (11, false), (12, false), (13, true)] (fuel := 3) (by kernel_rfl) ?_
          apply Exists.intro; refine ⟨?_, rfl, ?_⟩
          · iterate 14 (refine yDp ?_)
            exact rfl
          apply wpAnyM_skip (fuel := 2) (i := 14)
          · kernel_rfl
          · simp only [k_i, k_j, k_k]; try rfl
          · rfl
          · simp only [Act.put, k_a, k_b, k_c]; try rfl
          · exact rfl
          refine wpAnyM_take (by kernel_rfl) (by intro c a d v w h; cases d <;> exact h) [(15, false), (16, false)] (fuel := 0) (by kernel_rfl) ?_
          apply Exists.intro; refine ⟨?_, rfl, ?_⟩
          · iterate 2 (refine yDp ?_)
            exact rfl
          refine wpAnyM_done (by kernel_rfl) ?_ _
          go_wp2_with fail
          go_roundg (b - (i + 1))
          case rel =>
            (refine ⟨i + 1, movD τ i j, by omega, by go_num, by omega, HT.out.1.trans (movD_perm τ hji (by omega) (by omega)), HT.out.2.1.snoc (HT.out.2.2 i (Nat.le_refl _) hlt) (by omega) hji HG.out (.inl hja), fun x g1 g2 => ?_, by rw [HR.out.1]; exact HX.out⟩; unfold movD; rw [if_neg (by omega), if_neg (by omega)]; exact HT.out.2.2 x (by omega) g2)
          case measure => omega
        · have q1 : decide (a < j) = true := decide_eq_true (by omega)
          have hj1 : ρ (j - 1) = τ (j - 1) := by rw [← HR.out.1]; unfold movD; rw [if_neg (by omega), if_neg (by omega)]
          have HJ := Lib.hid hj1
          clear hj1
          obtain ⟨hn1, hn2, hn3⟩ := i64_idx (x := (j : Int) - 1) (k := j - 1) (n := n) (by omega) (by omega) hn
          have hn4 : (j < n) = True := eq_true (by omega)
          have hn5 : (1 ≤ (j : Int) ∧ (j : Int) - 1 < (n : Int)) = True := eq_true (by omega)
          go_wp2_with fail
          refine wp_region_M (fun W => Sep w0 W (ThRow 1 (.slice (some ⟨g, off, none⟩) n c) (cellsF n (strF f ρ)) :: R) rows) 17 (by kernel_rfl) ?_
          have KEEPX : ∀ W, Sep w0 W (ThRow 1 (.slice (some ⟨g, off, none⟩) n c) (cellsF n (strF f ρ)) :: R) rows → Sep w0 W (ThRow 1 (.slice (some ⟨g, off, none⟩) n c) (cellsF n (strF f ρ)) :: R) rows := fun _ h => h
          have hl : ∀ W, Sep w0 W (ThRow 1 (.slice (some ⟨g, off, none⟩) n c) (cellsF n (strF f ρ)) :: R) rows → _ := fun W hW => str_load (i := j) hW (by omega)
          have hl2 : ∀ W, Sep w0 W (ThRow 1 (.slice (some ⟨g, off, none⟩) n c) (cellsF n (strF f ρ)) :: R) rows → _ := fun W hW => str_load (i := j - 1) hW (by omega)
          replace HX := Lib.hid HX.out.drew
          refine wpAnyM_take (by kernel_rfl) (by intro c a d v w h; cases d <;> exact h) [(0, false), (1, false), (2, false), (3, false), (4, false), (5, false), (6, false), (7, false), (8, true), (9, false), (10, false), (11, false), (12, false), (13, true)] (fuel := 3) (by kernel_rfl) ?_
          apply Exists.intro; refine ⟨?_, HX.out, ?_⟩
          · iterate 14 (first | refine yEp ?_ | ((first | apply yieldP | apply yieldL); (· (simp only [k_i, k_j, k_k]; try rfl)); (· rfl); (· (intros; go_simp; (try simp only [hn1, hn2, hn3, hn4, hn5, ↓reduceIte, and_self, Int.toNat_natCast]); try with_reducible rfl)); (· (simp only [Act.put, k_a, k_b, k_c, k_d, k_e, k_f, k_g, k_h]; try rfl))))
            exact rfl
          clear hl hl2
          refine wpAnyM_one (fuel := 2) (i := 14) (by kernel_rfl) (by (simp only [k_i, k_j, k_k]; try rfl)) (fun K hK => ?_)
          go_wp2_with fail
          refine (HC.out (f (ρ j)) (f (ρ (j - 1))) _ _ _ (HF.out _) (HF.out _) HX.out).mono ?_
          rintro e w ⟨r, rfl, hr, hx⟩
          clear HX
          have HX := Lib.hid hx
          clear hx
          rw [HR.out.2, HJ.out] at hr
          go_wp2_with fail
          refine hK _ _ HX.out ?_
          clear hK hn1 hn2 hn3 hn4 hn5
          by_cases hr0 : r < 0
          · have q2 : decide (r < 0) = true := decide_eq_true hr0
            have hr := hr.1 hr0
            refine wpAnyM_take (by kernel_rfl) (by intro c a d v w h; cases d <;> exact h) [(15, false), (16, false)] (fuel := 0) (by kernel_rfl) ?_
            apply Exists.intro; refine ⟨?_, HX.out, ?_⟩
            · iterate 2 (first | refine yEp ?_ | ((first | apply yieldP | apply yieldL); (· (simp only [k_i, k_j, k_k]; try rfl)); (· rfl); (· (intros; go_simp; (try simp only [hn1, hn2, hn3, hn4, hn5, ↓reduceIte, and_self, Int.toNat_natCast]); try with_reducible rfl)); (· (simp only [Act.put, k_a, k_b, k_c, k_d, k_e, k_f, k_g, k_h]; try rfl))))
              exact rfl
            refine wpAnyM_done (by kernel_rfl) ?_ _
            obtain ⟨hn1, hn2, hn3⟩ := i64_idx (x := (j : Int) - 1) (k := j - 1) (n := n) (by omega) (by omega) hn
            have hn4 : (j < n) = True := eq_true (by omega)
            have hn5 : (1 ≤ (j : Int) ∧ (j : Int) - 1 < (n : Int)) = True := eq_true (by omega)
            go_wp2_with fail
            refine wp_region_M (fun W => W = w.drew) 14 (by kernel_rfl) ?_
            replace HX := Lib.hid HX.out.drew
            generalize w.drew = w at HX ⊢
            have hl := str_load HX.out (i := j) (by omega)
            have hl2 := str_load HX.out (i := j - 1) (by omega)
            refine wpAnyM_take (by kernel_rfl) (by intro c a d v w h; cases d <;> exact h) [(0, false), (1, false), (2, false), (3, false), (4, false), (5, false), (6, false), (7, false), (8, false), (9, true), (10, false), (11, false), (12, false), (13, true)] (fuel := 4) (by kernel_rfl) ?_
            apply Exists.intro; refine ⟨?_, rfl, ?_⟩
            · iterate 14 (first | refine yDp ?_ | ((first | apply yieldP | apply yieldL); (· (simp only [k_i, k_j, k_k]; try rfl)); (· rfl); (· (intros; go_simp; (try simp only [hn1, hn2, hn3, hn4, hn5, ↓reduceIte, and_self, Int.toNat_natCast]); try with_reducible rfl)); (· (simp only [Act.put, k_a, k_b, k_c, k_d, k_e, k_f, k_g, k_h]; try rfl))))
              exact rfl
            refine wpAnyM_of_any _ _ _ _ (by decide) ?_
            refine wpAny_list [14, 15, 16, 17] (fuel := 0) (by kernel_rfl) ?_
            simp only [List.filterMap_cons, List.filterMap_nil, k_i, k_j, k_k]
            clear hl hl2
            go_step
            go_step
            refine sx_rowSet (i := j) (v := (strF f ρ (j - 1))) HX rfl rfl rfl rfl (by kernel_rfl) rfl (by omega) ?_
            clear HX
            intro w HX
            simp only [Act.put, k_a, k_b, k_c] at HX ⊢
            go_step
            go_step
            refine sx_rowSet (i := (j - 1)) (v := (strF f ρ j)) HX rfl rfl rfl rfl (by kernel_rfl) rfl (by omega) ?_
            clear HX
            intro w HX
            simp only [Act.put, k_a, k_b, k_c] at HX ⊢
            have h3 := HX.out
            have hms := movD_succ τ (m := i) (k := j - 1) (by omega)
            rw [show j - 1 + 1 = j by omega, HR.out.1] at hms
            rw [show (((cellsF n (strF f ρ)).set j (strF f ρ (j - 1))).set (j - 1) (strF f ρ j)) = _ from strF_swap n f ρ j (j - 1), hms] at h3
            have HX := Lib.hid h3
            clear h3
            go_wp2_with fail
            go_roundg (j - 1 - a)
            case rel =>
              refine ⟨j - 1, by omega, by go_num, by omega, fun x g1 g2 => ?_, HX.out⟩
              by_cases hx : x = j - 1
              · rw [hx]; exact hr
              · exact HG.out x (by omega) g2
            case measure => omega
          · have q2 : decide (r < 0) = false := decide_eq_false hr0
            have hr : ¬ Ky (f (τ i)) < Ky (f (τ (j - 1))) := fun hh => hr0 (hr.2 hh)
            refine wpAnyM_take (by kernel_rfl) (by intro c a d v w h; cases d <;> exact h) [(15, false), (16, false)] (fuel := 0) (by kernel_rfl) ?_
            apply Exists.intro; refine ⟨?_, HX.out, ?_⟩
            · iterate 2 (first | refine yEp ?_ | ((first | apply yieldP | apply yieldL); (· (simp only [k_i, k_j, k_k]; try rfl)); (· rfl); (· (intros; go_simp; (try simp only [hn1, hn2, hn3, hn4, hn5, ↓reduceIte, and_self, Int.toNat_natCast]); try with_reducible rfl)); (· (simp only [Act.put, k_a, k_b, k_c, k_d, k_e, k_f, k_g, k_h]; try rfl))))
              exact rfl
            refine wpAnyM_done (by kernel_rfl) ?_ _
            go_wp2_with fail
            go_roundg (b - (i + 1))
            case rel =>
              (refine ⟨i + 1, movD τ i j, by omega, by go_num, by omega, HT.out.1.trans (movD_perm τ hji (by omega) (by omega)), HT.out.2.1.snoc (HT.out.2.2 i (Nat.le_refl _) hlt) (by omega) hji HG.out (.inr (by show Ky (f (τ (j - 1))) ≤ Ky (f (τ i)); omega)), fun x g1 g2 => ?_, by rw [HR.out.1]; exact HX.out⟩; unfold movD; rw [if_neg (by omega), if_neg (by omega)]; exact HT.out.2.2 x (by omega) g2)
            case measure => omega
end
end Go.Proofs.YtbakgoncfggidaaGreatDoor

namespace Go.Proofs.YtbakgoncfggidaaGreatDoor
open Go.RowKit Go.Av
section
variable {w0 : World} {R : List Thing} {rows : List (Value × Bs)} {g off n c : Nat} {f : Nat → Bs} {Ky : Bs → Int} {ok : Bs → Prop}
def SymC (w0 : World) (g off n c : Nat) (f : Nat → Bs) (Ky : Bs → Int) (R : List Thing) (rows : List (Value × Bs)) (L : Nat) : Prop :=
  ∀ (w : World) (σ : Nat → Nat) (a m b : Nat), b - a ≤ L → b ≤ n → MergIn (fun i => Ky (f i)) σ a m b → Sep w0 w (ThRow 1 (.slice (some ⟨g, off, none⟩) n c) (cellsF n (strF f σ)) :: R) rows →
    Calls Tryz.prog 231 #[.slice (some ⟨g, off, none⟩) n c, .int .i64 (a : Int), .int .i64 (m : Int), .int .i64 (b : Int), lessV] w (SortPost w0 g off n c f R rows fun τ => MergOut (fun i => Ky (f i)) σ τ a b)
set_option maxRecDepth 100000 in
set_option maxHeartbeats 8000000 in
theorem sym_one1 (hc : LessC w0 Ky ok) (hf : ∀ i, ok (f i)) (hn : n ≤ 100000) (w : World) (σ : Nat → Nat) (a b : Nat) (hbn : b ≤ n) (hm : MergIn (fun i => Ky (f i)) σ a (a + 1) b) (h : Sep w0 w (ThRow 1 (.slice (some ⟨g, off, none⟩) n c) (cellsF n (strF f σ)) :: R) rows) :
    Calls Tryz.prog 231 #[.slice (some ⟨g, off, none⟩) n c, .int .i64 (a : Int), .int .i64 ((a : Int) + 1), .int .i64 (b : Int), lessV] w (SortPost w0 g off n c f R rows fun τ => MergOut (fun i => Ky (f i)) σ τ a b) := by
  have HC := Lib.hid hc
  have HF := Lib.hid hf
  have HX := Lib.hid h
  have HM := Lib.hid hm
  have hmb := hm.mb
  clear h hc hf hm
  have q1 : (((a : Int) + 1 - (a : Int)) == 1) = true := by rw [beq_iff_eq]; omega
  go_enter Tryz.func231, Tryz.ntmps231
  go_wp2_with fail
  go_loopg [10, 11] (b - (a + 1)) (fun k v v' wr => ∃ (i j : Nat), i + k = j ∧ v = .int .i64 (i : Int) ∧ v' = .int .i64 (j : Int) ∧ a + 1 ≤ i ∧ j ≤ b ∧ (∀ x, a + 1 ≤ x → x < i → Ky (f (σ x)) < Ky (f (σ a))) ∧ (∀ x, j ≤ x → x < b → Ky (f (σ a)) ≤ Ky (f (σ x))) ∧
    Sep w0 wr (ThRow 1 (.slice (some ⟨g, off, none⟩) n c) (cellsF n (strF f σ)) :: R) rows)
  case atStart => exact ⟨a + 1, b, by omega, by go_num, by go_num, by omega, by omega, fun x g1 g2 => by omega, fun x g1 g2 => by omega, HX.out⟩
  case round =>
    rename World => w
    obtain ⟨i, j, hij, rfl, rfl, hi, hj, h3, h4, hS⟩ := hrel
    clear HX
    have HX := Lib.hid hS
    have HG := Lib.hid (show _ ∧ _ from ⟨h3, h4⟩)
    clear hS h3 h4
    by_cases hlt : i < j
    case neg =>
      obtain rfl : i = j := by omega
      have q0 : decide (i < i) = false := decide_eq_false (by omega)
      clear hlt hij
      go_wp2_with fail
      go_loopg [13] (i - 1 - a) (fun k v wr => ∃ (x : Nat), x + k = i - 1 ∧ v = .int .i64 (x : Int) ∧ a ≤ x ∧ Sep w0 wr (ThRow 1 (.slice (some ⟨g, off, none⟩) n c) (cellsF n (strF f (movU σ a x))) :: R) rows)
      case atStart => exact ⟨a, by omega, by go_num, by omega, by rw [movU_zero]; exact HX.out⟩
      case round =>
        rename World => w
        obtain ⟨x, hxk, rfl, hax, hS⟩ := hrel
        clear HX
        have HX := Lib.hid hS
        clear hS
        by_cases hxi : x < i - 1
        case neg =>
          obtain rfl : x = i - 1 := by omega
          have q2 : decide (((i - 1 : Nat) : Int) < (i : Int) - 1) = false := decide_eq_false (by omega)
          have q3 : decide (((i - 1 : Nat) : Int) + 1 < (i : Int)) = false := decide_eq_false (by omega)
          have q4 : decide ((i - 1 : Nat) < i - 1) = false := decide_eq_false (by omega)
          go_wp2_with fail
          go_end0
          exact ⟨_, rfl, merg_one1 HM.out hi hj HG.out.1 HG.out.2, HX.out⟩
        case pos =>
          have q2 : decide ((x : Int) < (i : Int) - 1) = true := decide_eq_true (by omega)
          obtain ⟨hn1, hn2, hn3⟩ := i64_idx (x := (x : Int) + 1) (k := x + 1) (n := n) (by omega) (by omega) hn
          have hn4 : (x < n) = True := eq_true (by omega)
          obtain ⟨ρ, hρ⟩ : ∃ ρ, movU σ a x = ρ := ⟨_, rfl⟩
          rw [hρ] at HX
          have HR := Lib.hid hρ
          clear hρ
          go_wp2_with fail
          refine wp_region_M (fun W => W = w.drew) 14 (by kernel_rfl) ?_
          replace HX := Lib.hid HX.out.drew
          generalize w.drew = w at HX ⊢
          have hl := str_load HX.out (i := x) (by omega)
          have hl2 := str_load HX.out (i := x + 1) (by omega)
          refine wpAnyM_take (by kernel_rfl) (by intro c a d v w h; cases d <;> exact h) [(0, false), (1, false), (2, false), (3, false), (4, false), (5, false), (6, false), (7, false), (8, false), (9, true), (10, false), (11, false), (12, false), (13, true)] (fuel := 4) (by kernel_rfl) ?_
          apply Exists.intro; refine ⟨?_, rfl, ?_⟩
          · iterate 14 (first | refine yDp ?_ | ((first | apply yieldP | apply yieldL); (· (simp only [k_i, k_j, k_k]; try rfl)); (· rfl); (· (intros; go_simp; (try simp only [hn1, hn2, hn3, hn4, ↓reduceIte, and_self, Int.toNat_natCast]); try with_reducible rfl)); (· (simp only [Act.put, k_a, k_b, k_c, k_d, k_e, k_f, k_g, k_h]; try rfl))))
            exact rfl
          refine wpAnyM_of_any _ _ _ _ (by decide) ?_
          refine wpAny_list [14, 15, 16, 17] (fuel := 0) (by kernel_rfl) ?_
          simp only [List.filterMap_cons, List.filterMap_nil, k_i, k_j, k_k]
          clear hl hl2
          go_step
          go_step
          refine sx_rowSet (i := x) (v := (strF f ρ (x + 1))) HX rfl rfl rfl rfl (by kernel_rfl) rfl (by omega) ?_
          clear HX
          intro w HX
          simp only [Act.put, k_a, k_b, k_c] at HX ⊢
          go_step
          go_step
          refine sx_rowSet (i := (x + 1)) (v := (strF f ρ x)) HX rfl rfl rfl rfl (by kernel_rfl) rfl (by omega) ?_
          clear HX
          intro w HX
          simp only [Act.put, k_a, k_b, k_c] at HX ⊢
          have h3 := HX.out
          have hms := movU_succ σ hax
          rw [HR.out] at hms
          rw [show (((cellsF n (strF f ρ)).set x (strF f ρ (x + 1))).set (x + 1) (strF f ρ x)) = _ from strF_swap n f ρ x (x + 1), hms] at h3
          have HX := Lib.hid h3
          clear h3
          go_wp2_with fail
          go_roundg (i - 1 - (x + 1))
          case rel => exact ⟨x + 1, by omega, by go_num, by omega, HX.out⟩
          case measure => omega
    case pos =>
      have q0 : decide (i < j) = true := decide_eq_true hlt
      obtain ⟨hn1, hn2, hn3⟩ := i64_idx (x := ((i : Int) + (j : Int)) / 2) (k := (i + j) / 2) (n := n) (by omega) (by omega) hn
      have hn4 : (a < n) = True := eq_true (by omega)
      go_wp2_with fail
      refine wp_region_M (fun W => Sep w0 W (ThRow 1 (.slice (some ⟨g, off, none⟩) n c) (cellsF n (strF f σ)) :: R) rows) 11 (by kernel_rfl) ?_
      have KEEPX : ∀ W, Sep w0 W (ThRow 1 (.slice (some ⟨g, off, none⟩) n c) (cellsF n (strF f σ)) :: R) rows → Sep w0 W (ThRow 1 (.slice (some ⟨g, off, none⟩) n c) (cellsF n (strF f σ)) :: R) rows := fun _ h => h
      have hl : ∀ W, Sep w0 W (ThRow 1 (.slice (some ⟨g, off, none⟩) n c) (cellsF n (strF f σ)) :: R) rows → _ := fun W hW => str_load (i := (i + j) / 2) hW (by omega)
      have hl2 : ∀ W, Sep w0 W (ThRow 1 (.slice (some ⟨g, off, none⟩) n c) (cellsF n (strF f σ)) :: R) rows → _ := fun W hW => str_load (i := a) hW (by omega)
      replace HX := Lib.hid HX.out.drew
      refine wpAnyM_take (by kernel_rfl) (by intro c a d v w h; cases d <;> exact h) [(0, false), (1, false), (2, false), (3, false), (4, true), (5, false), (6, false), (7, false), (8, true)] (fuel := 2) (by kernel_rfl) ?_
      apply Exists.intro; refine ⟨?_, HX.out, ?_⟩
      · iterate 9 (first | refine yEp ?_ | ((first | apply yieldP | apply yieldL); (· (simp only [k_i, k_j, k_k]; try rfl)); (· rfl); (· (intros; go_simp; (try simp only [hn1, hn2, hn3, hn4, ↓reduceIte, and_self, Int.toNat_natCast]); try with_reducible rfl)); (· (simp only [Act.put, k_a, k_b, k_c, k_d, k_e, k_f, k_g, k_h]; try rfl))))
        exact rfl
      clear hl hl2
      refine wpAnyM_one (fuel := 1) (i := 9) (by kernel_rfl) (by (simp only [k_i, k_j, k_k]; try rfl)) (fun K hK => ?_)
      go_wp2_with fail
      refine (HC.out (f (σ ((i + j) / 2))) (f (σ a)) _ _ _ (HF.out _) (HF.out _) HX.out).mono ?_
      rintro e w ⟨r, rfl, hr, hx⟩
      clear HX
      have HX := Lib.hid hx
      clear hx
      go_wp2_with fail
      refine hK _ _ HX.out ?_
      clear hK hn1 hn2 hn3 hn4
      by_cases hr0 : r < 0
      · have q2 : decide (r < 0) = true := decide_eq_true hr0
        have hr := hr.1 hr0
        refine wpAnyM_take (by kernel_rfl) (by intro c a d v w h; cases d <;> exact h) [(10, false)] (fuel := 0) (by kernel_rfl) ?_
        apply Exists.intro; refine ⟨?_, HX.out, ?_⟩
        · iterate 1 (first | refine yEp ?_ | ((first | apply yieldP | apply yieldL); (· (simp only [k_i, k_j, k_k]; try rfl)); (· rfl); (· (intros; go_simp; (try simp only [hn1, hn2, hn3, hn4, ↓reduceIte, and_self, Int.toNat_natCast]); try with_reducible rfl)); (· (simp only [Act.put, k_a, k_b, k_c, k_d, k_e, k_f, k_g, k_h]; try rfl))))
          exact rfl
        refine wpAnyM_done (by kernel_rfl) ?_ _
        go_wp2_with fail
        go_roundg (j - ((i + j) / 2 + 1))
        case rel => exact ⟨(i + j) / 2 + 1, j, by omega, by go_num, rfl, by omega, by omega, fun x g1 g2 => by
          have := HM.out.right.le (i := x) (j := (i + j) / 2) g1 (by omega) (by omega)
          have this : Ky (f (σ x)) ≤ Ky (f (σ ((i + j) / 2))) := this
          omega, HG.out.2, HX.out⟩
        case measure => omega
      · have q2 : decide (r < 0) = false := decide_eq_false hr0
        have hr : ¬ Ky (f (σ ((i + j) / 2))) < Ky (f (σ a)) := fun hh => hr0 (hr.2 hh)
        refine wpAnyM_take (by kernel_rfl) (by intro c a d v w h; cases d <;> exact h) [(10, false)] (fuel := 0) (by kernel_rfl) ?_
        apply Exists.intro; refine ⟨?_, HX.out, ?_⟩
        · iterate 1 (first | refine yEp ?_ | ((first | apply yieldP | apply yieldL); (· (simp only [k_i, k_j, k_k]; try rfl)); (· rfl); (· (intros; go_simp; (try simp only [hn1, hn2, hn3, hn4, ↓reduceIte, and_self, Int.toNat_natCast]); try with_reducible rfl)); (· (simp only [Act.put, k_a, k_b, k_c, k_d, k_e, k_f, k_g, k_h]; try rfl))))
          exact rfl
        refine wpAnyM_done (by kernel_rfl) ?_ _
        go_wp2_with fail
        go_roundg ((i + j) / 2 - i)
        case rel => exact ⟨i, (i + j) / 2, by omega, rfl, by go_num, by omega, by omega, HG.out.1, fun x g1 g2 => by
          have := HM.out.right.le (i := (i + j) / 2) (j := x) (by omega) g1 g2
          have this : Ky (f (σ ((i + j) / 2))) ≤ Ky (f (σ x)) := this
          omega, HX.out⟩
        case measure => omega
set_option maxRecDepth 100000 in
set_option maxHeartbeats 8000000 in
theorem sym_one2 (hc : LessC w0 Ky ok) (hf : ∀ i, ok (f i)) (hn : n ≤ 100000) (w : World) (σ : Nat → Nat) (a m : Nat) (hbn : m + 1 ≤ n) (ha1 : a + 1 < m) (hm : MergIn (fun i => Ky (f i)) σ a m (m + 1)) (h : Sep w0 w (ThRow 1 (.slice (some ⟨g, off, none⟩) n c) (cellsF n (strF f σ)) :: R) rows) :
    Calls Tryz.prog 231 #[.slice (some ⟨g, off, none⟩) n c, .int .i64 (a : Int), .int .i64 (m : Int), .int .i64 ((m : Int) + 1), lessV] w (SortPost w0 g off n c f R rows fun τ => MergOut (fun i => Ky (f i)) σ τ a (m + 1)) := by
  have HC := Lib.hid hc
  have HF := Lib.hid hf
  have HX := Lib.hid h
  have HM := Lib.hid hm
  clear h hc hf hm
  have q1 : (((m : Int) - (a : Int)) == 1) = false := by rw [beq_eq_false_iff_ne]; omega
  have q1' : (((m : Int) + 1 - (m : Int)) == 1) = true := by rw [beq_iff_eq]; omega
  go_enter Tryz.func231, Tryz.ntmps231
  go_wp2_with fail
  go_loopg [14, 15] (m - a) (fun k v v' wr => ∃ (i j : Nat), i + k = j ∧ v = .int .i64 (i : Int) ∧ v' = .int .i64 (j : Int) ∧ a ≤ i ∧ j ≤ m ∧ (∀ x, a ≤ x → x < i → Ky (f (σ x)) ≤ Ky (f (σ m))) ∧ (∀ x, j ≤ x → x < m → Ky (f (σ m)) < Ky (f (σ x))) ∧
    Sep w0 wr (ThRow 1 (.slice (some ⟨g, off, none⟩) n c) (cellsF n (strF f σ)) :: R) rows)
  case atStart => exact ⟨a, m, by omega, by go_num, by go_num, by omega, by omega, fun x g1 g2 => by omega, fun x g1 g2 => by omega, HX.out⟩
  case round =>
    rename World => w
    obtain ⟨i, j, hij, rfl, rfl, hi, hj, h3, h4, hS⟩ := hrel
    clear HX
    have HX := Lib.hid hS
    have HG := Lib.hid (show _ ∧ _ from ⟨h3, h4⟩)
    clear hS h3 h4
    by_cases hlt : i < j
    case neg =>
      obtain rfl : i = j := by omega
      have q0 : decide (i < i) = false := decide_eq_false (by omega)
      clear hlt hij
      go_wp2_with fail
      go_loopg [17] (m - i) (fun k v wr => ∃ (x : Nat), i + k = x ∧ v = .int .i64 (x : Int) ∧ x ≤ m ∧ Sep w0 wr (ThRow 1 (.slice (some ⟨g, off, none⟩) n c) (cellsF n (strF f (movD σ m x))) :: R) rows)
      case atStart => exact ⟨m, by omega, by go_num, by omega, by rw [movD_zero]; exact HX.out⟩
      case round =>
        rename World => w
        obtain ⟨x, hxk, rfl, hax, hS⟩ := hrel
        clear HX
        have HX := Lib.hid hS
        clear hS
        by_cases hxi : i < x
        case neg =>
          obtain rfl : x = i := by omega
          have q2 : decide (x < x) = false := decide_eq_false (by omega)
          go_wp2_with fail
          go_end0
          exact ⟨_, rfl, merg_one2 HM.out hi hj HG.out.1 HG.out.2, HX.out⟩
        case pos =>
          have q2 : decide (i < x) = true := decide_eq_true (by omega)
          obtain ⟨hn1, hn2, hn3⟩ := i64_idx (x := (x : Int) - 1) (k := x - 1) (n := n) (by omega) (by omega) hn
          have hn4 : (x < n) = True := eq_true (by omega)
          have hn5 : (1 ≤ (x : Int) ∧ (x : Int) - 1 < (n : Int)) = True := eq_true (by omega)
          obtain ⟨ρ, hρ⟩ : ∃ ρ, movD σ m x = ρ := ⟨_, rfl⟩
          rw [hρ] at HX
          have HR := Lib.hid hρ
          clear hρ
          go_wp2_with fail
          refine wp_region_M (fun W => W = w.drew) 14 (by kernel_rfl) ?_
          replace HX := Lib.hid HX.out.drew
          generalize w.drew = w at HX ⊢
          have hl := str_load HX.out (i := x) (by omega)
          have hl2 := str_load HX.out (i := x - 1) (by omega)
          refine wpAnyM_take (by kernel_rfl) (by intro c a d v w h; cases d <;> exact h) [(0, false), (1, false), (2, false), (3, false), (4, false), (5, false), (6, false), (7, false), (8, false), (9, true), (10, false), (11, false), (12, false), (13, true)] (fuel := 4) (by kernel_rfl) ?_
          apply Exists.intro; refine ⟨?_, rfl, ?_⟩
          · iterate 14 (first | refine yDp ?_ | ((first | apply yieldP | apply yieldL); (· (simp only [k_i, k_j, k_k]; try rfl)); (· rfl); (· (intros; go_simp; (try simp only [hn1, hn2, hn3, hn4, hn5, ↓reduceIte, and_self, Int.toNat_natCast]); try with_reducible rfl)); (· (simp only [Act.put, k_a, k_b, k_c, k_d, k_e, k_f, k_g, k_h]; try rfl))))
            exact rfl
          refine wpAnyM_of_any _ _ _ _ (by decide) ?_
          refine wpAny_list [14, 15, 16, 17] (fuel := 0) (by kernel_rfl) ?_
          simp only [List.filterMap_cons, List.filterMap_nil, k_i, k_j, k_k]
          clear hl hl2
          go_step
          go_step
          refine sx_rowSet (i := x) (v := (strF f ρ (x - 1))) HX rfl rfl rfl rfl (by kernel_rfl) rfl (by omega) ?_
          clear HX
          intro w HX
          simp only [Act.put, k_a, k_b, k_c] at HX ⊢
          go_step
          go_step
          refine sx_rowSet (i := (x - 1)) (v := (strF f ρ x)) HX rfl rfl rfl rfl (by kernel_rfl) rfl (by omega) ?_
          clear HX
          intro w HX
          simp only [Act.put, k_a, k_b, k_c] at HX ⊢
          have h3 := HX.out
          have hms := movD_succ σ (m := m) (k := x - 1) (by omega)
          rw [show x - 1 + 1 = x by omega, HR.out] at hms
          rw [show (((cellsF n (strF f ρ)).set x (strF f ρ (x - 1))).set (x - 1) (strF f ρ x)) = _ from strF_swap n f ρ x (x - 1), hms] at h3
          have HX := Lib.hid h3
          clear h3
          go_wp2_with fail
          go_roundg (x - 1 - i)
          case rel => exact ⟨x - 1, by omega, by go_num, by omega, HX.out⟩
          case measure => omega
    case pos =>
      have q0 : decide (i < j) = true := decide_eq_true hlt
      obtain ⟨hn1, hn2, hn3⟩ := i64_idx (x := ((i : Int) + (j : Int)) / 2) (k := (i + j) / 2) (n := n) (by omega) (by omega) hn
      have hn4 : (m < n) = True := eq_true (by omega)
      go_wp2_with fail
      refine wp_region_M (fun W => Sep w0 W (ThRow 1 (.slice (some ⟨g, off, none⟩) n c) (cellsF n (strF f σ)) :: R) rows) 12 (by kernel_rfl) ?_
      have KEEPX : ∀ W, Sep w0 W (ThRow 1 (.slice (some ⟨g, off, none⟩) n c) (cellsF n (strF f σ)) :: R) rows → Sep w0 W (ThRow 1 (.slice (some ⟨g, off, none⟩) n c) (cellsF n (strF f σ)) :: R) rows := fun _ h => h
      have hl : ∀ W, Sep w0 W (ThRow 1 (.slice (some ⟨g, off, none⟩) n c) (cellsF n (strF f σ)) :: R) rows → _ := fun W hW => str_load (i := (i + j) / 2) hW (by omega)
      have hl2 : ∀ W, Sep w0 W (ThRow 1 (.slice (some ⟨g, off, none⟩) n c) (cellsF n (strF f σ)) :: R) rows → _ := fun W hW => str_load (i := m) hW (by omega)
      replace HX := Lib.hid HX.out.drew
      refine wpAnyM_take (by kernel_rfl) (by intro c a d v w h; cases d <;> exact h) [(0, false), (1, false), (2, false), (3, false), (4, true), (5, false), (6, false), (7, false), (8, true)] (fuel := 3) (by kernel_rfl) ?_
      apply Exists.intro; refine ⟨?_, HX.out, ?_⟩
      · iterate 9 (first | refine yEp ?_ | ((first | apply yieldP | apply yieldL); (· (simp only [k_i, k_j, k_k]; try rfl)); (· rfl); (· (intros; go_simp; (try simp only [hn1, hn2, hn3, hn4, ↓reduceIte, and_self, Int.toNat_natCast]); try with_reducible rfl)); (· (simp only [Act.put, k_a, k_b, k_c, k_d, k_e, k_f, k_g, k_h]; try rfl))))
        exact rfl
      clear hl hl2
      refine wpAnyM_one (fuel := 2) (i := 9) (by kernel_rfl) (by (simp only [k_i, k_j, k_k]; try rfl)) (fun K hK => ?_)
      go_wp2_with fail
      refine (HC.out (f (σ m)) (f (σ ((i + j) / 2))) _ _ _ (HF.out _) (HF.out _) HX.out).mono ?_
      rintro e w ⟨r, rfl, hr, hx⟩
      clear HX
      have HX := Lib.hid hx
      clear hx
      go_wp2_with fail
      refine hK _ _ HX.out ?_
      clear hK hn1 hn2 hn3 hn4
      by_cases hr0 : r < 0
      · have q2 : decide (r < 0) = true := decide_eq_true hr0
        have hr := hr.1 hr0
        refine wpAnyM_take (by kernel_rfl) (by intro c a d v w h; cases d <;> exact h) [(10, false), (11, false)] (fuel := 0) (by kernel_rfl) ?_
        apply Exists.intro; refine ⟨?_, HX.out, ?_⟩
        · iterate 2 (first | refine yEp ?_ | ((first | apply yieldP | apply yieldL); (· (simp only [k_i, k_j, k_k]; try rfl)); (· rfl); (· (intros; go_simp; (try simp only [hn1, hn2, hn3, hn4, ↓reduceIte, and_self, Int.toNat_natCast]); try with_reducible rfl)); (· (simp only [Act.put, k_a, k_b, k_c, k_d, k_e, k_f, k_g, k_h]; try rfl))))
          exact rfl
        refine wpAnyM_done (by kernel_rfl) ?_ _
        go_wp2_with fail
        go_roundg ((i + j) / 2 - i)
        case rel => exact ⟨i, (i + j) / 2, by omega, rfl, by go_num, by omega, by omega, HG.out.1, fun x g1 g2 => by
          have := HM.out.left.le (i := (i + j) / 2) (j := x) (by omega) g1 g2
          have this : Ky (f (σ ((i + j) / 2))) ≤ Ky (f (σ x)) := this
          omega, HX.out⟩
        case measure => omega
      · have q2 : decide (r < 0) = false := decide_eq_false hr0
        have hr : ¬ Ky (f (σ m)) < Ky (f (σ ((i + j) / 2))) := fun hh => hr0 (hr.2 hh)
        refine wpAnyM_take (by kernel_rfl) (by intro c a d v w h; cases d <;> exact h) [(10, false), (11, false)] (fuel := 0) (by kernel_rfl) ?_
        apply Exists.intro; refine ⟨?_, HX.out, ?_⟩
        · iterate 2 (first | refine yEp ?_ | ((first | apply yieldP | apply yieldL); (· (simp only [k_i, k_j, k_k]; try rfl)); (· rfl); (· (intros; go_simp; (try simp only [hn1, hn2, hn3, hn4, ↓reduceIte, and_self, Int.toNat_natCast]); try with_reducible rfl)); (· (simp only [Act.put, k_a, k_b, k_c, k_d, k_e, k_f, k_g, k_h]; try rfl))))
          exact rfl
        refine wpAnyM_done (by kernel_rfl) ?_ _
        go_wp2_with fail
        go_roundg (j - ((i + j) / 2 + 1))
        case rel => exact ⟨(i + j) / 2 + 1, j, by omega, by go_num, rfl, by omega, by omega, fun x g1 g2 => by
          have := HM.out.left.le (i := x) (j := (i + j) / 2) g1 (by omega) (by omega)
          have this : Ky (f (σ x)) ≤ Ky (f (σ ((i + j) / 2))) := this
          omega, HG.out.2, HX.out⟩
        case measure => omega
end
end Go.Proofs.YtbakgoncfggidaaGreatDoor

namespace Go.Proofs.YtbakgoncfggidaaGreatDoor
open Go.RowKit Go.Av
section
variable {w0 : World} {R : List Thing} {rows : List (Value × Bs)} {g off n c : Nat} {f : Nat → Bs} {Ky : Bs → Int} {ok : Bs → Prop}
set_option maxRecDepth 100000 in
set_option maxHeartbeats 16000000 in
theorem sym_more (hc : LessC w0 Ky ok) (hf : ∀ i, ok (f i)) (hn : n ≤ 100000) (L : Nat) (hi : SymC w0 g off n c f Ky R rows L) (w : World) (σ : Nat → Nat) (a m b : Nat) (hL : b - a ≤ L + 1) (hbn : b ≤ n) (ha1 : a + 1 < m) (hb1 : m + 1 < b) (hm : MergIn (fun i => Ky (f i)) σ a m b)
    (h : Sep w0 w (ThRow 1 (.slice (some ⟨g, off, none⟩) n c) (cellsF n (strF f σ)) :: R) rows) :
    Calls Tryz.prog 231 #[.slice (some ⟨g, off, none⟩) n c, .int .i64 (a : Int), .int .i64 (m : Int), .int .i64 (b : Int), lessV] w (SortPost w0 g off n c f R rows fun τ => MergOut (fun i => Ky (f i)) σ τ a b) := by
  have HC := Lib.hid hc
  have HF := Lib.hid hf
  have HI := Lib.hid hi
  have HX := Lib.hid h
  have HM := Lib.hid hm
  clear h hc hf hm hi
  have q1 : (((m : Int) - (a : Int)) == 1) = false := by rw [beq_eq_false_iff_ne]; omega
  have q1' : (((b : Int) - (m : Int)) == 1) = false := by rw [beq_eq_false_iff_ne]; omega
  obtain ⟨mid, hmid⟩ : ∃ mid, mid = (a + b) / 2 := ⟨_, rfl⟩
  have HMID := Lib.hid hmid
  have em : ((a : Int) + (b : Int)) / 2 = (mid : Int) := by omega
  have hmidn : a < mid ∧ mid < b := by omega
  go_enter Tryz.func231, Tryz.ntmps231
  clear hmid
  by_cases hmm : mid < m
  · have q2 : decide (((a : Int) + (b : Int)) / 2 < (m : Int)) = true := decide_eq_true (by omega)
    have q2' : decide (mid < m) = true := decide_eq_true hmm
    go_wp2_with fail
    go_loopg [20, 21] (mid - (mid + m - b)) (fun k v v' wr => ∃ (s r : Nat), s + k = r ∧ v = .int .i64 (s : Int) ∧ v' = .int .i64 (r : Int) ∧ mid + m ≤ s + b ∧ r ≤ mid ∧ (∀ x, mid + m ≤ x + b → x < s → Ky (f (σ x)) ≤ Ky (f (σ (mid + m - 1 - x)))) ∧
      (∀ x, r ≤ x → x < mid → Ky (f (σ (mid + m - 1 - x))) < Ky (f (σ x))) ∧ Sep w0 wr (ThRow 1 (.slice (some ⟨g, off, none⟩) n c) (cellsF n (strF f σ)) :: R) rows)
    case atStart => exact ⟨mid + m - b, mid, by omega, by go_num, by go_num, by omega, by omega, fun x g1 g2 => by omega, fun x g1 g2 => by omega, HX.out⟩
    case round =>
      rename World => w
      obtain ⟨s, r, hsr, rfl, rfl, hs1, hr1, h3, h4, hS⟩ := hrel
      clear HX
      have HX := Lib.hid hS
      have HG := Lib.hid (show _ ∧ _ from ⟨h3, h4⟩)
      clear hS h3 h4
      by_cases hlt : s < r
      case neg =>
        obtain rfl : s = r := by omega
        have q0 : decide (s < s) = false := decide_eq_false (by omega)
        have HCU := Lib.hid (cut_ok (s0 := mid + m - b) (r0 := mid) HM.out HMID.out (fun _ => ⟨by omega, rfl⟩) (fun hh => absurd hmm hh) (by omega) (by omega) (fun x g1 g2 => HG.out.1 x (by omega) g2) HG.out.2 (by omega) : CutOk _ σ a m b mid s _)
        obtain ⟨e, he⟩ : ∃ e, mid + m - s = e := ⟨_, rfl⟩
        rw [he] at HCU
        have ee : (mid : Int) + (m : Int) - (s : Int) = (e : Int) := by omega
        have hse : s + e = mid + m := by omega
        clear hsr
        go_upto_region 39 with fail
        by_cases g5 : s < m
        · by_cases g6 : m < e
          · have q15 : decide (s < m) = true := decide_eq_true g5
            have q16 : decide (m < e) = true := decide_eq_true g6
            have hc0 := rotate_any HX.out s m e lessV g5 g6 (by have := HCU.out.eb; omega) hn
            go_wp2_with fail
            refine hc0.mono ?_
            rintro e1 w ⟨rfl, hx⟩
            clear HX hc0
            have HX := Lib.hid hx
            clear hx
            by_cases g1 : a < s
            · by_cases g2 : s < mid
              · have q11 : decide (a < s) = true := decide_eq_true g1
                have q12 : decide (s < mid) = true := decide_eq_true g2
                have hc1 := HI.out w _ a s mid (by omega) (by omega) (HCU.out.in1 HM.out g1 g2) HX.out
                go_wp2_with fail
                refine hc1.mono ?_
                rintro e1 w ⟨τ2, rfl, ho2, hx⟩
                clear HX hc1
                have HX := Lib.hid hx
                clear hx
                have HT2 := Lib.hid (show PermF a mid (rotF σ s m e) τ2 ∧ (a < s ∧ s < mid → MergOut _ (rotF σ s m e) τ2 a mid) ∧ (¬ (a < s ∧ s < mid) → τ2 = rotF σ s m e) from ⟨ho2.1, fun _ => ho2, fun hh => absurd ⟨g1, g2⟩ hh⟩)
                clear ho2
                by_cases g3 : mid < e
                · by_cases g4 : e < b
                  · have q13 : decide (mid < e) = true := decide_eq_true g3
                    have q14 : decide (e < b) = true := decide_eq_true g4
                    have hc2 := HI.out w τ2 mid e b (by omega) (by omega) (HCU.out.in2 HM.out HT2.out.1 g3 g4) HX.out
                    go_wp2_with fail
                    refine hc2.mono ?_
                    rintro e1 w ⟨τ3, rfl, ho3, hx⟩
                    clear HX hc2
                    have HX := Lib.hid hx
                    clear hx
                    go_wp2_with fail
                    go_end0
                    exact ⟨τ3, rfl, CutOk.done (σ2 := τ2) HM.out HCU.out HT2.out.2.1 HT2.out.2.2 (fun _ => ho3) (fun hh => absurd ⟨g3, g4⟩ hh), HX.out⟩
                  · have q13 : decide (mid < e) = true := decide_eq_true g3
                    have q14 : decide (e < b) = false := decide_eq_false g4
                    go_wp2_with fail
                    go_end0
                    exact ⟨τ2, rfl, CutOk.done (σ2 := τ2) HM.out HCU.out HT2.out.2.1 HT2.out.2.2 (fun hh => absurd hh.2 g4) (fun _ => rfl), HX.out⟩
                · have q13 : decide (mid < e) = false := decide_eq_false g3
                  go_wp2_with fail
                  go_end0
                  exact ⟨τ2, rfl, CutOk.done (σ2 := τ2) HM.out HCU.out HT2.out.2.1 HT2.out.2.2 (fun hh => absurd hh.1 g3) (fun _ => rfl), HX.out⟩
              · have q11 : decide (a < s) = true := decide_eq_true g1
                have q12 : decide (s < mid) = false := decide_eq_false g2
                obtain ⟨τ2, hτ2⟩ : ∃ τ2, rotF σ s m e = τ2 := ⟨_, rfl⟩
                have HT2 : Hid (PermF a mid (rotF σ s m e) τ2 ∧ (a < s ∧ s < mid → MergOut (fun i => Ky (f i)) (rotF σ s m e) τ2 a mid) ∧ (¬ (a < s ∧ s < mid) → τ2 = rotF σ s m e)) := by rw [← hτ2]; exact ⟨.refl _ _ _, fun hh => absurd hh.2 g2, fun _ => rfl⟩
                have HX : Hid (Sep w0 w (ThRow 1 (.slice (some ⟨g, off, none⟩) n c) (cellsF n (strF f τ2)) :: R) rows) := by rw [← hτ2]; exact HX
                clear hτ2
                by_cases g3 : mid < e
                · by_cases g4 : e < b
                  · have q13 : decide (mid < e) = true := decide_eq_true g3
                    have q14 : decide (e < b) = true := decide_eq_true g4
                    have hc2 := HI.out w τ2 mid e b (by omega) (by omega) (HCU.out.in2 HM.out HT2.out.1 g3 g4) HX.out
                    go_wp2_with fail
                    refine hc2.mono ?_
                    rintro e1 w ⟨τ3, rfl, ho3, hx⟩
                    clear HX hc2
                    have HX := Lib.hid hx
                    clear hx
                    go_wp2_with fail
                    go_end0
                    exact ⟨τ3, rfl, CutOk.done (σ2 := τ2) HM.out HCU.out HT2.out.2.1 HT2.out.2.2 (fun _ => ho3) (fun hh => absurd ⟨g3, g4⟩ hh), HX.out⟩
                  · have q13 : decide (mid < e) = true := decide_eq_true g3
                    have q14 : decide (e < b) = false := decide_eq_false g4
                    go_wp2_with fail
                    go_end0
                    exact ⟨τ2, rfl, CutOk.done (σ2 := τ2) HM.out HCU.out HT2.out.2.1 HT2.out.2.2 (fun hh => absurd hh.2 g4) (fun _ => rfl), HX.out⟩
                · have q13 : decide (mid < e) = false := decide_eq_false g3
                  go_wp2_with fail
                  go_end0
                  exact ⟨τ2, rfl, CutOk.done (σ2 := τ2) HM.out HCU.out HT2.out.2.1 HT2.out.2.2 (fun hh => absurd hh.1 g3) (fun _ => rfl), HX.out⟩
            · have q11 : decide (a < s) = false := decide_eq_false g1
              obtain ⟨τ2, hτ2⟩ : ∃ τ2, rotF σ s m e = τ2 := ⟨_, rfl⟩
              have HT2 : Hid (PermF a mid (rotF σ s m e) τ2 ∧ (a < s ∧ s < mid → MergOut (fun i => Ky (f i)) (rotF σ s m e) τ2 a mid) ∧ (¬ (a < s ∧ s < mid) → τ2 = rotF σ s m e)) := by rw [← hτ2]; exact ⟨.refl _ _ _, fun hh => absurd hh.1 g1, fun _ => rfl⟩
              have HX : Hid (Sep w0 w (ThRow 1 (.slice (some ⟨g, off, none⟩) n c) (cellsF n (strF f τ2)) :: R) rows) := by rw [← hτ2]; exact HX
              clear hτ2
              by_cases g3 : mid < e
              · by_cases g4 : e < b
                · have q13 : decide (mid < e) = true := decide_eq_true g3
                  have q14 : decide (e < b) = true := decide_eq_true g4
                  have hc2 := HI.out w τ2 mid e b (by omega) (by omega) (HCU.out.in2 HM.out HT2.out.1 g3 g4) HX.out
                  go_wp2_with fail
                  refine hc2.mono ?_
                  rintro e1 w ⟨τ3, rfl, ho3, hx⟩
                  clear HX hc2
                  have HX := Lib.hid hx
                  clear hx
                  go_wp2_with fail
                  go_end0
                  exact ⟨τ3, rfl, CutOk.done (σ2 := τ2) HM.out HCU.out HT2.out.2.1 HT2.out.2.2 (fun _ => ho3) (fun hh => absurd ⟨g3, g4⟩ hh), HX.out⟩
                · have q13 : decide (mid < e) = true := decide_eq_true g3
                  have q14 : decide (e < b) = false := decide_eq_false g4
                  go_wp2_with fail
                  go_end0
                  exact ⟨τ2, rfl, CutOk.done (σ2 := τ2) HM.out HCU.out HT2.out.2.1 HT2.out.2.2 (fun hh => absurd hh.2 g4) (fun _ => rfl), HX.out⟩
              · have q13 : decide (mid < e) = false := decide_eq_false g3
                go_wp2_with fail
                go_end0
                exact ⟨τ2, rfl, CutOk.done (σ2 := τ2) HM.out HCU.out HT2.out.2.1 HT2.out.2.2 (fun hh => absurd hh.1 g3) (fun _ => rfl), HX.out⟩
          · have q15 : decide (s < m) = true := decide_eq_true g5
            have q16 : decide (m < e) = false := decide_eq_false g6
            have HX : Hid (Sep w0 w (ThRow 1 (.slice (some ⟨g, off, none⟩) n c) (cellsF n (strF f (rotF σ s m e))) :: R) rows) := by
              rw [show m = e by have := HCU.out.me; omega, rotF_none2]; exact HX
            by_cases g1 : a < s
            · by_cases g2 : s < mid
              · have q11 : decide (a < s) = true := decide_eq_true g1
                have q12 : decide (s < mid) = true := decide_eq_true g2
                have hc1 := HI.out w _ a s mid (by omega) (by omega) (HCU.out.in1 HM.out g1 g2) HX.out
                go_wp2_with fail
                refine hc1.mono ?_
                rintro e1 w ⟨τ2, rfl, ho2, hx⟩
                clear HX hc1
                have HX := Lib.hid hx
                clear hx
                have HT2 := Lib.hid (show PermF a mid (rotF σ s m e) τ2 ∧ (a < s ∧ s < mid → MergOut _ (rotF σ s m e) τ2 a mid) ∧ (¬ (a < s ∧ s < mid) → τ2 = rotF σ s m e) from ⟨ho2.1, fun _ => ho2, fun hh => absurd ⟨g1, g2⟩ hh⟩)
                clear ho2
                by_cases g3 : mid < e
                · by_cases g4 : e < b
                  · have q13 : decide (mid < e) = true := decide_eq_true g3
                    have q14 : decide (e < b) = true := decide_eq_true g4
                    have hc2 := HI.out w τ2 mid e b (by omega) (by omega) (HCU.out.in2 HM.out HT2.out.1 g3 g4) HX.out
                    go_wp2_with fail
                    refine hc2.mono ?_
                    rintro e1 w ⟨τ3, rfl, ho3, hx⟩
                    clear HX hc2
                    have HX := Lib.hid hx
                    clear hx
                    go_wp2_with fail
                    go_end0
                    exact ⟨τ3, rfl, CutOk.done (σ2 := τ2) HM.out HCU.out HT2.out.2.1 HT2.out.2.2 (fun _ => ho3) (fun hh => absurd ⟨g3, g4⟩ hh), HX.out⟩
                  · have q13 : decide (mid < e) = true := decide_eq_true g3
                    have q14 : decide (e < b) = false := decide_eq_false g4
                    go_wp2_with fail
                    go_end0
                    exact ⟨τ2, rfl, CutOk.done (σ2 := τ2) HM.out HCU.out HT2.out.2.1 HT2.out.2.2 (fun hh => absurd hh.2 g4) (fun _ => rfl), HX.out⟩
                · have q13 : decide (mid < e) = false := decide_eq_false g3
                  go_wp2_with fail
                  go_end0
                  exact ⟨τ2, rfl, CutOk.done (σ2 := τ2) HM.out HCU.out HT2.out.2.1 HT2.out.2.2 (fun hh => absurd hh.1 g3) (fun _ => rfl), HX.out⟩
              · have q11 : decide (a < s) = true := decide_eq_true g1
                have q12 : decide (s < mid) = false := decide_eq_false g2
                obtain ⟨τ2, hτ2⟩ : ∃ τ2, rotF σ s m e = τ2 := ⟨_, rfl⟩
                have HT2 : Hid (PermF a mid (rotF σ s m e) τ2 ∧ (a < s ∧ s < mid → MergOut (fun i => Ky (f i)) (rotF σ s m e) τ2 a mid) ∧ (¬ (a < s ∧ s < mid) → τ2 = rotF σ s m e)) := by rw [← hτ2]; exact ⟨.refl _ _ _, fun hh => absurd hh.2 g2, fun _ => rfl⟩
                have HX : Hid (Sep w0 w (ThRow 1 (.slice (some ⟨g, off, none⟩) n c) (cellsF n (strF f τ2)) :: R) rows) := by rw [← hτ2]; exact HX
                clear hτ2
                by_cases g3 : mid < e
                · by_cases g4 : e < b
                  · have q13 : decide (mid < e) = true := decide_eq_true g3
                    have q14 : decide (e < b) = true := decide_eq_true g4
                    have hc2 := HI.out w τ2 mid e b (by omega) (by omega) (HCU.out.in2 HM.out HT2.out.1 g3 g4) HX.out
                    go_wp2_with fail
                    refine hc2.mono ?_
                    rintro e1 w ⟨τ3, rfl, ho3, hx⟩
                    clear HX hc2
                    have HX := Lib.hid hx
                    clear hx
                    go_wp2_with fail
                    go_end0
                    exact ⟨τ3, rfl, CutOk.done (σ2 := τ2) HM.out HCU.out HT2.out.2.1 HT2.out.2.2 (fun _ => ho3) (fun hh => absurd ⟨g3, g4⟩ hh), HX.out⟩
                  · have q13 : decide (mid < e) = true := decide_eq_true g3
                    have q14 : decide (e < b) = false := decide_eq_false g4
                    go_wp2_with fail
                    go_end0
                    exact ⟨τ2, rfl, CutOk.done (σ2 := τ2) HM.out HCU.out HT2.out.2.1 HT2.out.2.2 (fun hh => absurd hh.2 g4) (fun _ => rfl), HX.out⟩
                · have q13 : decide (mid < e) = false := decide_eq_false g3
                  go_wp2_with fail
                  go_end0
                  exact ⟨τ2, rfl, CutOk.done (σ2 := τ2) HM.out HCU.out HT2.out.2.1 HT2.out.2.2 (fun hh => absurd hh.1 g3) (fun _ => rfl), HX.out⟩
            · have q11 : decide (a < s) = false := decide_eq_false g1
              obtain ⟨τ2, hτ2⟩ : ∃ τ2, rotF σ s m e = τ2 := ⟨_, rfl⟩
              have HT2 : Hid (PermF a mid (rotF σ s m e) τ2 ∧ (a < s ∧ s < mid → MergOut (fun i => Ky (f i)) (rotF σ s m e) τ2 a mid) ∧ (¬ (a < s ∧ s < mid) → τ2 = rotF σ s m e)) := by rw [← hτ2]; exact ⟨.refl _ _ _, fun hh => absurd hh.1 g1, fun _ => rfl⟩
              have HX : Hid (Sep w0 w (ThRow 1 (.slice (some ⟨g, off, none⟩) n c) (cellsF n (strF f τ2)) :: R) rows) := by rw [← hτ2]; exact HX
              clear hτ2
              by_cases g3 : mid < e
              · by_cases g4 : e < b
                · have q13 : decide (mid < e) = true := decide_eq_true g3
                  have q14 : decide (e < b) = true := decide_eq_true g4
                  have hc2 := HI.out w τ2 mid e b (by omega) (by omega) (HCU.out.in2 HM.out HT2.out.1 g3 g4) HX.out
                  go_wp2_with fail
                  refine hc2.mono ?_
                  rintro e1 w ⟨τ3, rfl, ho3, hx⟩
                  clear HX hc2
                  have HX := Lib.hid hx
                  clear hx
                  go_wp2_with fail
                  go_end0
                  exact ⟨τ3, rfl, CutOk.done (σ2 := τ2) HM.out HCU.out HT2.out.2.1 HT2.out.2.2 (fun _ => ho3) (fun hh => absurd ⟨g3, g4⟩ hh), HX.out⟩
                · have q13 : decide (mid < e) = true := decide_eq_true g3
                  have q14 : decide (e < b) = false := decide_eq_false g4
                  go_wp2_with fail
                  go_end0
                  exact ⟨τ2, rfl, CutOk.done (σ2 := τ2) HM.out HCU.out HT2.out.2.1 HT2.out.2.2 (fun hh => absurd hh.2 g4) (fun _ => rfl), HX.out⟩
              · have q13 : decide (mid < e) = false := decide_eq_false g3
                go_wp2_with fail
                go_end0
                exact ⟨τ2, rfl, CutOk.done (σ2 := τ2) HM.out HCU.out HT2.out.2.1 HT2.out.2.2 (fun hh => absurd hh.1 g3) (fun _ => rfl), HX.out⟩
        · have q15 : decide (s < m) = false := decide_eq_false g5
          have HX : Hid (Sep w0 w (ThRow 1 (.slice (some ⟨g, off, none⟩) n c) (cellsF n (strF f (rotF σ s m e))) :: R) rows) := by
            rw [show s = m by have := HCU.out.sm; omega, rotF_none1 σ HCU.out.me]; exact HX
          by_cases g1 : a < s
          · by_cases g2 : s < mid
            · have q11 : decide (a < s) = true := decide_eq_true g1
              have q12 : decide (s < mid) = true := decide_eq_true g2
              have hc1 := HI.out w _ a s mid (by omega) (by omega) (HCU.out.in1 HM.out g1 g2) HX.out
              go_wp2_with fail
              refine hc1.mono ?_
              rintro e1 w ⟨τ2, rfl, ho2, hx⟩
              clear HX hc1
              have HX := Lib.hid hx
              clear hx
              have HT2 := Lib.hid (show PermF a mid (rotF σ s m e) τ2 ∧ (a < s ∧ s < mid → MergOut _ (rotF σ s m e) τ2 a mid) ∧ (¬ (a < s ∧ s < mid) → τ2 = rotF σ s m e) from ⟨ho2.1, fun _ => ho2, fun hh => absurd ⟨g1, g2⟩ hh⟩)
              clear ho2
              by_cases g3 : mid < e
              · by_cases g4 : e < b
                · have q13 : decide (mid < e) = true := decide_eq_true g3
                  have q14 : decide (e < b) = true := decide_eq_true g4
                  have hc2 := HI.out w τ2 mid e b (by omega) (by omega) (HCU.out.in2 HM.out HT2.out.1 g3 g4) HX.out
                  go_wp2_with fail
                  refine hc2.mono ?_
                  rintro e1 w ⟨τ3, rfl, ho3, hx⟩
                  clear HX hc2
                  have HX := Lib.hid hx
                  clear hx
                  go_wp2_with fail
                  go_end0
                  exact ⟨τ3, rfl, CutOk.done (σ2 := τ2) HM.out HCU.out HT2.out.2.1 HT2.out.2.2 (fun _ => ho3) (fun hh => absurd ⟨g3, g4⟩ hh), HX.out⟩
                · have q13 : decide (mid < e) = true := decide_eq_true g3
                  have q14 : decide (e < b) = false := decide_eq_false g4
                  go_wp2_with fail
                  go_end0
                  exact ⟨τ2, rfl, CutOk.done (σ2 := τ2) HM.out HCU.out HT2.out.2.1 HT2.out.2.2 (fun hh => absurd hh.2 g4) (fun _ => rfl), HX.out⟩
              · have q13 : decide (mid < e) = false := decide_eq_false g3
                go_wp2_with fail
                go_end0
                exact ⟨τ2, rfl, CutOk.done (σ2 := τ2) HM.out HCU.out HT2.out.2.1 HT2.out.2.2 (fun hh => absurd hh.1 g3) (fun _ => rfl), HX.out⟩
            · have q11 : decide (a < s) = true := decide_eq_true g1
              have q12 : decide (s < mid) = false := decide_eq_false g2
              obtain ⟨τ2, hτ2⟩ : ∃ τ2, rotF σ s m e = τ2 := ⟨_, rfl⟩
              have HT2 : Hid (PermF a mid (rotF σ s m e) τ2 ∧ (a < s ∧ s < mid → MergOut (fun i => Ky (f i)) (rotF σ s m e) τ2 a mid) ∧ (¬ (a < s ∧ s < mid) → τ2 = rotF σ s m e)) := by rw [← hτ2]; exact ⟨.refl _ _ _, fun hh => absurd hh.2 g2, fun _ => rfl⟩
              have HX : Hid (Sep w0 w (ThRow 1 (.slice (some ⟨g, off, none⟩) n c) (cellsF n (strF f τ2)) :: R) rows) := by rw [← hτ2]; exact HX
              clear hτ2
              by_cases g3 : mid < e
              · by_cases g4 : e < b
                · have q13 : decide (mid < e) = true := decide_eq_true g3
                  have q14 : decide (e < b) = true := decide_eq_true g4
                  have hc2 := HI.out w τ2 mid e b (by omega) (by omega) (HCU.out.in2 HM.out HT2.out.1 g3 g4) HX.out
                  go_wp2_with fail
                  refine hc2.mono ?_
                  rintro e1 w ⟨τ3, rfl, ho3, hx⟩
                  clear HX hc2
                  have HX := Lib.hid hx
                  clear hx
                  go_wp2_with fail
                  go_end0
                  exact ⟨τ3, rfl, CutOk.done (σ2 := τ2) HM.out HCU.out HT2.out.2.1 HT2.out.2.2 (fun _ => ho3) (fun hh => absurd ⟨g3, g4⟩ hh), HX.out⟩
                · have q13 : decide (mid < e) = true := decide_eq_true g3
                  have q14 : decide (e < b) = false := decide_eq_false g4
                  go_wp2_with fail
                  go_end0
                  exact ⟨τ2, rfl, CutOk.done (σ2 := τ2) HM.out HCU.out HT2.out.2.1 HT2.out.2.2 (fun hh => absurd hh.2 g4) (fun _ => rfl), HX.out⟩
              · have q13 : decide (mid < e) = false := decide_eq_false g3
                go_wp2_with fail
                go_end0
                exact ⟨τ2, rfl, CutOk.done (σ2 := τ2) HM.out HCU.out HT2.out.2.1 HT2.out.2.2 (fun hh => absurd hh.1 g3) (fun _ => rfl), HX.out⟩
          · have q11 : decide (a < s) = false := decide_eq_false g1
            obtain ⟨τ2, hτ2⟩ : ∃ τ2, rotF σ s m e = τ2 := ⟨_, rfl⟩
            have HT2 : Hid (PermF a mid (rotF σ s m e) τ2 ∧ (a < s ∧ s < mid → MergOut (fun i => Ky (f i)) (rotF σ s m e) τ2 a mid) ∧ (¬ (a < s ∧ s < mid) → τ2 = rotF σ s m e)) := by rw [← hτ2]; exact ⟨.refl _ _ _, fun hh => absurd hh.1 g1, fun _ => rfl⟩
            have HX : Hid (Sep w0 w (ThRow 1 (.slice (some ⟨g, off, none⟩) n c) (cellsF n (strF f τ2)) :: R) rows) := by rw [← hτ2]; exact HX
            clear hτ2
            by_cases g3 : mid < e
            · by_cases g4 : e < b
              · have q13 : decide (mid < e) = true := decide_eq_true g3
                have q14 : decide (e < b) = true := decide_eq_true g4
                have hc2 := HI.out w τ2 mid e b (by omega) (by omega) (HCU.out.in2 HM.out HT2.out.1 g3 g4) HX.out
                go_wp2_with fail
                refine hc2.mono ?_
                rintro e1 w ⟨τ3, rfl, ho3, hx⟩
                clear HX hc2
                have HX := Lib.hid hx
                clear hx
                go_wp2_with fail
                go_end0
                exact ⟨τ3, rfl, CutOk.done (σ2 := τ2) HM.out HCU.out HT2.out.2.1 HT2.out.2.2 (fun _ => ho3) (fun hh => absurd ⟨g3, g4⟩ hh), HX.out⟩
              · have q13 : decide (mid < e) = true := decide_eq_true g3
                have q14 : decide (e < b) = false := decide_eq_false g4
                go_wp2_with fail
                go_end0
                exact ⟨τ2, rfl, CutOk.done (σ2 := τ2) HM.out HCU.out HT2.out.2.1 HT2.out.2.2 (fun hh => absurd hh.2 g4) (fun _ => rfl), HX.out⟩
            · have q13 : decide (mid < e) = false := decide_eq_false g3
              go_wp2_with fail
              go_end0
              exact ⟨τ2, rfl, CutOk.done (σ2 := τ2) HM.out HCU.out HT2.out.2.1 HT2.out.2.2 (fun hh => absurd hh.1 g3) (fun _ => rfl), HX.out⟩
      case pos =>
        have q0 : decide (s < r) = true := decide_eq_true hlt
        obtain ⟨hn1, hn2, hn3⟩ := i64_idx (x := (mid : Int) + (m : Int) - 1 - ((s : Int) + (r : Int)) / 2) (k := mid + m - 1 - (s + r) / 2) (n := n) (by omega) (by omega) hn
        obtain ⟨hn4, hn5, hn6⟩ := i64_idx (x := ((s : Int) + (r : Int)) / 2) (k := (s + r) / 2) (n := n) (by omega) (by omega) hn
        have hn7 : (((s : Int) + (r : Int)) / 2 ≤ (mid : Int) + (m : Int) - 1 ∧ (mid : Int) + (m : Int) - 1 - ((s : Int) + (r : Int)) / 2 < (n : Int)) = True := eq_true (by omega)
        go_wp2_with fail
        refine wp_region_M (fun W => Sep w0 W (ThRow 1 (.slice (some ⟨g, off, none⟩) n c) (cellsF n (strF f σ)) :: R) rows) 14 (by kernel_rfl) ?_
        have KEEPX : ∀ W, Sep w0 W (ThRow 1 (.slice (some ⟨g, off, none⟩) n c) (cellsF n (strF f σ)) :: R) rows → Sep w0 W (ThRow 1 (.slice (some ⟨g, off, none⟩) n c) (cellsF n (strF f σ)) :: R) rows := fun _ h => h
        have hl : ∀ W, Sep w0 W (ThRow 1 (.slice (some ⟨g, off, none⟩) n c) (cellsF n (strF f σ)) :: R) rows → _ := fun W hW => str_load (i := mid + m - 1 - (s + r) / 2) hW (by omega)
        have hl2 : ∀ W, Sep w0 W (ThRow 1 (.slice (some ⟨g, off, none⟩) n c) (cellsF n (strF f σ)) :: R) rows → _ := fun W hW => str_load (i := (s + r) / 2) hW (by omega)
        replace HX := Lib.hid HX.out.drew
        refine wpAnyM_take (by kernel_rfl) (by intro c a d v w h; cases d <;> exact h) [(0, false), (1, false), (2, false), (3, false), (4, false), (5, false), (6, true), (7, false), (8, false), (9, false), (10, true)] (fuel := 3) (by kernel_rfl) ?_
        apply Exists.intro; refine ⟨?_, HX.out, ?_⟩
        · iterate 11 (first | refine yEp ?_ | ((first | apply yieldP | apply yieldL); (· (simp only [k_i, k_j, k_k]; try rfl)); (· rfl); (· (intros; go_simp; (try simp only [hn1, hn2, hn3, hn4, hn5, hn6, hn7, ↓reduceIte, and_self, Int.toNat_natCast]); try with_reducible rfl)); (· (simp only [Act.put, k_a, k_b, k_c, k_d, k_e, k_f, k_g, k_h]; try rfl))))
          exact rfl
        clear hl hl2
        refine wpAnyM_one (fuel := 2) (i := 11) (by kernel_rfl) (by (simp only [k_i, k_j, k_k]; try rfl)) (fun K hK => ?_)
        go_wp2_with fail
        refine (HC.out (f (σ (mid + m - 1 - (s + r) / 2))) (f (σ ((s + r) / 2))) _ _ _ (HF.out _) (HF.out _) HX.out).mono ?_
        rintro e w ⟨z, rfl, hr, hx⟩
        clear HX
        have HX := Lib.hid hx
        clear hx
        go_wp2_with fail
        refine hK _ _ HX.out ?_
        clear hK hn1 hn2 hn3 hn4 hn5 hn6 hn7
        by_cases hr0 : z < 0
        · have q2 : decide (z < 0) = true := decide_eq_true hr0
          have hr := hr.1 hr0
          refine wpAnyM_take (by kernel_rfl) (by intro c a d v w h; cases d <;> exact h) [(12, false), (13, false)] (fuel := 0) (by kernel_rfl) ?_
          apply Exists.intro; refine ⟨?_, HX.out, ?_⟩
          · iterate 2 (first | refine yEp ?_ | ((first | apply yieldP | apply yieldL); (· (simp only [k_i, k_j, k_k]; try rfl)); (· rfl); (· (intros; go_simp; (try simp only [hn1, hn2, hn3, hn4, hn5, hn6, hn7, ↓reduceIte, and_self, Int.toNat_natCast]); try with_reducible rfl)); (· (simp only [Act.put, k_a, k_b, k_c, k_d, k_e, k_f, k_g, k_h]; try rfl))))
            exact rfl
          refine wpAnyM_done (by kernel_rfl) ?_ _
          go_wp2_with fail
          go_roundg ((s + r) / 2 - s)
          case rel => exact ⟨s, (s + r) / 2, by omega, rfl, by go_num, by omega, by omega, HG.out.1, fun x g1 g2 => by
            have k1 := HM.out.left.le (i := (s + r) / 2) (j := x) (by omega) g1 (by omega)
            have k2 := HM.out.right.le (i := mid + m - 1 - x) (j := mid + m - 1 - (s + r) / 2) (by omega) (by omega) (by omega)
            have k1 : Ky (f (σ ((s + r) / 2))) ≤ Ky (f (σ x)) := k1
            have k2 : Ky (f (σ (mid + m - 1 - x))) ≤ Ky (f (σ (mid + m - 1 - (s + r) / 2))) := k2
            omega, HX.out⟩
          case measure => omega
        · have q2 : decide (z < 0) = false := decide_eq_false hr0
          have hr : ¬ Ky (f (σ (mid + m - 1 - (s + r) / 2))) < Ky (f (σ ((s + r) / 2))) := fun hh => hr0 (hr.2 hh)
          refine wpAnyM_take (by kernel_rfl) (by intro c a d v w h; cases d <;> exact h) [(12, false), (13, false)] (fuel := 0) (by kernel_rfl) ?_
          apply Exists.intro; refine ⟨?_, HX.out, ?_⟩
          · iterate 2 (first | refine yEp ?_ | ((first | apply yieldP | apply yieldL); (· (simp only [k_i, k_j, k_k]; try rfl)); (· rfl); (· (intros; go_simp; (try simp only [hn1, hn2, hn3, hn4, hn5, hn6, hn7, ↓reduceIte, and_self, Int.toNat_natCast]); try with_reducible rfl)); (· (simp only [Act.put, k_a, k_b, k_c, k_d, k_e, k_f, k_g, k_h]; try rfl))))
            exact rfl
          refine wpAnyM_done (by kernel_rfl) ?_ _
          go_wp2_with fail
          go_roundg (r - ((s + r) / 2 + 1))
          case rel => exact ⟨(s + r) / 2 + 1, r, by omega, by go_num, rfl, by omega, by omega, fun x g1 g2 => by
            have k1 := HM.out.left.le (i := x) (j := (s + r) / 2) (by omega) (by omega) (by omega)
            have k2 := HM.out.right.le (i := mid + m - 1 - (s + r) / 2) (j := mid + m - 1 - x) (by omega) (by omega) (by omega)
            have k1 : Ky (f (σ x)) ≤ Ky (f (σ ((s + r) / 2))) := k1
            have k2 : Ky (f (σ (mid + m - 1 - (s + r) / 2))) ≤ Ky (f (σ (mid + m - 1 - x))) := k2
            omega, HG.out.2, HX.out⟩
          case measure => omega
  · have q2 : decide (((a : Int) + (b : Int)) / 2 < (m : Int)) = false := decide_eq_false (by omega)
    have q2' : decide (mid < m) = false := decide_eq_false hmm
    go_wp2_with fail
    go_loopg [20, 21] (m - a) (fun k v v' wr => ∃ (s r : Nat), s + k = r ∧ v = .int .i64 (s : Int) ∧ v' = .int .i64 (r : Int) ∧ a ≤ s ∧ r ≤ m ∧ (∀ x, a ≤ x → x < s → Ky (f (σ x)) ≤ Ky (f (σ (mid + m - 1 - x)))) ∧
      (∀ x, r ≤ x → x < m → Ky (f (σ (mid + m - 1 - x))) < Ky (f (σ x))) ∧ Sep w0 wr (ThRow 1 (.slice (some ⟨g, off, none⟩) n c) (cellsF n (strF f σ)) :: R) rows)
    case atStart => exact ⟨a, m, by omega, by go_num, by go_num, by omega, by omega, fun x g1 g2 => by omega, fun x g1 g2 => by omega, HX.out⟩
    case round =>
      rename World => w
      obtain ⟨s, r, hsr, rfl, rfl, hs1, hr1, h3, h4, hS⟩ := hrel
      clear HX
      have HX := Lib.hid hS
      have HG := Lib.hid (show _ ∧ _ from ⟨h3, h4⟩)
      clear hS h3 h4
      by_cases hlt : s < r
      case neg =>
        obtain rfl : s = r := by omega
        have q0 : decide (s < s) = false := decide_eq_false (by omega)
        have HCU := Lib.hid (cut_ok (s0 := a) (r0 := m) HM.out HMID.out (fun hh => absurd hh hmm) (fun _ => ⟨rfl, rfl⟩) (by omega) (by omega) (fun x g1 g2 => HG.out.1 x g1 g2) HG.out.2 (by omega) : CutOk _ σ a m b mid s _)
        obtain ⟨e, he⟩ : ∃ e, mid + m - s = e := ⟨_, rfl⟩
        rw [he] at HCU
        have ee : (mid : Int) + (m : Int) - (s : Int) = (e : Int) := by omega
        have hse : s + e = mid + m := by omega
        clear hsr
        go_upto_region 39 with fail
        by_cases g5 : s < m
        · by_cases g6 : m < e
          · have q15 : decide (s < m) = true := decide_eq_true g5
            have q16 : decide (m < e) = true := decide_eq_true g6
            have hc0 := rotate_any HX.out s m e lessV g5 g6 (by have := HCU.out.eb; omega) hn
            go_wp2_with fail
            refine hc0.mono ?_
            rintro e1 w ⟨rfl, hx⟩
            clear HX hc0
            have HX := Lib.hid hx
            clear hx
            by_cases g1 : a < s
            · by_cases g2 : s < mid
              · have q11 : decide (a < s) = true := decide_eq_true g1
                have q12 : decide (s < mid) = true := decide_eq_true g2
                have hc1 := HI.out w _ a s mid (by omega) (by omega) (HCU.out.in1 HM.out g1 g2) HX.out
                go_wp2_with fail
                refine hc1.mono ?_
                rintro e1 w ⟨τ2, rfl, ho2, hx⟩
                clear HX hc1
                have HX := Lib.hid hx
                clear hx
                have HT2 := Lib.hid (show PermF a mid (rotF σ s m e) τ2 ∧ (a < s ∧ s < mid → MergOut _ (rotF σ s m e) τ2 a mid) ∧ (¬ (a < s ∧ s < mid) → τ2 = rotF σ s m e) from ⟨ho2.1, fun _ => ho2, fun hh => absurd ⟨g1, g2⟩ hh⟩)
                clear ho2
                by_cases g3 : mid < e
                · by_cases g4 : e < b
                  · have q13 : decide (mid < e) = true := decide_eq_true g3
                    have q14 : decide (e < b) = true := decide_eq_true g4
                    have hc2 := HI.out w τ2 mid e b (by omega) (by omega) (HCU.out.in2 HM.out HT2.out.1 g3 g4) HX.out
                    go_wp2_with fail
                    refine hc2.mono ?_
                    rintro e1 w ⟨τ3, rfl, ho3, hx⟩
                    clear HX hc2
                    have HX := Lib.hid hx
                    clear hx
                    go_wp2_with fail
                    go_end0
                    exact ⟨τ3, rfl, CutOk.done (σ2 := τ2) HM.out HCU.out HT2.out.2.1 HT2.out.2.2 (fun _ => ho3) (fun hh => absurd ⟨g3, g4⟩ hh), HX.out⟩
                  · have q13 : decide (mid < e) = true := decide_eq_true g3
                    have q14 : decide (e < b) = false := decide_eq_false g4
                    go_wp2_with fail
                    go_end0
                    exact ⟨τ2, rfl, CutOk.done (σ2 := τ2) HM.out HCU.out HT2.out.2.1 HT2.out.2.2 (fun hh => absurd hh.2 g4) (fun _ => rfl), HX.out⟩
                · have q13 : decide (mid < e) = false := decide_eq_false g3
                  go_wp2_with fail
                  go_end0
                  exact ⟨τ2, rfl, CutOk.done (σ2 := τ2) HM.out HCU.out HT2.out.2.1 HT2.out.2.2 (fun hh => absurd hh.1 g3) (fun _ => rfl), HX.out⟩
              · have q11 : decide (a < s) = true := decide_eq_true g1
                have q12 : decide (s < mid) = false := decide_eq_false g2
                obtain ⟨τ2, hτ2⟩ : ∃ τ2, rotF σ s m e = τ2 := ⟨_, rfl⟩
                have HT2 : Hid (PermF a mid (rotF σ s m e) τ2 ∧ (a < s ∧ s < mid → MergOut (fun i => Ky (f i)) (rotF σ s m e) τ2 a mid) ∧ (¬ (a < s ∧ s < mid) → τ2 = rotF σ s m e)) := by rw [← hτ2]; exact ⟨.refl _ _ _, fun hh => absurd hh.2 g2, fun _ => rfl⟩
                have HX : Hid (Sep w0 w (ThRow 1 (.slice (some ⟨g, off, none⟩) n c) (cellsF n (strF f τ2)) :: R) rows) := by rw [← hτ2]; exact HX
                clear hτ2
                by_cases g3 : mid < e
                · by_cases g4 : e < b
                  · have q13 : decide (mid < e) = true := decide_eq_true g3
                    have q14 : decide (e < b) = true := decide_eq_true g4
                    have hc2 := HI.out w τ2 mid e b (by omega) (by omega) (HCU.out.in2 HM.out HT2.out.1 g3 g4) HX.out
                    go_wp2_with fail
                    refine hc2.mono ?_
                    rintro e1 w ⟨τ3, rfl, ho3, hx⟩
                    clear HX hc2
                    have HX := Lib.hid hx
                    clear hx
                    go_wp2_with fail
                    go_end0
                    exact ⟨τ3, rfl, CutOk.done (σ2 := τ2) HM.out HCU.out HT2.out.2.1 HT2.out.2.2 (fun _ => ho3) (fun hh => absurd ⟨g3, g4⟩ hh), HX.out⟩
                  · have q13 : decide (mid < e) = true := decide_eq_true g3
                    have q14 : decide (e < b) = false := decide_eq_false g4
                    go_wp2_with fail
                    go_end0
                    exact ⟨τ2, rfl, CutOk.done (σ2 := τ2) HM.out HCU.out HT2.out.2.1 HT2.out.2.2 (fun hh => absurd hh.2 g4) (fun _ => rfl), HX.out⟩
                · have q13 : decide (mid < e) = false := decide_eq_false g3
                  go_wp2_with fail
                  go_end0
                  exact ⟨τ2, rfl, CutOk.done (σ2 := τ2) HM.out HCU.out HT2.out.2.1 HT2.out.2.2 (fun hh => absurd hh.1 g3) (fun _ => rfl), HX.out⟩
            · have q11 : decide (a < s) = false := decide_eq_false g1
              obtain ⟨τ2, hτ2⟩ : ∃ τ2, rotF σ s m e = τ2 := ⟨_, rfl⟩
              have HT2 : Hid (PermF a mid (rotF σ s m e) τ2 ∧ (a < s ∧ s < mid → MergOut (fun i => Ky (f i)) (rotF σ s m e) τ2 a mid) ∧ (¬ (a < s ∧ s < mid) → τ2 = rotF σ s m e)) := by rw [← hτ2]; exact ⟨.refl _ _ _, fun hh => absurd hh.1 g1, fun _ => rfl⟩
              have HX : Hid (Sep w0 w (ThRow 1 (.slice (some ⟨g, off, none⟩) n c) (cellsF n (strF f τ2)) :: R) rows) := by rw [← hτ2]; exact HX
              clear hτ2
              by_cases g3 : mid < e
              · by_cases g4 : e < b
                · have q13 : decide (mid < e) = true := decide_eq_true g3
                  have q14 : decide (e < b) = true := decide_eq_true g4
                  have hc2 := HI.out w τ2 mid e b (by omega) (by omega) (HCU.out.in2 HM.out HT2.out.1 g3 g4) HX.out
                  go_wp2_with fail
                  refine hc2.mono ?_
                  rintro e1 w ⟨τ3, rfl, ho3, hx⟩
                  clear HX hc2
                  have HX := Lib.hid hx
                  clear hx
                  go_wp2_with fail
                  go_end0
                  exact ⟨τ3, rfl, CutOk.done (σ2 := τ2) HM.out HCU.out HT2.out.2.1 HT2.out.2.2 (fun _ => ho3) (fun hh => absurd ⟨g3, g4⟩ hh), HX.out⟩
                · have q13 : decide (mid < e) = true := decide_eq_true g3
                  have q14 : decide (e < b) = false := decide_eq_false g4
                  go_wp2_with fail
                  go_end0
                  exact ⟨τ2, rfl, CutOk.done (σ2 := τ2) HM.out HCU.out HT2.out.2.1 HT2.out.2.2 (fun hh => absurd hh.2 g4) (fun _ => rfl), HX.out⟩
              · have q13 : decide (mid < e) = false := decide_eq_false g3
                go_wp2_with fail
                go_end0
                exact ⟨τ2, rfl, CutOk.done (σ2 := τ2) HM.out HCU.out HT2.out.2.1 HT2.out.2.2 (fun hh => absurd hh.1 g3) (fun _ => rfl), HX.out⟩
          · have q15 : decide (s < m) = true := decide_eq_true g5
            have q16 : decide (m < e) = false := decide_eq_false g6
            have HX : Hid (Sep w0 w (ThRow 1 (.slice (some ⟨g, off, none⟩) n c) (cellsF n (strF f (rotF σ s m e))) :: R) rows) := by
              rw [show m = e by have := HCU.out.me; omega, rotF_none2]; exact HX
            by_cases g1 : a < s
            · by_cases g2 : s < mid
              · have q11 : decide (a < s) = true := decide_eq_true g1
                have q12 : decide (s < mid) = true := decide_eq_true g2
                have hc1 := HI.out w _ a s mid (by omega) (by omega) (HCU.out.in1 HM.out g1 g2) HX.out
                go_wp2_with fail
                refine hc1.mono ?_
                rintro e1 w ⟨τ2, rfl, ho2, hx⟩
                clear HX hc1
                have HX := Lib.hid hx
                clear hx
                have HT2 := Lib.hid (show PermF a mid (rotF σ s m e) τ2 ∧ (a < s ∧ s < mid → MergOut _ (rotF σ s m e) τ2 a mid) ∧ (¬ (a < s ∧ s < mid) → τ2 = rotF σ s m e) from ⟨ho2.1, fun _ => ho2, fun hh => absurd ⟨g1, g2⟩ hh⟩)
                clear ho2
                by_cases g3 : mid < e
                · by_cases g4 : e < b
                  · have q13 : decide (mid < e) = true := decide_eq_true g3
                    have q14 : decide (e < b) = true := decide_eq_true g4
                    have hc2 := HI.out w τ2 mid e b (by omega) (by omega) (HCU.out.in2 HM.out HT2.out.1 g3 g4) HX.out
                    go_wp2_with fail
                    refine hc2.mono ?_
                    rintro e1 w ⟨τ3, rfl, ho3, hx⟩
                    clear HX hc2
                    have HX := Lib.hid hx
                    clear hx
                    go_wp2_with fail
                    go_end0
                    exact ⟨τ3, rfl, CutOk.done (σ2 := τ2) HM.out HCU.out HT2.out.2.1 HT2.out.2.2 (fun _ => ho3) (fun hh => absurd ⟨g3, g4⟩ hh), HX.out⟩
                  · have q13 : decide (mid < e) = true := decide_eq_true g3
                    have q14 : decide (e < b) = false := decide_eq_false g4
                    go_wp2_with fail
                    go_end0
                    exact ⟨τ2, rfl, CutOk.done (σ2 := τ2) HM.out HCU.out HT2.out.2.1 HT2.out.2.2 (fun hh => absurd hh.2 g4) (fun _ => rfl), HX.out⟩
                · have q13 : decide (mid < e) = false := decide_eq_false g3
                  go_wp2_with fail
                  go_end0
                  exact ⟨τ2, rfl, CutOk.done (σ2 := τ2) HM.out HCU.out HT2.out.2.1 HT2.out.2.2 (fun hh => absurd hh.1 g3) (fun _ => rfl), HX.out⟩
              · have q11 : decide (a < s) = true := decide_eq_true g1
                have q12 : decide (s < mid) = false := decide_eq_false g2
                obtain ⟨τ2, hτ2⟩ : ∃ τ2, rotF σ s m e = τ2 := ⟨_, rfl⟩
                have HT2 : Hid (PermF a mid (rotF σ s m e) τ2 ∧ (a < s ∧ s < mid → MergOut (fun i => Ky (f i)) (rotF σ s m e) τ2 a mid) ∧ (¬ (a < s ∧ s < mid) → τ2 = rotF σ s m e)) := by rw [← hτ2]; exact ⟨.refl _ _ _, fun hh => absurd hh.2 g2, fun _ => rfl⟩
                have HX : Hid (Sep w0 w (ThRow 1 (.slice (some ⟨g, off, none⟩) n c) (cellsF n (strF f τ2)) :: R) rows) := by rw [← hτ2]; exact HX
                clear hτ2
                by_cases g3 : mid < e
                · by_cases g4 : e < b
                  · have q13 : decide (mid < e) = true := decide_eq_true g3
                    have q14 : decide (e < b) = true := decide_eq_true g4
                    have hc2 := HI.out w τ2 mid e b (by omega) (by omega) (HCU.out.in2 HM.out HT2.out.1 g3 g4) HX.out
                    go_wp2_with fail
                    refine hc2.mono ?_
                    rintro e1 w ⟨τ3, rfl, ho3, hx⟩
                    clear HX hc2
                    have HX := Lib.hid hx
                    clear hx
                    go_wp2_with fail
                    go_end0
                    exact ⟨τ3, rfl, CutOk.done (σ2 := τ2) HM.out HCU.out HT2.out.2.1 HT2.out.2.2 (fun _ => ho3) (fun hh => absurd ⟨g3, g4⟩ hh), HX.out⟩
                  · have q13 : decide (mid < e) = true := decide_eq_true g3
                    have q14 : decide (e < b) = false := decide_eq_false g4
                    go_wp2_with fail
                    go_end0
                    exact ⟨τ2, rfl, CutOk.done (σ2 := τ2) HM.out HCU.out HT2.out.2.1 HT2.out.2.2 (fun hh => absurd hh.2 g4) (fun _ => rfl), HX.out⟩
                · have q13 : decide (mid < e) = false := decide_eq_false g3
                  go_wp2_with fail
                  go_end0
                  exact ⟨τ2, rfl, CutOk.done (σ2 := τ2) HM.out HCU.out HT2.out.2.1 HT2.out.2.2 (fun hh => absurd hh.1 g3) (fun _ => rfl), HX.out⟩
            · have q11 : decide (a < s) = false := decide_eq_false g1
              obtain ⟨τ2, hτ2⟩ : ∃ τ2, rotF σ s m e = τ2 := ⟨_, rfl⟩
              have HT2 : Hid (PermF a mid (rotF σ s m e) τ2 ∧ (a < s ∧ s < mid → MergOut (fun i => Ky (f i)) (rotF σ s m e) τ2 a mid) ∧ (¬ (a < s ∧ s < mid) → τ2 = rotF σ s m e)) := by rw [← hτ2]; exact ⟨.refl _ _ _, fun hh => absurd hh.1 g1, fun _ => rfl⟩
              have HX : Hid (Sep w0 w (ThRow 1 (.slice (some ⟨g, off, none⟩) n c) (cellsF n (strF f τ2)) :: R) rows) := by rw [← hτ2]; exact HX
              clear hτ2
              by_cases g3 : mid < e
              · by_cases g4 : e < b
                · have q13 : decide (mid < e) = true := decide_eq_true g3
                  have q14 : decide (e < b) = true := decide_eq_true g4
                  have hc2 := HI.out w τ2 mid e b (by omega) (by omega) (HCU.out.in2 HM.out HT2.out.1 g3 g4) HX.out
                  go_wp2_with fail
                  refine hc2.mono ?_
                  rintro e1 w ⟨τ3, rfl, ho3, hx⟩
                  clear HX hc2
                  have HX := Lib.hid hx
                  clear hx
                  go_wp2_with fail
                  go_end0
                  exact ⟨τ3, rfl, CutOk.done (σ2 := τ2) HM.out HCU.out HT2.out.2.1 HT2.out.2.2 (fun _ => ho3) (fun hh => absurd ⟨g3, g4⟩ hh), HX.out⟩
                · have q13 : decide (mid < e) = true := decide_eq_true g3
                  have q14 : decide (e < b) = false := decide_eq_false g4
                  go_wp2_with fail
                  go_end0
                  exact ⟨τ2, rfl, CutOk.done (σ2 := τ2) HM.out HCU.out HT2.out.2.1 HT2.out.2.2 (fun hh => absurd hh.2 g4) (fun _ => rfl), HX.out⟩
              · have q13 : decide (mid < e) = false := decide_eq_false g3
                go_wp2_with fail
                go_end0
                exact ⟨τ2, rfl, CutOk.done (σ2 := τ2) HM.out HCU.out HT2.out.2.1 HT2.out.2.2 (fun hh => absurd hh.1 g3) (fun _ => rfl), HX.out⟩
        · have q15 : decide (s < m) = false := decide_eq_false g5
          have HX : Hid (Sep w0 w (ThRow 1 (.slice (some ⟨g, off, none⟩) n c) (cellsF n (strF f (rotF σ s m e))) :: R) rows) := by
            rw [show s = m by have := HCU.out.sm; omega, rotF_none1 σ HCU.out.me]; exact HX
          by_cases g1 : a < s
          · by_cases g2 : s < mid
            · have q11 : decide (a < s) = true := decide_eq_true g1
              have q12 : decide (s < mid) = true := decide_eq_true g2
              have hc1 := HI.out w _ a s mid (by omega) (by omega) (HCU.out.in1 HM.out g1 g2) HX.out
              go_wp2_with fail
              refine hc1.mono ?_
              rintro e1 w ⟨τ2, rfl, ho2, hx⟩
              clear HX hc1
              have HX := Lib.hid hx
              clear hx
              have HT2 := Lib.hid (show PermF a mid (rotF σ s m e) τ2 ∧ (a < s ∧ s < mid → MergOut _ (rotF σ s m e) τ2 a mid) ∧ (¬ (a < s ∧ s < mid) → τ2 = rotF σ s m e) from ⟨ho2.1, fun _ => ho2, fun hh => absurd ⟨g1, g2⟩ hh⟩)
              clear ho2
              by_cases g3 : mid < e
              · by_cases g4 : e < b
                · have q13 : decide (mid < e) = true := decide_eq_true g3
                  have q14 : decide (e < b) = true := decide_eq_true g4
                  have hc2 := HI.out w τ2 mid e b (by omega) (by omega) (HCU.out.in2 HM.out HT2.out.1 g3 g4) HX.out
                  go_wp2_with fail
                  refine hc2.mono ?_
                  rintro e1 w ⟨τ3, rfl, ho3, hx⟩
                  clear HX hc2
                  have HX := Lib.hid hx
                  clear hx
                  go_wp2_with fail
                  go_end0
                  exact ⟨τ3, rfl, CutOk.done (σ2 := τ2) HM.out HCU.out HT2.out.2.1 HT2.out.2.2 (fun _ => ho3) (fun hh => absurd ⟨g3, g4⟩ hh), HX.out⟩
                · have q13 : decide (mid < e) = true := decide_eq_true g3
                  have q14 : decide (e < b) = false := decide_eq_false g4
                  go_wp2_with fail
                  go_end0
                  exact ⟨τ2, rfl, CutOk.done (σ2 := τ2) HM.out HCU.out HT2.out.2.1 HT2.out.2.2 (fun hh => absurd hh.2 g4) (fun _ => rfl), HX.out⟩
              · have q13 : decide (mid < e) = false := decide_eq_false g3
                go_wp2_with fail
                go_end0
                exact ⟨τ2, rfl, CutOk.done (σ2 := τ2) HM.out HCU.out HT2.out.2.1 HT2.out.2.2 (fun hh => absurd hh.1 g3) (fun _ => rfl), HX.out⟩
            · have q11 : decide (a < s) = true := decide_eq_true g1
              have q12 : decide (s < mid) = false := decide_eq_false g2
              obtain ⟨τ2, hτ2⟩ : ∃ τ2, rotF σ s m e = τ2 := ⟨_, rfl⟩
              have HT2 : Hid (PermF a mid (rotF σ s m e) τ2 ∧ (a < s ∧ s < mid → MergOut (fun i => Ky (f i)) (rotF σ s m e) τ2 a mid) ∧ (¬ (a < s ∧ s < mid) → τ2 = rotF σ s m e)) := by rw [← hτ2]; exact ⟨.refl _ _ _, fun hh => absurd hh.2 g2, fun _ => rfl⟩
              have HX : Hid (Sep w0 w (ThRow 1 (.slice (some ⟨g, off, none⟩) n c) (cellsF n (strF f τ2)) :: R) rows) := by rw [← hτ2]; exact HX
              clear hτ2
              by_cases g3 : mid < e
              · by_cases g4 : e < b
                · have q13 : decide (mid < e) = true := decide_eq_true g3
                  have q14 : decide (e < b) = true := decide_eq_true g4
                  have hc2 := HI.out w τ2 mid e b (by omega) (by omega) (HCU.out.in2 HM.out HT2.out.1 g3 g4) HX.out
                  go_wp2_with fail
                  refine hc2.mono ?_
                  rintro e1 w ⟨τ3, rfl, ho3, hx⟩
                  clear HX hc2
                  have HX := Lib.hid hx
                  clear hx
                  go_wp2_with fail
                  go_end0
                  exact ⟨τ3, rfl, CutOk.done (σ2 := τ2) HM.out HCU.out HT2.out.2.1 HT2.out.2.2 (fun _ => ho3) (fun hh => absurd ⟨g3, g4⟩ hh), HX.out⟩
                · have q13 : decide (mid < e) = true := decide_eq_true g3
                  have q14 : decide (e < b) = false := decide_eq_false g4
                  go_wp2_with fail
                  go_end0
                  exact ⟨τ2, rfl, CutOk.done (σ2 := τ2) HM.out HCU.out HT2.out.2.1 HT2.out.2.2 (fun hh => absurd hh.2 g4) (fun _ => rfl), HX.out⟩
              · have q13 : decide (mid < e) = false := decide_eq_false g3
                go_wp2_with fail
                go_end0
                exact ⟨τ2, rfl, CutOk.done (σ2 := τ2) HM.out HCU.out HT2.out.2.1 HT2.out.2.2 (fun hh => absurd hh.1 g3) (fun _ => rfl), HX.out⟩
          · have q11 : decide (a < s) = false := decide_eq_false g1
            obtain ⟨τ2, hτ2⟩ : ∃ τ2, rotF σ s m e = τ2 := ⟨_, rfl⟩
            have HT2 : Hid (PermF a mid (rotF σ s m e) τ2 ∧ (a < s ∧ s < mid → MergOut (fun i => Ky (f i)) (rotF σ s m e) τ2 a mid) ∧ (¬ (a < s ∧ s < mid) → τ2 = rotF σ s m e)) := by rw [← hτ2]; exact ⟨.refl _ _ _, fun hh => absurd hh.1 g1, fun _ => rfl⟩
            have HX : Hid (Sep w0 w (ThRow 1 (.slice (some ⟨g, off, none⟩) n c) (cellsF n (strF f τ2)) :: R) rows) := by rw [← hτ2]; exact HX
            clear hτ2
            by_cases g3 : mid < e
            · by_cases g4 : e < b
              · have q13 : decide (mid < e) = true := decide_eq_true g3
                have q14 : decide (e < b) = true := decide_eq_true g4
                have hc2 := HI.out w τ2 mid e b (by omega) (by omega) (HCU.out.in2 HM.out HT2.out.1 g3 g4) HX.out
                go_wp2_with fail
                refine hc2.mono ?_
                rintro e1 w ⟨τ3, rfl, ho3, hx⟩
                clear HX hc2
                have HX := Lib.hid hx
                clear hx
                go_wp2_with fail
                go_end0
                exact ⟨τ3, rfl, CutOk.done (σ2 := τ2) HM.out HCU.out HT2.out.2.1 HT2.out.2.2 (fun _ => ho3) (fun hh => absurd ⟨g3, g4⟩ hh), HX.out⟩
              · have q13 : decide (mid < e) = true := decide_eq_true g3
                have q14 : decide (e < b) = false := decide_eq_false g4
                go_wp2_with fail
                go_end0
                exact ⟨τ2, rfl, CutOk.done (σ2 := τ2) HM.out HCU.out HT2.out.2.1 HT2.out.2.2 (fun hh => absurd hh.2 g4) (fun _ => rfl), HX.out⟩
            · have q13 : decide (mid < e) = false := decide_eq_false g3
              go_wp2_with fail
              go_end0
              exact ⟨τ2, rfl, CutOk.done (σ2 := τ2) HM.out HCU.out HT2.out.2.1 HT2.out.2.2 (fun hh => absurd hh.1 g3) (fun _ => rfl), HX.out⟩
      case pos =>
        have q0 : decide (s < r) = true := decide_eq_true hlt
        obtain ⟨hn1, hn2, hn3⟩ := i64_idx (x := (mid : Int) + (m : Int) - 1 - ((s : Int) + (r : Int)) / 2) (k := mid + m - 1 - (s + r) / 2) (n := n) (by omega) (by omega) hn
        obtain ⟨hn4, hn5, hn6⟩ := i64_idx (x := ((s : Int) + (r : Int)) / 2) (k := (s + r) / 2) (n := n) (by omega) (by omega) hn
        have hn7 : (((s : Int) + (r : Int)) / 2 ≤ (mid : Int) + (m : Int) - 1 ∧ (mid : Int) + (m : Int) - 1 - ((s : Int) + (r : Int)) / 2 < (n : Int)) = True := eq_true (by omega)
        go_wp2_with fail
        refine wp_region_M (fun W => Sep w0 W (ThRow 1 (.slice (some ⟨g, off, none⟩) n c) (cellsF n (strF f σ)) :: R) rows) 14 (by kernel_rfl) ?_
        have KEEPX : ∀ W, Sep w0 W (ThRow 1 (.slice (some ⟨g, off, none⟩) n c) (cellsF n (strF f σ)) :: R) rows → Sep w0 W (ThRow 1 (.slice (some ⟨g, off, none⟩) n c) (cellsF n (strF f σ)) :: R) rows := fun _ h => h
        have hl : ∀ W, Sep w0 W (ThRow 1 (.slice (some ⟨g, off, none⟩) n c) (cellsF n (strF f σ)) :: R) rows → _ := fun W hW => str_load (i := mid + m - 1 - (s + r) / 2) hW (by omega)
        have hl2 : ∀ W, Sep w0 W (ThRow 1 (.slice (some ⟨g, off, none⟩) n c) (cellsF n (strF f σ)) :: R) rows → _ := fun W hW => str_load (i := (s + r) / 2) hW (by omega)
        replace HX := Lib.hid HX.out.drew
        refine wpAnyM_take (by kernel_rfl) (by intro c a d v w h; cases d <;> exact h) [(0, false), (1, false), (2, false), (3, false), (4, false), (5, false), (6, true), (7, false), (8, false), (9, false), (10, true)] (fuel := 3) (by kernel_rfl) ?_
        apply Exists.intro; refine ⟨?_, HX.out, ?_⟩
        · iterate 11 (first | refine yEp ?_ | ((first | apply yieldP | apply yieldL); (· (simp only [k_i, k_j, k_k]; try rfl)); (· rfl); (· (intros; go_simp; (try simp only [hn1, hn2, hn3, hn4, hn5, hn6, hn7, ↓reduceIte, and_self, Int.toNat_natCast]); try with_reducible rfl)); (· (simp only [Act.put, k_a, k_b, k_c, k_d, k_e, k_f, k_g, k_h]; try rfl))))
          exact rfl
        clear hl hl2
        refine wpAnyM_one (fuel := 2) (i := 11) (by kernel_rfl) (by (simp only [k_i, k_j, k_k]; try rfl)) (fun K hK => ?_)
        go_wp2_with fail
        refine (HC.out (f (σ (mid + m - 1 - (s + r) / 2))) (f (σ ((s + r) / 2))) _ _ _ (HF.out _) (HF.out _) HX.out).mono ?_
        rintro e w ⟨z, rfl, hr, hx⟩
        clear HX
        have HX := Lib.hid hx
        clear hx
        go_wp2_with fail
        refine hK _ _ HX.out ?_
        clear hK hn1 hn2 hn3 hn4 hn5 hn6 hn7
        by_cases hr0 : z < 0
        · have q2 : decide (z < 0) = true := decide_eq_true hr0
          have hr := hr.1 hr0
          refine wpAnyM_take (by kernel_rfl) (by intro c a d v w h; cases d <;> exact h) [(12, false), (13, false)] (fuel := 0) (by kernel_rfl) ?_
          apply Exists.intro; refine ⟨?_, HX.out, ?_⟩
          · iterate 2 (first | refine yEp ?_ | ((first | apply yieldP | apply yieldL); (· (simp only [k_i, k_j, k_k]; try rfl)); (· rfl); (· (intros; go_simp; (try simp only [hn1, hn2, hn3, hn4, hn5, hn6, hn7, ↓reduceIte, and_self, Int.toNat_natCast]); try with_reducible rfl)); (· (simp only [Act.put, k_a, k_b, k_c, k_d, k_e, k_f, k_g, k_h]; try rfl))))
            exact rfl
          refine wpAnyM_done (by kernel_rfl) ?_ _
          go_wp2_with fail
          go_roundg ((s + r) / 2 - s)
          case rel => exact ⟨s, (s + r) / 2, by omega, rfl, by go_num, by omega, by omega, HG.out.1, fun x g1 g2 => by
            have k1 := HM.out.left.le (i := (s + r) / 2) (j := x) (by omega) g1 (by omega)
            have k2 := HM.out.right.le (i := mid + m - 1 - x) (j := mid + m - 1 - (s + r) / 2) (by omega) (by omega) (by omega)
            have k1 : Ky (f (σ ((s + r) / 2))) ≤ Ky (f (σ x)) := k1
            have k2 : Ky (f (σ (mid + m - 1 - x))) ≤ Ky (f (σ (mid + m - 1 - (s + r) / 2))) := k2
            omega, HX.out⟩
          case measure => omega
        · have q2 : decide (z < 0) = false := decide_eq_false hr0
          have hr : ¬ Ky (f (σ (mid + m - 1 - (s + r) / 2))) < Ky (f (σ ((s + r) / 2))) := fun hh => hr0 (hr.2 hh)
          refine wpAnyM_take (by kernel_rfl) (by intro c a d v w h; cases d <;> exact h) [(12, false), (13, false)] (fuel := 0) (by kernel_rfl) ?_
          apply Exists.intro; refine ⟨?_, HX.out, ?_⟩
          · iterate 2 (first | refine yEp ?_ | ((first | apply yieldP | apply yieldL); (· (simp only [k_i, k_j, k_k]; try rfl)); (· rfl); (· (intros; go_simp; (try simp only [hn1, hn2, hn3, hn4, hn5, hn6, hn7, ↓reduceIte, and_self, Int.toNat_natCast]); try with_reducible rfl)); (· (simp only [Act.put, k_a, k_b, k_c, k_d, k_e, k_f, k_g, k_h]; try rfl))))
            exact rfl
          refine wpAnyM_done (by kernel_rfl) ?_ _
          go_wp2_with fail
          go_roundg (r - ((s + r) / 2 + 1))
          case rel => exact ⟨(s + r) / 2 + 1, r, by omega, by go_num, rfl, by omega, by omega, fun x g1 g2 => by
            have k1 := HM.out.left.le (i := x) (j := (s + r) / 2) (by omega) (by omega) (by omega)
            have k2 := HM.out.right.le (i := mid + m - 1 - (s + r) / 2) (j := mid + m - 1 - x) (by omega) (by omega) (by omega)
            have k1 : Ky (f (σ x)) ≤ Ky (f (σ ((s + r) / 2))) := k1
            have k2 : Ky (f (σ (mid + m - 1 - (s + r) / 2))) ≤ Ky (f (σ (mid + m - 1 - x))) := k2
            omega, HG.out.2, HX.out⟩
          case measure => omega
theorem sym_any (hc : LessC w0 Ky ok) (hf : ∀ i, ok (f i)) (hn : n ≤ 100000) : ∀ L, SymC w0 g off n c f Ky R rows L
  | 0 => fun w σ a m b hL hb hm h => by
    have := hm.am
    have := hm.mb
    omega
  | L + 1 => fun w σ a m b hL hb hm h => by
    by_cases h1 : m = a + 1
    · subst h1
      exact sym_one1 hc hf hn w σ a b hb hm h
    · by_cases h2 : b = m + 1
      · subst h2
        exact sym_one2 hc hf hn w σ a m hb (by have := hm.am; omega) hm h
      · exact sym_more hc hf hn L (sym_any hc hf hn L) w σ a m b hL hb (by have := hm.am; omega) (by have := hm.mb; omega) hm h
end
end Go.Proofs.YtbakgoncfggidaaGreatDoor

namespace Go.Av
def BlkA (K : Nat → Int) (σ : Nat → Nat) (n bs a : Nat) : Prop := ∀ q, q * bs < a → q * bs < n → InBlk K σ (q * bs) (min (q * bs + bs) n)
def BlkB (K : Nat → Int) (σ : Nat → Nat) (n bs a : Nat) : Prop := ∀ q, a ≤ q * bs → q * bs < n → InBlk K σ (q * bs) (min (q * bs + bs) n)
theorem blk_merge {K : Nat → Int} {σ τ : Nat → Nat} {n bs a b : Nat} (hbs : 0 < bs) {q : Nat} (ha : a = q * (2 * bs)) (hb : b = min (a + 2 * bs) n) (hm : a + bs < n) (hA : BlkA K σ n (2 * bs) a) (hB : BlkB K σ n bs a) (ho : MergOut K σ τ a b) :
    BlkA K τ n (2 * bs) (a + 2 * bs) ∧ BlkB K τ n bs (a + 2 * bs) := by
  have e1 : (2 * q) * bs = a := by rw [ha, Nat.mul_comm 2 q, Nat.mul_assoc]
  have e2 : (2 * q + 1) * bs = a + bs := by rw [Nat.add_mul, e1, Nat.one_mul]
  have b1 := hB (2 * q) (by omega) (by omega)
  have b2 := hB (2 * q + 1) (by omega) (by omega)
  rw [e1] at b1
  rw [e2] at b2
  rw [show min (a + bs) n = a + bs by omega] at b1
  rw [show min (a + bs + bs) n = b by omega] at b2
  refine ⟨fun r h1 h2 => ?_, fun r h1 h2 => ?_⟩
  · rcases Nat.lt_trichotomy r q with h3 | h3 | h3
    · have h4 : (r + 1) * (2 * bs) ≤ q * (2 * bs) := Nat.mul_le_mul_right _ h3
      rw [Nat.add_mul, Nat.one_mul, ← ha] at h4
      exact (hA r (by omega) h2).keep ho.1 (by omega)
    · subst h3
      rw [← ha, ← hb]
      exact b1.join (by omega) (by omega) b2 ho
    · have h4 : (q + 1) * (2 * bs) ≤ r * (2 * bs) := Nat.mul_le_mul_right _ h3
      rw [Nat.add_mul, Nat.one_mul, ← ha] at h4
      omega
  · exact (hB r (by omega) h2).keep ho.1 (by omega)
theorem blk_last {K : Nat → Int} {σ : Nat → Nat} {n bs a : Nat} {q : Nat} (hbs : 0 < bs) (ha : a = q * (2 * bs)) (hm : n ≤ a + bs) (hA : BlkA K σ n (2 * bs) a) (hB : BlkB K σ n bs a) : BlkA K σ n (2 * bs) n := by
  intro r h1 h2
  rcases Nat.lt_trichotomy r q with h3 | h3 | h3
  · have h4 : (r + 1) * (2 * bs) ≤ q * (2 * bs) := Nat.mul_le_mul_right _ h3
    rw [Nat.add_mul, Nat.one_mul, ← ha] at h4
    exact hA r (by omega) h2
  · subst h3
    have e1 : (2 * r) * bs = a := by rw [ha, Nat.mul_comm 2 r, Nat.mul_assoc]
    have b1 := hB (2 * r) (by omega) (by omega)
    rw [e1] at b1
    rw [← ha]
    rw [← ha] at h2
    rw [show min (a + 2 * bs) n = min (a + bs) n by omega]
    exact b1
  · have h4 : (q + 1) * (2 * bs) ≤ r * (2 * bs) := Nat.mul_le_mul_right _ h3
    rw [Nat.add_mul, Nat.one_mul, ← ha] at h4
    omega
theorem BlkA.whole {K : Nat → Int} {σ : Nat → Nat} {n bs : Nat} (h : BlkA K σ n bs n) (hn : n ≤ bs) : InBlk K σ 0 n := by
  by_cases h0 : n = 0
  · subst h0
    exact ⟨fun i j g1 g2 g3 => by omega, fun i g1 g2 => by omega⟩
  · have := h 0 (by omega) (by omega)
    rw [Nat.zero_mul, Nat.zero_add, show min bs n = n by omega] at this
    exact this
end Go.Av
namespace Go.Proofs.YtbakgoncfggidaaGreatDoor
open Go.RowKit Go.Av
section
variable {w0 : World} {R : List Thing} {rows : List (Value × Bs)} {g off n c : Nat} {f : Nat → Bs} {Ky : Bs → Int} {ok : Bs → Prop}
set_option maxRecDepth 100000 in
set_option maxHeartbeats 8000000 in
theorem stable_any (hc : LessC w0 Ky ok) (hf : ∀ i, ok (f i)) (hn : n ≤ 100000) (w : World) (h : Sep w0 w (ThRow 1 (.slice (some ⟨g, off, none⟩) n c) (cellsF n (strF f fun i => i)) :: R) rows) :
    Calls Tryz.prog 194 #[.slice (some ⟨g, off, none⟩) n c, .int .i64 (n : Int), lessV] w (SortPost w0 g off n c f R rows fun τ => PermF 0 n (fun i => i) τ ∧ InBlk (fun i => Ky (f i)) τ 0 n) := by
  have HC := Lib.hid hc
  have HF := Lib.hid hf
  have HX := Lib.hid h
  clear h hc hf
  go_enter Tryz.func194, Tryz.ntmps194
  go_wp2_with fail
  go_loopg [7, 8] n (fun k v v' wr => ∃ (q a : Nat) (σ : Nat → Nat), a = q * 20 ∧ n - a = k ∧ a ≤ n ∧ v = .int .i64 (a : Int) ∧ v' = .int .i64 ((a : Int) + 20) ∧ PermF 0 n (fun i => i) σ ∧ (∀ x, a ≤ x → x < n → σ x = x) ∧ BlkA (fun i => Ky (f i)) σ n 20 a ∧
    Sep w0 wr (ThRow 1 (.slice (some ⟨g, off, none⟩) n c) (cellsF n (strF f σ)) :: R) rows)
  case atStart => exact ⟨0, 0, fun i => i, by omega, by omega, by omega, by go_num, by go_num, .refl _ _ _, fun x _ _ => rfl, fun q g1 g2 => by omega, HX.out⟩
  case round =>
    rename World => w
    obtain ⟨q, a, σ, haq, hk, han, rfl, rfl, hp, hid, hA, hS⟩ := hrel
    clear HX
    have HX := Lib.hid hS
    have HT := Lib.hid (show _ ∧ _ ∧ _ from ⟨hp, hid, hA⟩)
    clear hS hp hid hA
    have HQ := Lib.hid (show _ ∧ _ from ⟨haq, hk⟩)
    clear haq hk
    by_cases hlt : a + 20 ≤ n
    case pos =>
      have q0 : decide ((a : Int) + 20 ≤ (n : Int)) = true := decide_eq_true (by omega)
      have hc2 := insertion_any HC.out HF.out HX.out a (a + 20) (by omega) hlt hn (fun x g1 g2 => HT.out.2.1 x g1 (by omega))
      rw [show ((a + 20 : Nat) : Int) = (a : Int) + 20 by omega] at hc2
      go_wp2_with fail
      refine hc2.mono ?_
      rintro e w ⟨τ, rfl, ⟨hp, hb⟩, hx⟩
      clear HX hc2
      have HX := Lib.hid hx
      have HN := Lib.hid (show _ ∧ _ from ⟨hp, hb⟩)
      clear hx hp hb
      go_wp2_with fail
      go_roundg (n - (a + 20))
      case rel =>
        refine ⟨q + 1, a + 20, τ, by have := HQ.out.1; omega, rfl, hlt, by go_num, by go_num, HT.out.1.trans (HN.out.1.wide (by omega) (by omega)), fun x g1 g2 => ?_, fun r g1 g2 => ?_, HX.out⟩
        · rw [HN.out.1.out x (by omega)]
          exact HT.out.2.1 x (by omega) g2
        · have hq := HQ.out.1
          by_cases hr : r * 20 < a
          · exact (HT.out.2.2 r hr g2).keep HN.out.1 (by omega)
          · have : r = q := by omega
            rw [this, ← hq, show min (a + 20) n = a + 20 by omega]
            exact HN.out.2
      case measure => have := HQ.out.2; omega
    case neg =>
      have q0 : decide ((a : Int) + 20 ≤ (n : Int)) = false := decide_eq_false (by omega)
      have hc2 := insertion_any HC.out HF.out HX.out a n han (Nat.le_refl _) hn (fun x g1 g2 => HT.out.2.1 x g1 g2)
      go_wp2_with fail
      refine hc2.mono ?_
      rintro e w ⟨τ, rfl, ⟨hp, hb⟩, hx⟩
      have hA : BlkA (fun i => Ky (f i)) τ n 20 n := fun r g1 g2 => by
        have hq := HQ.out.1
        by_cases hr : r * 20 < a
        · exact (HT.out.2.2 r hr g2).keep hp (by omega)
        · have hq := HQ.out.1
          have : r = q := by omega
          rw [this, ← hq, show min (a + 20) n = n by omega]
          exact hb
      have hP := HT.out.1.trans (hp.wide (by omega) (Nat.le_refl _))
      clear HX hc2 HT
      have HX := Lib.hid hx
      have HB := Lib.hid (show _ ∧ _ from ⟨hA, hP⟩)
      clear hx hp hb hA hP hlt han q0
      go_wp2_with fail
      go_loopg [6] (n - 20) (fun k v wr => ∃ (bs : Nat) (σ : Nat → Nat), n - bs = k ∧ v = .int .i64 (bs : Int) ∧ 0 < bs ∧ bs ≤ 200000 ∧ PermF 0 n (fun i => i) σ ∧ BlkA (fun i => Ky (f i)) σ n bs n ∧
        Sep w0 wr (ThRow 1 (.slice (some ⟨g, off, none⟩) n c) (cellsF n (strF f σ)) :: R) rows)
      case atStart => exact ⟨20, τ, by omega, by go_num, by omega, by omega, HB.out.2, HB.out.1, HX.out⟩
      case round =>
        rename World => w
        obtain ⟨bs, ρ, hk, rfl, hb0, hb2, hp, hA, hS⟩ := hrel
        clear HX HB
        have HX := Lib.hid hS
        have HB := Lib.hid (show _ ∧ _ ∧ _ from ⟨hp, hA, hk⟩)
        clear hS hp hA hk
        by_cases hbn : bs < n
        case neg =>
          have q1 : decide (bs < n) = false := decide_eq_false hbn
          go_wp2_with fail
          go_end0
          exact ⟨ρ, rfl, ⟨HB.out.1, HB.out.2.1.whole (by omega)⟩, HX.out⟩
        case pos =>
          have q1 : decide (bs < n) = true := decide_eq_true hbn
          go_wp2_with fail
          go_loopg [7, 8] n (fun k v v' wr => ∃ (q a : Nat) (σ : Nat → Nat), a = q * (2 * bs) ∧ n - a = k ∧ a ≤ n ∧ v = .int .i64 (a : Int) ∧ v' = .int .i64 ((a : Int) + 2 * (bs : Int)) ∧ PermF 0 n (fun i => i) σ ∧ BlkA (fun i => Ky (f i)) σ n (2 * bs) a ∧ BlkB (fun i => Ky (f i)) σ n bs a ∧
            Sep w0 wr (ThRow 1 (.slice (some ⟨g, off, none⟩) n c) (cellsF n (strF f σ)) :: R) rows)
          case atStart => exact ⟨0, 0, ρ, by omega, by omega, by omega, by go_num, by go_num, HB.out.1, fun q g1 g2 => by omega, fun q g1 g2 => HB.out.2.1 q g2 g2, HX.out⟩
          case round =>
            rename World => w
            obtain ⟨q, a, σ, haq, hk, han, rfl, rfl, hp, hA, hB, hS⟩ := hrel
            have HZ := Lib.hid HB.out.2.2
            clear HX HB
            have HX := Lib.hid hS
            have HT := Lib.hid (show _ ∧ _ ∧ _ from ⟨hp, hA, hB⟩)
            have HQ := Lib.hid (show _ ∧ _ from ⟨haq, hk⟩)
            have e1 : (2 * q) * bs = a := by rw [haq, Nat.mul_comm 2 q, Nat.mul_assoc]
            have e2 : (2 * q + 1) * bs = a + bs := by rw [Nat.add_mul, e1, Nat.one_mul]
            have hin : a + bs < n → MergIn (fun i => Ky (f i)) σ a (a + bs) (min (a + 2 * bs) n) := fun hh => by
              have b1 := hB (2 * q) (by omega) (by omega)
              have b2 := hB (2 * q + 1) (by omega) (by omega)
              rw [e1] at b1
              rw [e2] at b2
              rw [show min (a + bs) n = a + bs by omega] at b1
              rw [show min (a + bs + bs) n = min (a + 2 * bs) n by omega] at b2
              exact b1.merg b2 (by omega) (by omega)
            clear hS hp hA hB haq hk e1 e2
            by_cases hlt : a + 2 * bs ≤ n
            case pos =>
              have q2 : decide ((a : Int) + 2 * (bs : Int) ≤ (n : Int)) = true := decide_eq_true (by omega)
              have hmi := hin (by omega)
              rw [show min (a + 2 * bs) n = a + 2 * bs by omega] at hmi
              have hc2 := sym_any HC.out HF.out hn (2 * bs) w σ a (a + bs) (a + 2 * bs) (by omega) hlt hmi HX.out
              rw [show ((a + bs : Nat) : Int) = (a : Int) + (bs : Int) by omega, show ((a + 2 * bs : Nat) : Int) = (a : Int) + 2 * (bs : Int) by omega] at hc2
              have HC2 := Lib.hid hc2
              clear hc2 hmi hin
              go_wp2_with fail
              refine HC2.out.mono ?_
              rintro e w ⟨υ, rfl, ho, hx⟩
              have hbm := blk_merge hb0 HQ.out.1 (show a + 2 * bs = min (a + 2 * bs) n by omega) (by omega) HT.out.2.1 HT.out.2.2 ho
              clear HX HC2
              have HX := Lib.hid hx
              have HN := Lib.hid (show _ ∧ _ from ⟨ho, hbm⟩)
              clear hx ho hbm
              go_wp2_with fail
              go_roundg (n - (a + 2 * bs))
              case rel => exact ⟨q + 1, a + 2 * bs, υ, by have := HQ.out.1; rw [Nat.add_mul]; omega, rfl, hlt, by go_num, by go_num, HT.out.1.trans (HN.out.1.1.wide (by omega) (by omega)), HN.out.2.1, HN.out.2.2, HX.out⟩
              case measure => have := HQ.out.2; omega
            case neg =>
              have q2 : decide ((a : Int) + 2 * (bs : Int) ≤ (n : Int)) = false := decide_eq_false (by omega)
              by_cases hm : a + bs < n
              · have q3 : decide ((a : Int) + (bs : Int) < (n : Int)) = true := decide_eq_true (by omega)
                have hmi := hin hm
                rw [show min (a + 2 * bs) n = n by omega] at hmi
                have hc2 := sym_any HC.out HF.out hn (2 * bs) w σ a (a + bs) n (by omega) (Nat.le_refl _) hmi HX.out
                rw [show ((a + bs : Nat) : Int) = (a : Int) + (bs : Int) by omega] at hc2
                have HC2 := Lib.hid hc2
                clear hc2 hmi hin
                go_wp2_with fail
                refine HC2.out.mono ?_
                rintro e w ⟨υ, rfl, ho, hx⟩
                have hbm := blk_merge hb0 HQ.out.1 (show n = min (a + 2 * bs) n by omega) hm HT.out.2.1 HT.out.2.2 ho
                clear HX HC2
                have HX := Lib.hid hx
                have HN := Lib.hid (show _ ∧ _ from ⟨ho, hbm⟩)
                clear hx ho hbm
                go_wp2_with fail
                go_roundg (n - bs * 2)
                case rel => exact ⟨bs * 2, υ, rfl, by go_num, by omega, by omega, HT.out.1.trans (HN.out.1.1.wide (by omega) (by omega)), fun r g1 g2 => by
                  have := HN.out.2.1 r
                  rw [Nat.mul_comm bs 2] at g1 g2 ⊢
                  exact this (by omega) g2, HX.out⟩
                case measure => have := HZ.out; omega
              · have q3 : decide ((a : Int) + (bs : Int) < (n : Int)) = false := decide_eq_false (by omega)
                have hbl := blk_last hb0 HQ.out.1 (by omega) HT.out.2.1 HT.out.2.2
                have HN := Lib.hid hbl
                clear hbl hin
                go_wp2_with fail
                go_roundg (n - bs * 2)
                case rel => exact ⟨bs * 2, σ, rfl, by go_num, by omega, by omega, HT.out.1, by rw [Nat.mul_comm bs 2]; exact HN.out, HX.out⟩
                case measure => have := HZ.out; omega
set_option maxRecDepth 100000 in
theorem sortStable_any (hc : LessC w0 Ky ok) (hf : ∀ i, ok (f i)) (hn : n ≤ 100000) (w : World) (h : Sep w0 w (ThRow 1 (.slice (some ⟨g, off, none⟩) n c) (cellsF n (strF f fun i => i)) :: R) rows) :
    Calls Tryz.prog 155 #[.slice (some ⟨g, off, none⟩) n c, lessV] w (SortPost w0 g off n c f R rows fun τ => PermF 0 n (fun i => i) τ ∧ InBlk (fun i => Ky (f i)) τ 0 n) := by
  have HS := Lib.hid (stable_any hc hf hn w h)
  clear hc hf h
  go_enter Tryz.func155, Tryz.ntmps155
  go_wp2_with fail
  refine HS.out.mono ?_
  rintro e w ⟨τ, rfl, hx⟩
  have HX := Lib.hid hx
  clear hx HS
  go_wp2_with fail
  go_end0
  exact ⟨τ, rfl, HX.out⟩
end
end Go.Proofs.YtbakgoncfggidaaGreatDoor

namespace Go.Av
open Go.RowKit Go.Maps Go.Sort
def noRead : Value → Option (DataW Unit × List MemPlace) := fun _ => some (.nil, [])
theorem rg_str {P : Program} {k : TypeId} (hk : P.underlying k = some .string) (s : ByteArray) (hs : s.size ≤ maxLen) (e : MapEntry) (he : e.key = .string s) : WideElems.rd P k noRead e = some (.string s.data.toList, .nil) := by
  simp [WideElems.rd, he, keyOf, hk, mapKey, hs, noRead]
theorem owns_names {P : Program} {w : World} {k : TypeId} {m : Nat} {l : List (ByteArray × Value)} (h : MapIs w .string m (l.map fun x => (.string x.1, x.2))) (hk : P.underlying k = some .string) (hn : l.length ≤ 1000000) (hs : ∀ x ∈ l, x.1.size ≤ maxLen) :
    ∃ D0 : DataW Unit, w.ownsMap P k noRead m l.length D0 ∧ size D0 = l.length ∧ (strKeys D0).Perm (l.map fun x => x.1.data.toList) := by
  obtain ⟨es, clock, h1, h2, h3, h4⟩ := h
  have hlen : es.size = l.length := by
    have := congrArg List.length h4
    simpa using this
  have hall : ∀ e ∈ es.toList, ∃ x ∈ l, e.key = .string x.1 := by
    intro e he
    have hm : kv e ∈ l.map fun x => (Value.string x.1, x.2) := by rw [← h4]; exact List.mem_map_of_mem he
    obtain ⟨x, hx, hxe⟩ := List.mem_map.1 hm
    exact ⟨x, hx, (congrArg Prod.fst hxe).symm⟩
  refine ⟨_, ⟨es, clock, h1, ⟨by rw [hlen]; unfold maxLen; omega, h2, fun e he => ?_⟩, by omega, rfl⟩, ?_, ?_⟩
  · obtain ⟨x, hx, hk'⟩ := hall e he
    exact ⟨_, rg_str hk x.1 (hs x hx) e hk'⟩
  · rw [size_eq, (WideShapes.sorted_perm _).length_eq]
    simpa using hlen
  · have e1 : (es.toList.map (WideElems.rg P k noRead)).map (fun p => strOf p.1) = l.map fun x => x.1.data.toList := by
      have e2 : es.toList.map (fun e => (kv e).1) = l.map fun x => Value.string x.1 := by
        have := congrArg (List.map Prod.fst) h4
        simpa [Function.comp_def] using this
      have e3 : es.toList.map (fun e => strOf (WideElems.rg P k noRead e).1) = (es.toList.map (fun e => (kv e).1)).map fun v => match v with | .string s => s.data.toList | _ => [] := by
        rw [List.map_map]
        refine List.map_congr_left fun e he => ?_
        obtain ⟨x, hx, hk'⟩ := hall e he
        have hke : (kv e).1 = .string x.1 := hk'
        simp [Function.comp, hke, WideElems.rg, rg_str hk x.1 (hs x hx) e hk', strOf]
      rw [List.map_map, Function.comp_def, e3, e2, List.map_map]
      rfl
    rw [← e1]
    exact (WideShapes.sorted_perm _).map _
theorem rg_int {P : Program} {k : TypeId} (hk : P.underlying k = some (.int .i64)) (x : Int) (hx : (Lit.int .i64 x).wf = true) (e : MapEntry) (he : e.key = .int .i64 x) : WideElems.rd P k noRead e = some (.int .i64 x, .nil) := by
  simp [WideElems.rd, he, keyOf, hk, mapKey, hx, noRead]
theorem owns_ids {P : Program} {w : World} {k : TypeId} {m : Nat} {l : List (Int × Value)} (h : MapIs w (.int .i64) m (l.map fun x => (.int .i64 x.1, x.2))) (hk : P.underlying k = some (.int .i64)) (hn : l.length ≤ 1000000) (hs : ∀ x ∈ l, (Lit.int .i64 x.1).wf = true) :
    ∃ D0 : DataW Unit, w.ownsMap P k noRead m l.length D0 ∧ Maps.size D0 = l.length ∧ (intKeys D0).Perm (l.map fun x => x.1) := by
  obtain ⟨es, clock, h1, h2, h3, h4⟩ := h
  have hlen : es.size = l.length := by
    have := congrArg List.length h4
    simpa using this
  have hall : ∀ e ∈ es.toList, ∃ x ∈ l, e.key = .int .i64 x.1 := by
    intro e he
    have hm : kv e ∈ l.map fun x => (Value.int .i64 x.1, x.2) := by rw [← h4]; exact List.mem_map_of_mem he
    obtain ⟨x, hx, hxe⟩ := List.mem_map.1 hm
    exact ⟨x, hx, (congrArg Prod.fst hxe).symm⟩
  refine ⟨_, ⟨es, clock, h1, ⟨by rw [hlen]; unfold maxLen; omega, h2, fun e he => ?_⟩, by omega, rfl⟩, ?_, ?_⟩
  · obtain ⟨x, hx, hk'⟩ := hall e he
    exact ⟨_, rg_int hk x.1 (hs x hx) e hk'⟩
  · rw [size_eq, (WideShapes.sorted_perm _).length_eq]
    simpa using hlen
  · have e1 : (es.toList.map (WideElems.rg P k noRead)).map (fun p => Go.intOf p.1) = l.map fun x => x.1 := by
      have e2 : es.toList.map (fun e => (kv e).1) = l.map fun x => Value.int .i64 x.1 := by
        have := congrArg (List.map Prod.fst) h4
        simpa [Function.comp_def] using this
      have e3 : es.toList.map (fun e => Go.intOf (WideElems.rg P k noRead e).1) = (es.toList.map (fun e => (kv e).1)).map fun v => match v with | .int _ q => q | _ => 0 := by
        rw [List.map_map]
        refine List.map_congr_left fun e he => ?_
        obtain ⟨x, hx, hk'⟩ := hall e he
        have hke : (kv e).1 = .int .i64 x.1 := hk'
        simp [Function.comp, hke, WideElems.rg, rg_int hk x.1 (hs x hx) e hk', Go.intOf]
      rw [List.map_map, Function.comp_def, e3, e2, List.map_map]
      rfl
    rw [← e1]
    exact (WideShapes.sorted_perm _).map _
theorem read_own {w : World} {base : Nat} {e : TypeId} {v : Value} {n : Nat} {xs : List Value} (h : w.ownsRow base e 1 v n xs) : ∃ E, ReadRow w 1 v xs E ∧ ∀ b ∈ E, base ≤ b := by
  obtain ⟨hl, ⟨rfl, rfl⟩ | ⟨g, cap, cur, rfl, hg, hh, hn, hc, hs, hx⟩⟩ := h
  · obtain rfl : xs = [] := List.length_eq_zero_iff.1 (by omega)
    exact ⟨[], ⟨none, 0, 0, rfl, rfl, Nat.le_refl _, by decide, fun _ => rfl, .inl ⟨rfl, rfl⟩⟩, by simp⟩
  · refine ⟨[g], ⟨_, n, cap, rfl, hl, hn, hc, (fun h => by cases h), .inr ⟨g, 0, rfl, rfl, lt_of_heap hh, fun i x hi => ?_⟩⟩, by simpa using hg⟩
    rw [cell_of_row w g (0 + i) cur e _ hh, ← hx] at *
    rw [List.getElem?_take] at hi
    split at hi
    · simpa using hi
    · cases hi
theorem wf_i64 {n : Int} (h1 : -9223372036854775808 ≤ n) (h2 : n ≤ 9223372036854775807) : (Lit.int .i64 n).wf = true := by
  have e1 : IntKind.i64.min = -9223372036854775808 := by decide
  have e2 : IntKind.i64.max = 9223372036854775807 := by decide
  simp only [Lit.wf, Bool.and_eq_true, decide_eq_true_eq, e1, e2]
  omega
end Go.Av

namespace Go.Proofs
open Go.Shelf
def Tryz.keys142_ren : Go.Shelf.Ren := ⟨fun | 7 => 142 | 10 => 188 | n => n, fun | 23 => 154 | 26 => 9 | 3 => 222 | 28 => 220 | 0 => 0 | 27 => 219 | 33 => 234 | 4 => 4 | n => n, fun | n => n⟩
theorem Tryz.keys142 : Go.Proofs.SlLaysZ.n7 Tryz.prog Tryz.keys142_ren := {
  mixed := by kernel_rfl
  f7 := ⟨Tryz.f142.name, by decide, Tryz.func142.trans (congrArg some (by kernel_rfl))⟩
  f10 := ⟨Tryz.f188.name, by decide, Tryz.func188.trans (congrArg some (by kernel_rfl))⟩
  t0 := Tryz.underlying0
  a0 := Tryz.isAgg0
  z0 := Tryz.sizeOf0
  v0 := Tryz.zeroValue0
  t4 := Tryz.underlying4
  a4 := Tryz.isAgg4
  z4 := Tryz.sizeOf4
  v4 := Tryz.zeroValue4
  t23 := Tryz.underlying154
  a23 := Tryz.isAgg154
  z23 := Tryz.sizeOf154
  v23 := Tryz.zeroValue154
  t26 := Tryz.underlying9
  a26 := Tryz.isAgg9
  z26 := Tryz.sizeOf9
  v26 := Tryz.zeroValue9
  t27 := Tryz.underlying219
  a27 := Tryz.isAgg219
  z27 := Tryz.sizeOf219
  v27 := Tryz.zeroValue219
  t28 := Tryz.underlying220
  a28 := Tryz.isAgg220
  z28 := Tryz.sizeOf220
  v28 := Tryz.zeroValue220
  t33 := Tryz.underlying234
  a33 := Tryz.isAgg234
  z33 := Tryz.sizeOf234
  v33 := Tryz.zeroValue234 }
def Tryz.sorted141_ren : Go.Shelf.Ren := ⟨fun | 6 => 141 | 8 => 186 | 9 => 187 | 11 => 223 | 13 => 201 | 12 => 224 | 23 => 245 | 24 => 246 | 14 => 263 | 15 => 264 | 16 => 265 | 17 => 266 | 18 => 267 | 19 => 268 | 20 => 269 | 21 => 270 | 22 => 271 | 25 => 295 | 26 => 281 | 27 => 282 | 28 => 296 | 29 => 297 | 30 => 298 | 31 => 313 | n => n, fun | 26 => 9 | 28 => 220 | 24 => 55 | 0 => 0 | 3 => 3 | 37 => 258 | 48 => 317 | 50 => 257 | 4 => 4 | 40 => 311 | 39 => 310 | 45 => 252 | 5 => 5 | 9 => 9 | 51 => 336 | 55 => 340 | 57 => 357 | 58 => 148 | 33 => 234 | n => n, fun | n => n⟩
theorem Tryz.sorted141 : Go.Proofs.SlLaysZ.n6 Tryz.prog Tryz.sorted141_ren := {
  mixed := by kernel_rfl
  f6 := ⟨Tryz.f141.name, by decide, Tryz.func141.trans (congrArg some (by kernel_rfl))⟩
  f8 := ⟨Tryz.f186.name, by decide, Tryz.func186.trans (congrArg some (by kernel_rfl))⟩
  f11 := ⟨Tryz.f223.name, by decide, Tryz.func223.trans (congrArg some (by kernel_rfl))⟩
  t0 := Tryz.underlying0
  a0 := Tryz.isAgg0
  z0 := Tryz.sizeOf0
  v0 := Tryz.zeroValue0
  t24 := Tryz.underlying55
  a24 := Tryz.isAgg55
  z24 := Tryz.sizeOf55
  v24 := Tryz.zeroValue55
  t26 := Tryz.underlying9
  a26 := Tryz.isAgg9
  z26 := Tryz.sizeOf9
  v26 := Tryz.zeroValue9
  t28 := Tryz.underlying220
  a28 := Tryz.isAgg220
  z28 := Tryz.sizeOf220
  v28 := Tryz.zeroValue220
  i26 := by kernel_rfl }
def Tryz.sort187_ren : Go.Shelf.Ren := ⟨fun | 6 => 187 | 8 => 201 | 9 => 224 | 19 => 245 | 20 => 246 | 21 => 263 | 22 => 264 | 23 => 265 | 24 => 266 | 25 => 267 | 26 => 268 | 27 => 269 | 28 => 270 | 29 => 271 | 36 => 295 | 31 => 281 | 32 => 282 | 37 => 296 | 38 => 297 | 39 => 298 | 41 => 313 | n => n, fun | 27 => 55 | 29 => 9 | 3 => 3 | 32 => 258 | 26 => 55 | 0 => 0 | 44 => 317 | 46 => 257 | 4 => 4 | 36 => 311 | 35 => 310 | 41 => 252 | 5 => 5 | 9 => 9 | 53 => 336 | 57 => 340 | 63 => 357 | 64 => 148 | n => n, fun | n => n⟩
theorem Tryz.sort187 : Go.Proofs.SlLaysM.n6 Tryz.prog Tryz.sort187_ren := {
  mixed := by kernel_rfl
  f6 := ⟨Tryz.f187.name, by decide, Tryz.func187.trans (congrArg some (by kernel_rfl))⟩
  f8 := Tryz.func201.trans (congrArg some (by kernel_rfl))
  f9 := ⟨Tryz.f224.name, by decide, Tryz.func224.trans (congrArg some (by kernel_rfl))⟩
  f19 := Tryz.func245.trans (congrArg some (by kernel_rfl))
  f20 := Tryz.func246.trans (congrArg some (by kernel_rfl))
  f21 := ⟨Tryz.f263.name, by decide, Tryz.func263.trans (congrArg some (by kernel_rfl))⟩
  f22 := ⟨Tryz.f264.name, by decide, Tryz.func264.trans (congrArg some (by kernel_rfl))⟩
  f23 := ⟨Tryz.f265.name, by decide, Tryz.func265.trans (congrArg some (by kernel_rfl))⟩
  f24 := ⟨Tryz.f266.name, by decide, Tryz.func266.trans (congrArg some (by kernel_rfl))⟩
  f25 := ⟨Tryz.f267.name, by decide, Tryz.func267.trans (congrArg some (by kernel_rfl))⟩
  f26 := ⟨Tryz.f268.name, by decide, Tryz.func268.trans (congrArg some (by kernel_rfl))⟩
  f27 := ⟨Tryz.f269.name, by decide, Tryz.func269.trans (congrArg some (by kernel_rfl))⟩
  f28 := ⟨Tryz.f270.name, by decide, Tryz.func270.trans (congrArg some (by kernel_rfl))⟩
  f29 := ⟨Tryz.f271.name, by decide, Tryz.func271.trans (congrArg some (by kernel_rfl))⟩
  f31 := Tryz.func281.trans (congrArg some (by kernel_rfl))
  f32 := Tryz.func282.trans (congrArg some (by kernel_rfl))
  f36 := ⟨Tryz.f295.name, by decide, Tryz.func295.trans (congrArg some (by kernel_rfl))⟩
  f37 := ⟨Tryz.f296.name, by decide, Tryz.func296.trans (congrArg some (by kernel_rfl))⟩
  f38 := ⟨Tryz.f297.name, by decide, Tryz.func297.trans (congrArg some (by kernel_rfl))⟩
  f39 := ⟨Tryz.f298.name, by decide, Tryz.func298.trans (congrArg some (by kernel_rfl))⟩
  f41 := ⟨Tryz.f313.name, by decide, Tryz.func313.trans (congrArg some (by kernel_rfl))⟩
  t0 := Tryz.underlying0
  a0 := Tryz.isAgg0
  z0 := Tryz.sizeOf0
  v0 := Tryz.zeroValue0
  t3 := Tryz.underlying3
  a3 := Tryz.isAgg3
  z3 := Tryz.sizeOf3
  v3 := Tryz.zeroValue3
  t4 := Tryz.underlying4
  a4 := Tryz.isAgg4
  z4 := Tryz.sizeOf4
  v4 := Tryz.zeroValue4
  t5 := Tryz.underlying5
  a5 := Tryz.isAgg5
  z5 := Tryz.sizeOf5
  v5 := Tryz.zeroValue5
  t9 := Tryz.underlying9
  a9 := Tryz.isAgg9
  z9 := Tryz.sizeOf9
  v9 := Tryz.zeroValue9
  t26 := Tryz.underlying55
  a26 := Tryz.isAgg55
  z26 := Tryz.sizeOf55
  v26 := Tryz.zeroValue55
  t27 := Tryz.underlying55
  a27 := Tryz.isAgg55
  z27 := Tryz.sizeOf55
  v27 := Tryz.zeroValue55
  t29 := Tryz.underlying9
  a29 := Tryz.isAgg9
  z29 := Tryz.sizeOf9
  v29 := Tryz.zeroValue9
  t32 := Tryz.underlying258
  a32 := Tryz.isAgg258
  z32 := Tryz.sizeOf258
  v32 := Tryz.zeroValue258
  t35 := Tryz.underlying310
  a35 := Tryz.isAgg310
  z35 := Tryz.sizeOf310
  v35 := Tryz.zeroValue310
  t36 := Tryz.underlying311
  a36 := Tryz.isAgg311
  z36 := Tryz.sizeOf311
  v36 := Tryz.zeroValue311
  t41 := Tryz.underlying252
  a41 := Tryz.isAgg252
  z41 := Tryz.sizeOf252
  v41 := Tryz.zeroValue252
  t44 := Tryz.underlying317
  a44 := Tryz.isAgg317
  z44 := Tryz.sizeOf317
  v44 := Tryz.zeroValue317
  t46 := Tryz.underlying257
  a46 := Tryz.isAgg257
  z46 := Tryz.sizeOf257
  v46 := Tryz.zeroValue257
  t53 := Tryz.underlying336
  a53 := Tryz.isAgg336
  z53 := Tryz.sizeOf336
  v53 := Tryz.zeroValue336
  t57 := Tryz.underlying340
  a57 := Tryz.isAgg340
  z57 := Tryz.sizeOf340
  v57 := Tryz.zeroValue340
  t63 := Tryz.underlying357
  a63 := Tryz.isAgg357
  z63 := Tryz.sizeOf357
  v63 := Tryz.zeroValue357
  t64 := Tryz.underlying148
  a64 := Tryz.isAgg148
  z64 := Tryz.sizeOf148
  v64 := Tryz.zeroValue148 }
open Go.RowKit Go.Maps Go.Sort Go.Shelf
theorem Tryz.sorts141 (m : Nat) : AnyZ.SortsIn Tryz.prog Tryz.sorted141_ren Fence.wide m :=
  ⟨fun blk off cap ss W hH hblk hsz => callsIn_wide.2 (AnyM.slices_Sort_string Tryz.sort187 blk off cap ss W hH hblk hsz),
   fun p cap W => callsIn_wide.2 (AnyM.slices_Sort_string_none Tryz.sort187 p cap W)⟩
theorem Tryz.maps_Keys_142 (mb : Option Nat) (W : World) : CallsIn Fence.wide 5 Tryz.prog 142 #[.map mb] W fun e w' => e = .returned (.func (.func 188) #[] #[.pointer (some ⟨W.heap.size, 0, none⟩)]) ∧ w' = W.alloc (.cells #[.map mb] 154) :=
  AnyZ.keys_in Tryz.keys142 Fence.wide 5 trivial rfl mb W
set_option maxHeartbeats 1000000 in
theorem Tryz.slices_Sorted_keys_141_142 {H : Type} (b nn : Nat) (D0 : DataW H) (R : Value → Option (DataW H × List MemPlace)) (w : World) (hown : w.ownsMap Tryz.prog 9 R b nn D0) (hmax : Maps.size D0 ≤ maxLen) (hbytes : Maps.size D0 * 16 ≤ 140737488355328) :
    CallsIn Fence.wide 5 Tryz.prog 141 #[.func (.func 188) #[] #[.pointer (some ⟨w.heap.size, 0, none⟩)]] (w.alloc (.cells #[.map (some b)] 154)) fun e w' => ∃ (v : Value) (ss : List (List UInt8)), e = .returned v ∧ ss.Perm (strKeys D0) ∧
      w'.ownsRow (w.alloc (.cells #[.map (some b)] 154)).heap.size 9 1 v ss.length ((ss.mergeSort (fun x y => decide (x ≤ y))).map encStr) ∧ (v = .slice none 0 0 ↔ ss = []) ∧ Below (w.alloc (.cells #[.map (some b)] 154)).heap.size (w.alloc (.cells #[.map (some b)] 154)) w' := by
  have hbl := hown.lt
  have hseq : SeqGives Fence.wide 2 Tryz.prog 188 #[.pointer (some ⟨w.heap.size, 0, none⟩)] encStr (fun ss => ss.Perm (strKeys D0)) (Maps.size D0) (w.alloc (.cells #[.map (some b)] 154)) :=
    AnyZ.keys_gives (ρ := Tryz.keys142_ren) { Tryz.keys142 with } Fence.wide _ trivial rfl (by omega) w.heap.size b nn D0 _ (by simp) (by simp) (by
      obtain ⟨es, clock, hb, Ft, hs, hD⟩ := hown
      exact ⟨es, clock, (Below.heap_alloc _ _ b hbl).trans hb, Ft, hs, hD⟩)
  exact AnyZ.sorted_in Tryz.sorted141 Fence.wide 5 trivial trivial trivial trivial rfl (by omega) (Tryz.sorts141 _) (enters_of Tryz.func187 (by kernel_rfl) rfl) 188 #[.pointer (some ⟨w.heap.size, 0, none⟩)] trivial (enters_of Tryz.func188 (by kernel_rfl) rfl) _ _ hmax hbytes _ hseq
end Go.Proofs

namespace Go.Av
open Go.RowKit Go.Sort Go.Maps
theorem rise_sorted {l ss : List Bs} (hr : l.Pairwise (· < ·)) (hp : ss.Perm l) : ss.mergeSort (fun x y => decide (x ≤ y)) = l := by
  refine (mergeSort_of_perm hp).trans ?_
  refine List.mergeSort_of_pairwise (List.Pairwise.imp (fun h => ?_) hr)
  simp only [leB, decide_eq_true_eq]
  exact List.le_of_lt h
def ofT (S : TreeS) (sess : Int) : List Bs := (S.l.filter fun e => decide (0 < sess) && e.2.owner == sess).map (·.1)
end Go.Av
namespace Go.Proofs.YtbakgoncfggidaaGreatDoor
open Go.RowKit Go.Av Go.Maps Go.Sort
section
variable {w0 w : World} {t : Nat} {S : TreeS} {P P' : List PRow} {R : List Thing} {rows : List (Value × Bs)}
def ListPost (w0 : World) (t : Nat) (S : TreeS) (P : List PRow) (R : List Thing) (rows : List (Value × Bs)) (l : List Bs) (e : Ending) (w' : World) : Prop :=
  ∃ v P', e = .returned v ∧ (∀ r ∈ P, r ∈ P') ∧ (1, v, l.map sv) ∈ P' ∧ Sep w0 w' (ThPool w0 P' :: ThTree t S P' :: R) rows
set_option maxRecDepth 100000 in
set_option maxHeartbeats 4000000 in
theorem paths_any (h : Sep w0 w (ThPool w0 P :: ThTree t S P :: R) rows) (hn : S.l.length ≤ 100000) (hk : ∀ e ∈ S.l, e.1.length ≤ 100000) :
    Calls Tryz.prog 59 #[.pointer (some ⟨t, 0, none⟩)] w (ListPost w0 t S P R rows (S.l.map (·.1))) := by
  obtain ⟨m, gs, hperm, hrise, hgs, hS⟩ := tree_open (h.perm (List.Perm.swap _ _ _))
  obtain ⟨D, hM, -⟩ := hS.has (T := ThMap .string m (gs.map NodeG.kv)) (by simp)
  have hgl : gs.length = S.l.length := by rw [← hperm.length_eq, List.length_map]
  obtain ⟨D0, ho, hz, hp⟩ := owns_names (P := Tryz.prog) (k := 9) (l := gs.map fun g => (⟨g.key.toArray⟩, Value.pointer (some ⟨g.blk, 0, none⟩))) (by rw [List.map_map]; exact hM) Tryz.underlying9 (by simp; omega) (by
    intro x hx
    obtain ⟨g, hg, rfl⟩ := List.mem_map.1 hx
    have := hk g.ent (hperm.mem_iff.1 (List.mem_map_of_mem hg))
    unfold maxLen
    show g.key.toArray.size ≤ _
    simp only [List.size_toArray]
    have h2 : g.ent.1 = g.key := rfl
    rw [h2] at this
    omega)
  rw [List.length_map] at hz
  have HP := Lib.hid (show (strKeys D0).Perm (S.l.map (·.1)) from hp.trans (by
    rw [List.map_map]
    have := hperm.map (·.1)
    rw [List.map_map] at this
    exact this))
  have HRI := Lib.hid hrise
  have HC := Lib.hid (show _ ∧ _ ∧ _ from ⟨hperm, hrise, hgs⟩)
  have HX := Lib.hid hS
  have cK := callsIn_wide.1 (Tryz.maps_Keys_142 (some m) w)
  have cS := callsIn_wide.1 (Tryz.slices_Sorted_keys_141_142 m _ D0 noRead w ho (by rw [hz]; unfold maxLen; omega) (by rw [hz]; omega))
  have CK := Lib.hid cK
  have CS := Lib.hid cS
  clear cK cS ho hz hp h hperm hrise hgs hS hM
  go_enter Tryz.func59, Tryz.ntmps59
  go_wp2_with (first | refine vL ?_ | refine vM ?_ | (refine vS ?_; clear HX; intro w HX) | (refine vA ?_; clear HX; (first | (have hq := b; clear hq; intro w b2 HX) | intro w b HX)) | ((first | (refine sWN ?_; clear HX; intro w mm HX) | (refine sWP ?_; clear HX; intro w av nv cv HX)); simp only [Act.put, k_a, k_b, k_c]) | (go_at_call 142; go_must (refine CK.out.mono ?_); rintro e w1 ⟨rfl, rfl⟩) | (go_at_call 141; go_must (refine CS.out.mono ?_); rintro e w1 ⟨v, ss, rfl, hS, hrow, hnil, hb⟩))
  go_ret
  obtain ⟨E, hr, hE⟩ := read_own hrow
  have hss : ss.mergeSort (fun x y => decide (x ≤ y)) = S.l.map (·.1) := rise_sorted HRI.out (hS.trans HP.out)
  rw [hss] at hr
  have hsz : w.heap.size ≤ (w.alloc (.cells #[.map (some m)] 154)).heap.size := by simp
  have h1 := (HX.out.up3).poolRead hr (fun b hb => Nat.le_trans hsz (hE b hb)) ((Upd.alloc0 w _ []).trans (Upd.of_below hb))
  obtain ⟨hperm, hrise, hgs⟩ := HC.out
  have h2 := tree_shut (S := S) (P := (1, v, (S.l.map (·.1)).map sv) :: P) (h1.up3.up3.up3) hperm hrise (fun g hg => k_n _ (hgs g hg))
  exact ⟨v, _, rfl, fun q hq => k_n _ hq, k_s, h2.up1⟩
theorem take_of {S : TreeS} {sess : Int} {i : Nat} (hi : i < S.l.length) : ofT ⟨S.room, S.l.take (i + 1)⟩ sess = ofT ⟨S.room, S.l.take i⟩ sess ++ (if decide (0 < sess) && S.l[i].2.owner == sess then [S.l[i].1] else []) := by
  unfold ofT
  dsimp only
  rw [List.take_succ_eq_append_getElem hi, List.filter_append, List.map_append]
  congr 1
  cases hq : (decide (0 < sess) && S.l[i].2.owner == sess) <;> simp [List.filter_cons, hq]
def RowPost (w0 : World) (t : Nat) (S : TreeS) (P : List PRow) (R : List Thing) (rows : List (Value × Bs)) (l : List Bs) (e : Ending) (w' : World) : Prop :=
  ∃ v P', e = .returned v ∧ (∀ r ∈ P, r ∈ P') ∧ Sep w0 w' (ThRow 1 v (l.map sv) :: ThPool w0 P' :: ThTree t S P' :: R) rows
def OfRel (w0 : World) (t : Nat) (S : TreeS) (P : List PRow) (R : List Thing) (rows : List (Value × Bs)) (sess : Int) (k : Nat) (v5 v11 : Value) (w : World) : Prop :=
  ∃ (i : Nat) (a : Option Addr) (n c : Nat), i + k = S.l.length ∧ v11 = .int .i64 (i : Int) ∧ v5 = .slice a n c ∧ Sep w0 w (ThRow 1 (.slice a n c) ((ofT ⟨S.room, S.l.take i⟩ sess).map sv) :: ThPool w0 P :: ThTree t S P :: R) rows
set_option maxRecDepth 100000 in
set_option maxHeartbeats 4000000 in
theorem tofRow_any (h : Sep w0 w (ThPool w0 P :: ThTree t S P :: R) rows) (sess : Int) (hn : S.l.length ≤ 100000) (hk : ∀ e ∈ S.l, e.1.length ≤ 100000) :
    Calls Tryz.prog 78 #[.pointer (some ⟨t, 0, none⟩), .int .i64 sess] w (RowPost w0 t S P R rows (ofT S sess)) := by
  have HN := Lib.hid hn
  have HK := Lib.hid hk
  have HX := Lib.hid h
  clear hn hk h
  go_enter Tryz.func78, Tryz.ntmps78
  go_wp2_with (first | refine vL ?_ | refine vM ?_ | (refine vS ?_; clear HX; intro w HX) | (refine vA ?_; clear HX; (first | (have hq := b; clear hq; intro w b2 HX) | intro w b HX)) | ((first | (refine sWN ?_; clear HX; intro w mm HX) | (refine sWP ?_; clear HX; intro w av nv cv HX)); simp only [Act.put, k_a, k_b, k_c]))
  refine (paths_any HX.out HN.out HK.out).mono ?_
  rintro e w ⟨v, P', rfl, hP', hv, hS⟩
  obtain ⟨E, hE⟩ := hS.poolGet hv
  obtain ⟨a0, n0, c0, rfl, hl0, hn0, hc0, hne⟩ := ReadRow.some hE
  rw [List.length_map, List.length_map, Nat.mul_one] at hl0
  subst hl0
  clear HX
  have HX := Lib.hid hS
  have HNE := Lib.hid hne
  have HV := Lib.hid hv
  have HPP := Lib.hid hP'
  clear hS hE hne hv hP' hn0 hc0
  have HST := Lib.hid (show OfRel w0 t S P' R rows sess S.l.length (.slice none 0 0) (.int .i64 (0 : Int)) w from ⟨0, none, 0, 0, by simp, rfl, rfl, HX.out.nilRow 1⟩)
  clear HX
  go_wp2_with (first | refine vL ?_ | refine vM ?_ | (refine vS ?_; clear HX; intro w HX) | (refine vA ?_; clear HX; (first | (have hq := b; clear hq; intro w b2 HX) | intro w b HX)) | ((first | (refine sWN ?_; clear HX; intro w mm HX) | (refine sWP ?_; clear HX; intro w av nv cv HX)); simp only [Act.put, k_a, k_b, k_c]))
  go_loopg [5, 11] S.l.length (fun k v5 v11 wr => OfRel w0 t S P' R rows sess k v5 v11 wr)
  case atStart => exact HST.out
  case round =>
    obtain ⟨i, a, n, c, hik, rfl, rfl, hS⟩ := hrel
    have HIK := Lib.hid hik
    by_cases hlt : i < S.l.length
    case neg =>
      obtain rfl : i = S.l.length := by omega
      have HX := Lib.hid hS
      clear hS hlt hik
      go_wp2_with (first | refine vL ?_ | refine vM ?_ | (refine vS ?_; clear HX; intro w HX) | (refine vA ?_; clear HX; (first | (have hq := b; clear hq; intro w b2 HX) | intro w b HX)) | ((first | (refine sWN ?_; clear HX; intro w mm HX) | (refine sWP ?_; clear HX; intro w av nv cv HX)); simp only [Act.put, k_a, k_b, k_c]))
      go_ret
      have h1 := HX.out
      rw [List.take_length] at h1
      exact ⟨_, P', rfl, HPP.out, h1⟩
    case pos =>
      have hmem : S.l[i] ∈ S.l := List.getElem_mem hlt
      have hlook : lookT S.l[i].1 S.l = some S.l[i].2 := (look_mem (tree_rise hS.up2)).2 hmem
      have hnd := tree_rise hS.up2
      obtain ⟨g, off, rfl⟩ := HNE.out (by intro e; rw [List.map_map, List.map_eq_nil_iff] at e; rw [e] at hlt; simp at hlt)
      obtain ⟨E, hE⟩ := hS.up1.poolGet HV.out
      have hl := row_load1 (P := Tryz.prog) (ty := 9) (i := i) (v := sv S.l[i].1) hE (by kernel_rfl) (by simp [hlt])
      obtain ⟨m, x, nv, kvs, N, hnv, hkv, hS2, back⟩ := tree_at hS.up2 hlook
      have HB := Lib.hid (show ∀ w' R', Sep w0 w' (thNode x S.l[i].2 nv :: thTree t m S.room :: ThMap .string m kvs :: ThL N :: R') rows → Sep w0 w' (ThTree t S P' :: R') rows from fun w' R' hh => by
        have := back w' S.l[i].2 nv P' R' (fun _ h => h) hnv hh
        rw [setT_same hnd hlook] at this
        exact this)
      have HT := Lib.hid (take_of (sess := sess) hlt)
      obtain ⟨en, hen⟩ : ∃ en, S.l[i] = en := ⟨_, rfl⟩
      rw [hen] at HT hl hS2 hkv HB
      obtain ⟨ps, hps⟩ : ∃ ps : ByteArray, ps = ⟨en.1.toArray⟩ := ⟨_, rfl⟩
      have hpv : sv en.1 = .string ps := by rw [hps]; rfl
      have hpl : ps.data.toList = en.1 := by rw [hps]
      rw [hpv] at hl hkv
      have hlk := look_hit (Lib.hid hS2) ps (by (repeat (first | (with_reducible exact k_s) | (with_reducible apply k_m)))) (by rw [hpl, hpv]; exact hkv)
      have HX := Lib.hid hS2
      have HPV := Lib.hid hpv
      have q0 : decide (i < S.l.length) = true := decide_eq_true hlt
      have q9 : i ≤ 100000 := by have := HN.out; omega
      obtain ⟨zs, hzs⟩ : ∃ z, decide (0 < sess) = z := ⟨_, rfl⟩
      obtain ⟨zo, hzo⟩ : ∃ z, (en.2.owner == sess) = z := ⟨_, rfl⟩
      rw [hzs, hzo] at HT
      clear hS hS2 hlook hnd hE back hen hps hpv hpl hkv hnv hmem
      cases zs with
      | false =>
        go_wp2_with (first | refine vL ?_ | refine vM ?_ | (refine vS ?_; clear HX; intro w HX) | (refine vA ?_; clear HX; (first | (have hq := b; clear hq; intro w b2 HX) | intro w b HX)) | ((first | (refine sWN ?_; clear HX; intro w mm HX) | (refine sWP ?_; clear HX; intro w av nv cv HX)); simp only [Act.put, k_a, k_b, k_c]) | ((with_reducible apply sx_loadAt hl); (· rfl); (· rfl); simp only [Act.put, k_a, k_b, k_c]))
        go_roundg (S.l.length - (i + 1))
        case rel =>
          have h2 := HB.out _ _ HX.out
          refine ⟨i + 1, a, n, c, by omega, by go_num, rfl, ?_⟩
          rw [HT.out]
          simp only [Bool.false_and, Bool.false_eq_true, if_false, List.append_nil]
          exact Sep.pm h2 3 [1, 2, 0] rfl rfl
        case measure => omega
      | true =>
        cases zo with
        | false =>
          go_wp2_with (first | refine vL ?_ | refine vM ?_ | (refine vS ?_; clear HX; intro w HX) | (refine vA ?_; clear HX; (first | (have hq := b; clear hq; intro w b2 HX) | intro w b HX)) | ((first | (refine sWN ?_; clear HX; intro w mm HX) | (refine sWP ?_; clear HX; intro w av nv cv HX)); simp only [Act.put, k_a, k_b, k_c]) | ((with_reducible apply sx_loadAt hl); (· rfl); (· rfl); simp only [Act.put, k_a, k_b, k_c]))
          go_roundg (S.l.length - (i + 1))
          case rel =>
            have h2 := HB.out _ _ HX.out
            refine ⟨i + 1, a, n, c, by omega, by go_num, rfl, ?_⟩
            rw [HT.out]
            simp only [Bool.and_false, Bool.false_eq_true, if_false, List.append_nil]
            exact Sep.pm h2 3 [1, 2, 0] rfl rfl
          case measure => omega
        | true =>
          have HBD := Lib.hid (show ∀ n, ((ofT ⟨S.room, S.l.take i⟩ sess).map sv).length = n * 1 → n + 1 ≤ 140737488355328 ∧ (n + 1) * 16 ≤ 140737488355328 from fun n hn => by
            have h1 : (ofT ⟨S.room, S.l.take i⟩ sess).length ≤ S.l.length := by
              unfold ofT
              rw [List.length_map]
              exact Nat.le_trans (List.length_filter_le _ _) (by simp; omega)
            have h2 := HN.out
            rw [List.length_map] at hn
            omega)
          go_wp2_with (first | refine vL ?_ | refine vM ?_ | (refine vS ?_; clear HX; intro w HX) | (refine vA ?_; clear HX; (first | (have hq := b; clear hq; intro w b2 HX) | intro w b HX)) | ((first | (refine sWN ?_; clear HX; intro w mm HX) | (refine sWP ?_; clear HX; intro w av nv cv HX)); simp only [Act.put, k_a, k_b, k_c]) | ((with_reducible apply sx_loadAt hl); (· rfl); (· rfl); simp only [Act.put, k_a, k_b, k_c]))
          go_roundg (S.l.length - (i + 1))
          case rel =>
            have h1 := HX.out.cut1
            have h2 := HB.out _ _ (h1.up4.up4.up4.up4)
            refine ⟨i + 1, av, nv, cv, by omega, by go_num, rfl, ?_⟩
            rw [HT.out]
            simp only [Bool.and_self, if_true, List.map_append, List.map_cons, List.map_nil, HPV.out]
            exact Sep.pm h2 3 [1, 2, 0] rfl rfl
          case measure => omega
theorem tof_any (h : Sep w0 w (ThPool w0 P :: ThTree t S P :: R) rows) (sess : Int) (hn : S.l.length ≤ 100000) (hk : ∀ e ∈ S.l, e.1.length ≤ 100000) :
    Calls Tryz.prog 78 #[.pointer (some ⟨t, 0, none⟩), .int .i64 sess] w (ListPost w0 t S P R rows (ofT S sess)) :=
  (tofRow_any h sess hn hk).mono fun e w' ⟨v, P', he, hP, hS⟩ =>
    ⟨v, (1, v, (ofT S sess).map sv) :: P', he, fun q hq => k_n _ (hP q hq), k_s, (tree_mono hS.poolRow.up1 (P' := (1, v, (ofT S sess).map sv) :: P') (fun q hq => k_n _ hq)).up1⟩
end
end Go.Proofs.YtbakgoncfggidaaGreatDoor
