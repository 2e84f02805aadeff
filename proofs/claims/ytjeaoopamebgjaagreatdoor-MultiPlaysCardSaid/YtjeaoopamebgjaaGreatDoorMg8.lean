/-
  Texts of this claim, laid together.
-/
import Derived.Test.YtjeaoopamebgjaaGreatDoorMg7
import Derived.IntWalk
import Derived.Deep.DeepCutAuto
set_option linter.unusedVariables false
set_option linter.unusedSimpArgs false

namespace Go.Av
def LexK (K : Nat → Int) (x y : Nat) : Prop := K x < K y ∨ K x = K y ∧ x < y
def SortF (K : Nat → Int) (σ : Nat → Nat) (a b : Nat) : Prop := ∀ i j, a ≤ i → i < j → j < b → LexK K (σ i) (σ j)
def swapF (σ : Nat → Nat) (i j k : Nat) : Nat := if k = i then σ j else if k = j then σ i else σ k
structure PermF (a b : Nat) (σ σ' : Nat → Nat) : Prop where
  out : ∀ i, i < a ∨ b ≤ i → σ' i = σ i
  into : ∀ i, a ≤ i → i < b → ∃ j, a ≤ j ∧ j < b ∧ σ' i = σ j
  all : ∀ n, b ≤ n → ((List.range n).map σ').Perm ((List.range n).map σ)
theorem LexK.trans {K : Nat → Int} {x y z : Nat} (h1 : LexK K x y) (h2 : LexK K y z) : LexK K x z := by
  unfold LexK at *
  omega
theorem PermF.refl (a b : Nat) (σ : Nat → Nat) : PermF a b σ σ := ⟨fun _ _ => rfl, fun i h1 h2 => ⟨i, h1, h2, rfl⟩, fun _ _ => .refl _⟩
theorem PermF.trans {a b : Nat} {σ σ1 σ2 : Nat → Nat} (h : PermF a b σ σ1) (h' : PermF a b σ1 σ2) : PermF a b σ σ2 :=
  ⟨fun i hi => (h'.out i hi).trans (h.out i hi), fun i h1 h2 => by
    obtain ⟨j, h3, h4, h5⟩ := h'.into i h1 h2
    obtain ⟨k, h6, h7, h8⟩ := h.into j h3 h4
    exact ⟨k, h6, h7, h5.trans h8⟩, fun n hn => (h'.all n hn).trans (h.all n hn)⟩
theorem PermF.wide {a b c d : Nat} {σ σ' : Nat → Nat} (h : PermF a b σ σ') (h1 : c ≤ a) (h2 : b ≤ d) : PermF c d σ σ' :=
  ⟨fun i hi => h.out i (by omega), fun i h3 h4 => by
    by_cases hi : a ≤ i ∧ i < b
    · obtain ⟨j, h5, h6, h7⟩ := h.into i hi.1 hi.2
      exact ⟨j, by omega, by omega, h7⟩
    · exact ⟨i, h3, h4, h.out i (by omega)⟩, fun n hn => h.all n (by omega)⟩
theorem swapF_list (σ : Nat → Nat) (n i j : Nat) :
    (List.range n).map (swapF σ i j) = (((List.range n).map σ).set i (σ j)).set j (σ i) := by
  apply List.ext_getElem
  · simp
  · intro k h1 h2
    simp only [List.getElem_map, List.getElem_range, List.getElem_set, swapF]
    repeat' split
    all_goals first | rfl | (exfalso; omega) | (congr 1; omega)
theorem PermF.swap (σ : Nat → Nat) {a b i j : Nat} (hi : a ≤ i ∧ i < b) (hj : a ≤ j ∧ j < b) : PermF a b σ (swapF σ i j) :=
  ⟨fun k hk => by unfold swapF; rw [if_neg (by omega), if_neg (by omega)], fun k h1 h2 => by
    unfold swapF
    by_cases h3 : k = i
    · exact ⟨j, hj.1, hj.2, by rw [if_pos h3]⟩
    · by_cases h4 : k = j
      · exact ⟨i, hi.1, hi.2, by rw [if_neg h3, if_pos h4]⟩
      · exact ⟨k, h1, h2, by rw [if_neg h3, if_neg h4]⟩, fun n hn => by
    rw [swapF_list σ n i j]
    have h1 := @List.set_set_perm _ ((List.range n).map σ) i j (by simp; omega) (by simp; omega)
    simpa using h1⟩
def swapR (σ : Nat → Nat) (a b n k : Nat) : Nat := if a ≤ k ∧ k < a + n then σ (k - a + b) else if b ≤ k ∧ k < b + n then σ (k - b + a) else σ k
theorem swapR_zero (σ : Nat → Nat) (a b : Nat) : swapR σ a b 0 = σ := by
  funext k
  unfold swapR
  repeat' split
  all_goals first | rfl | (exfalso; omega) | (congr 1; omega)
theorem swapR_succ (σ : Nat → Nat) {a b n i : Nat} (h : a + n ≤ b) (hi : i < n) : swapF (swapR σ a b i) (a + i) (b + i) = swapR σ a b (i + 1) := by
  funext k
  unfold swapF swapR
  repeat' split
  all_goals first | rfl | (exfalso; omega) | (congr 1; omega)
theorem swapR_perm (σ : Nat → Nat) {a b n lo hi : Nat} (h : a + n ≤ b) (h1 : lo ≤ a) (h2 : b + n ≤ hi) : PermF lo hi σ (swapR σ a b n) := by
  have : ∀ i, i ≤ n → PermF lo hi σ (swapR σ a b i) := by
    intro i
    induction i with
    | zero => intro _; rw [swapR_zero]; exact .refl _ _ _
    | succ i ih =>
      intro hi'
      rw [← swapR_succ σ h (by omega)]
      exact (ih (by omega)).trans (.swap _ (by omega) (by omega))
  exact this n (Nat.le_refl _)
def rotF (σ : Nat → Nat) (a m b k : Nat) : Nat := if a ≤ k ∧ k < a + (b - m) then σ (k - a + m) else if a + (b - m) ≤ k ∧ k < b then σ (k - (b - m)) else σ k
theorem rotF_same (σ : Nat → Nat) {m i : Nat} (h : i ≤ m) : swapR σ (m - i) m i = rotF σ (m - i) m (m + i) := by
  funext k
  unfold swapR rotF
  repeat' split
  all_goals first | rfl | (exfalso; omega) | (congr 1; omega)
theorem rotF_left (σ : Nat → Nat) {m i j : Nat} (h : i ≤ m) (h2 : j < i) : rotF (swapR σ (m - i) m j) (m - (i - j)) m (m + j) = rotF σ (m - i) m (m + j) := by
  funext k
  unfold rotF swapR
  repeat' split
  all_goals first | rfl | (exfalso; omega) | (congr 1; omega)
theorem rotF_right (σ : Nat → Nat) {m i j : Nat} (h : i ≤ m) (h2 : i < j) : rotF (swapR σ (m - i) (m + j - i) i) (m - i) m (m + (j - i)) = rotF σ (m - i) m (m + j) := by
  funext k
  unfold rotF swapR
  repeat' split
  all_goals first | rfl | (exfalso; omega) | (congr 1; omega)
theorem rotF_none1 (σ : Nat → Nat) {m b : Nat} (h : m ≤ b) : rotF σ m m b = σ := by
  funext k
  unfold rotF
  repeat' split
  all_goals first | rfl | (exfalso; omega) | (congr 1; omega)
theorem rotF_none2 (σ : Nat → Nat) (a m : Nat) : rotF σ a m m = σ := by
  funext k
  unfold rotF
  repeat' split
  all_goals first | rfl | (exfalso; omega) | (congr 1; omega)
def movU (σ : Nat → Nat) (a k j : Nat) : Nat := if a ≤ j ∧ j < k then σ (j + 1) else if j = k then σ a else σ j
def movD (σ : Nat → Nat) (m k j : Nat) : Nat := if k < j ∧ j ≤ m then σ (j - 1) else if j = k then σ m else σ j
theorem movU_zero (σ : Nat → Nat) (a : Nat) : movU σ a a = σ := by
  funext k
  unfold movU
  repeat' split
  all_goals first | rfl | (exfalso; omega) | (congr 1; omega)
theorem movD_zero (σ : Nat → Nat) (m : Nat) : movD σ m m = σ := by
  funext k
  unfold movD
  repeat' split
  all_goals first | rfl | (exfalso; omega) | (congr 1; omega)
theorem movU_succ (σ : Nat → Nat) {a k : Nat} (h : a ≤ k) : swapF (movU σ a k) k (k + 1) = movU σ a (k + 1) := by
  funext k
  unfold swapF movU
  repeat' split
  all_goals first | rfl | (exfalso; omega) | (congr 1; omega)
theorem movD_succ (σ : Nat → Nat) {m k : Nat} (h : k + 1 ≤ m) : swapF (movD σ m (k + 1)) (k + 1) k = movD σ m k := by
  funext k
  unfold swapF movD
  repeat' split
  all_goals first | rfl | (exfalso; omega) | (congr 1; omega)
theorem movU_perm (σ : Nat → Nat) {a k lo hi : Nat} (h : a ≤ k) (h1 : lo ≤ a) (h2 : k < hi) : PermF lo hi σ (movU σ a k) := by
  obtain ⟨d, rfl⟩ : ∃ d, k = a + d := ⟨k - a, by omega⟩
  induction d with
  | zero => rw [Nat.add_zero, movU_zero]; exact .refl _ _ _
  | succ d ih =>
    rw [← Nat.add_assoc, ← movU_succ σ (by omega : a ≤ a + d)]
    exact (ih (by omega) (by omega)).trans (.swap _ (by omega) (by omega))
theorem movD_perm (σ : Nat → Nat) {m k lo hi : Nat} (h : k ≤ m) (h1 : lo ≤ k) (h2 : m < hi) : PermF lo hi σ (movD σ m k) := by
  obtain ⟨d, rfl⟩ : ∃ d, m = k + d := ⟨m - k, by omega⟩
  suffices ∀ e, e ≤ d → PermF lo hi σ (movD σ (k + d) (k + d - e)) by
    have := this d (Nat.le_refl _)
    rwa [show k + d - d = k by omega] at this
  intro e
  induction e with
  | zero => intro _; rw [Nat.sub_zero, movD_zero]; exact .refl _ _ _
  | succ e ih =>
    intro he
    have hs := movD_succ σ (m := k + d) (k := k + d - (e + 1)) (by omega)
    rw [show k + d - (e + 1) + 1 = k + d - e by omega] at hs
    rw [← hs]
    exact (ih (by omega)).trans (.swap _ (by omega) (by omega))
theorem rotF_perm : ∀ (f : Nat) (σ : Nat → Nat) (m i j lo hi : Nat), i + j ≤ f → 0 < i → 0 < j → i ≤ m → lo ≤ m - i → m + j ≤ hi → PermF lo hi σ (rotF σ (m - i) m (m + j))
  | 0, _, _, i, j, _, _, h, h1, h2, _, _, _ => by omega
  | f + 1, σ, m, i, j, lo, hi, h, h1, h2, h3, h4, h5 => by
    rcases Nat.lt_trichotomy i j with h6 | h6 | h6
    · rw [← rotF_right σ h3 h6]
      exact (swapR_perm σ (a := m - i) (b := m + j - i) (n := i) (by omega) h4 (by omega)).trans (rotF_perm f _ m i (j - i) lo hi (by omega) h1 (by omega) h3 h4 (by omega))
    · subst h6
      rw [← rotF_same σ h3]
      exact swapR_perm σ (by omega) h4 h5
    · rw [← rotF_left σ h3 h6]
      exact (swapR_perm σ (a := m - i) (b := m) (n := j) (by omega) h4 h5).trans (rotF_perm f _ m (i - j) j lo hi (by omega) (by omega) h2 (by omega) (by omega) h5)
structure MergIn (K : Nat → Int) (σ : Nat → Nat) (a m b : Nat) : Prop where
  am : a < m
  mb : m < b
  left : SortF K σ a m
  right : SortF K σ m b
  tags : ∀ i j, a ≤ i → i < m → m ≤ j → j < b → σ i < σ j
def MergOut (K : Nat → Int) (σ σ' : Nat → Nat) (a b : Nat) : Prop := PermF a b σ σ' ∧ SortF K σ' a b
theorem merg_one1 {K : Nat → Int} {σ : Nat → Nat} {a b i : Nat} (h : MergIn K σ a (a + 1) b) (h1 : a + 1 ≤ i) (h2 : i ≤ b) (h3 : ∀ x, a + 1 ≤ x → x < i → K (σ x) < K (σ a)) (h4 : ∀ x, i ≤ x → x < b → K (σ a) ≤ K (σ x)) :
    MergOut K σ (movU σ a (i - 1)) a b := by
  refine ⟨movU_perm σ (by omega) (Nat.le_refl _) (by omega), fun x y h5 h6 h7 => ?_⟩
  have ht := h.tags
  have hr := h.right
  unfold movU
  by_cases hx : x < i - 1
  · rw [if_pos (by omega)]
    by_cases hy : y < i - 1
    · rw [if_pos (by omega)]; exact hr _ _ (by omega) (by omega) (by omega)
    · rw [if_neg (by omega)]
      by_cases hy2 : y = i - 1
      · rw [if_pos hy2]; exact .inl (h3 _ (by omega) (by omega))
      · rw [if_neg hy2]; exact hr _ _ (by omega) (by omega) (by omega)
  · rw [if_neg (by omega), if_neg (c := a ≤ y ∧ y < i - 1) (by omega), if_neg (c := y = i - 1) (by omega)]
    by_cases hx2 : x = i - 1
    · rw [if_pos hx2]
      have h8 := h4 y (by omega) h7
      have h9 := ht a y (by omega) (by omega) (by omega) h7
      unfold LexK; omega
    · rw [if_neg hx2]; exact hr _ _ (by omega) h6 h7
theorem merg_one2 {K : Nat → Int} {σ : Nat → Nat} {a m i : Nat} (h : MergIn K σ a m (m + 1)) (h1 : a ≤ i) (h2 : i ≤ m) (h3 : ∀ x, a ≤ x → x < i → K (σ x) ≤ K (σ m)) (h4 : ∀ x, i ≤ x → x < m → K (σ m) < K (σ x)) :
    MergOut K σ (movD σ m i) a (m + 1) := by
  refine ⟨movD_perm σ h2 h1 (by omega), fun x y h5 h6 h7 => ?_⟩
  have ht := h.tags
  have hr := h.left
  unfold movD
  by_cases hx : x < i
  · rw [if_neg (by omega), if_neg (c := x = i) (by omega)]
    by_cases hy : i < y
    · rw [if_pos (by omega)]; exact hr _ _ (by omega) (by omega) (by omega)
    · rw [if_neg (by omega)]
      by_cases hy2 : y = i
      · rw [if_pos hy2]
        have h8 := h3 x h5 hx
        have h9 := ht x m h5 (by omega) (by omega) (by omega)
        unfold LexK; omega
      · rw [if_neg hy2]; exact hr _ _ (by omega) (by omega) (by omega)
  · rw [if_pos (c := i < y ∧ y ≤ m) (by omega)]
    by_cases hx2 : x = i
    · rw [if_neg (by omega), if_pos hx2]; exact .inl (h4 _ (by omega) (by omega))
    · rw [if_pos (by omega)]; exact hr _ _ (by omega) (by omega) (by omega)
structure CutOk (K : Nat → Int) (σ : Nat → Nat) (a m b mid s e : Nat) : Prop where
  as_ : a ≤ s
  sm : s ≤ m
  smid : s ≤ mid
  me : m ≤ e
  eb : e ≤ b
  mide : mid ≤ e
  amid : a < mid
  midb : mid < b
  sum : s + e = mid + m
  cross1 : ∀ i j, a ≤ i → i < s → e ≤ j → j < b → K (σ i) ≤ K (σ j)
  cross2 : ∀ i j, s ≤ i → i < m → m ≤ j → j < e → K (σ j) < K (σ i)
theorem SortF.le {K : Nat → Int} {σ : Nat → Nat} {a b i j : Nat} (h : SortF K σ a b) (h1 : a ≤ i) (h2 : i ≤ j) (h3 : j < b) : K (σ i) ≤ K (σ j) := by
  rcases Nat.lt_or_ge i j with h4 | h4
  · have := h i j h1 h4 h3
    unfold LexK at this
    omega
  · obtain rfl : i = j := by omega
    exact Int.le_refl _
theorem cut_ok {K : Nat → Int} {σ : Nat → Nat} {a m b mid s s0 r0 : Nat} (h : MergIn K σ a m b) (hmid : mid = (a + b) / 2) (h0 : m > mid → s0 + b = mid + m ∧ r0 = mid) (h0' : ¬ m > mid → s0 = a ∧ r0 = m) (h1 : s0 ≤ s) (h2 : s ≤ r0)
    (h3 : ∀ c, s0 ≤ c → c < s → K (σ c) ≤ K (σ (mid + m - 1 - c))) (h4 : ∀ c, s ≤ c → c < r0 → K (σ (mid + m - 1 - c)) < K (σ c)) (h5 : a + 2 ≤ b) : CutOk K σ a m b mid s (mid + m - s) := by
  have ham := h.am
  have hmb := h.mb
  have hl := h.left
  have hr := h.right
  by_cases hm : m > mid
  · obtain ⟨e1, e2⟩ := h0 hm
    refine ⟨by omega, by omega, by omega, by omega, by omega, by omega, by omega, by omega, by omega, fun i j g1 g2 g3 g4 => ?_, fun i j g1 g2 g3 g4 => ?_⟩
    · have k1 := h3 (s - 1) (by omega) (by omega)
      have k2 := hl.le (i := i) (j := s - 1) g1 (by omega) (by omega)
      have k3 := hr.le (i := mid + m - 1 - (s - 1)) (j := j) (by omega) (by omega) g4
      omega
    · have k1 := h4 s (by omega) (by omega)
      have k2 := hl.le (i := s) (j := i) (by omega) (by omega) g2
      have k3 := hr.le (i := j) (j := mid + m - 1 - s) g3 (by omega) (by omega)
      omega
  · obtain ⟨e1, e2⟩ := h0' hm
    refine ⟨by omega, by omega, by omega, by omega, by omega, by omega, by omega, by omega, by omega, fun i j g1 g2 g3 g4 => ?_, fun i j g1 g2 g3 g4 => ?_⟩
    · have k1 := h3 (s - 1) (by omega) (by omega)
      have k2 := hl.le (i := i) (j := s - 1) g1 (by omega) (by omega)
      have k3 := hr.le (i := mid + m - 1 - (s - 1)) (j := j) (by omega) (by omega) g4
      omega
    · have k1 := h4 s (by omega) (by omega)
      have k2 := hl.le (i := s) (j := i) (by omega) (by omega) g2
      have k3 := hr.le (i := j) (j := mid + m - 1 - s) g3 (by omega) (by omega)
      omega
section
variable {K : Nat → Int} {σ σ2 σ3 : Nat → Nat} {a m b mid s e : Nat}
theorem CutOk.rot (h : MergIn K σ a m b) (c : CutOk K σ a m b mid s e) : PermF a b σ (rotF σ s m e) := by
  have := c.as_; have := c.sm; have := c.me; have := c.eb
  by_cases h1 : s = m
  · subst h1; rw [rotF_none1 σ c.me]; exact .refl _ _ _
  · by_cases h2 : m = e
    · subst h2; rw [rotF_none2 σ s m]; exact .refl _ _ _
    · have := rotF_perm (m - s + (e - m)) σ m (m - s) (e - m) a b (Nat.le_refl _) (by omega) (by omega) (by omega) (by omega) (by omega)
      rwa [show m - (m - s) = s by omega, show m + (e - m) = e by omega] at this
theorem CutOk.rot_at (c : CutOk K σ a m b mid s e) (k : Nat) : rotF σ s m e k = if s ≤ k ∧ k < mid then σ (k - s + m) else if mid ≤ k ∧ k < e then σ (k - mid + s) else σ k := by
  have := c.sum; have := c.smid; have := c.me; have := c.sm
  unfold rotF
  rw [show s + (e - m) = mid by omega]
  split
  · rfl
  · split
    · congr 1; omega
    · rfl
theorem CutOk.in1 (h : MergIn K σ a m b) (c : CutOk K σ a m b mid s e) (h1 : a < s) (h2 : s < mid) : MergIn K (rotF σ s m e) a s mid := by
  have := c.sum; have := c.eb; have := c.me; have := c.sm; have := c.mide
  refine ⟨h1, h2, fun i j g1 g2 g3 => ?_, fun i j g1 g2 g3 => ?_, fun i j g1 g2 g3 g4 => ?_⟩
  · rw [c.rot_at, c.rot_at, if_neg (by omega), if_neg (by omega), if_neg (by omega), if_neg (by omega)]
    exact h.left _ _ g1 g2 (by omega)
  · rw [c.rot_at, c.rot_at, if_pos (by omega), if_pos (by omega)]
    exact h.right _ _ (by omega) (by omega) (by omega)
  · rw [c.rot_at, c.rot_at, if_neg (by omega), if_neg (by omega), if_pos (by omega)]
    exact h.tags _ _ g1 (by omega) (by omega) (by omega)
theorem CutOk.in2 (h : MergIn K σ a m b) (c : CutOk K σ a m b mid s e) (hp : PermF a mid (rotF σ s m e) σ2) (h1 : mid < e) (h2 : e < b) : MergIn K σ2 mid e b := by
  have := c.sum; have := c.eb; have := c.me; have := c.sm; have := c.smid; have := c.as_
  refine ⟨h1, h2, fun i j g1 g2 g3 => ?_, fun i j g1 g2 g3 => ?_, fun i j g1 g2 g3 g4 => ?_⟩
  · rw [hp.out _ (.inr g1), hp.out _ (.inr (by omega)), c.rot_at, c.rot_at, if_neg (by omega), if_neg (c := s ≤ j ∧ j < mid) (by omega), if_pos (by omega), if_pos (by omega)]
    exact h.left _ _ (by omega) (by omega) (by omega)
  · rw [hp.out _ (.inr (by omega)), hp.out _ (.inr (by omega)), c.rot_at, c.rot_at, if_neg (by omega), if_neg (by omega), if_neg (c := s ≤ j ∧ j < mid) (by omega), if_neg (c := mid ≤ j ∧ j < e) (by omega)]
    exact h.right _ _ (by omega) g2 g3
  · rw [hp.out _ (.inr g1), hp.out _ (.inr (by omega)), c.rot_at, c.rot_at, if_neg (by omega), if_pos (by omega), if_neg (c := s ≤ j ∧ j < mid) (by omega), if_neg (c := mid ≤ j ∧ j < e) (by omega)]
    exact h.tags _ _ (by omega) (by omega) (by omega) g4
theorem CutOk.done (h : MergIn K σ a m b) (c : CutOk K σ a m b mid s e) (h1 : a < s ∧ s < mid → MergOut K (rotF σ s m e) σ2 a mid) (h1' : ¬ (a < s ∧ s < mid) → σ2 = rotF σ s m e)
    (h2 : mid < e ∧ e < b → MergOut K σ2 σ3 mid b) (h2' : ¬ (mid < e ∧ e < b) → σ3 = σ2) : MergOut K σ σ3 a b := by
  have q1 := c.sum; have q2 := c.eb; have q3 := c.me; have q4 := c.sm; have q5 := c.smid; have q6 := c.as_; have q7 := c.mide; have q8 := c.amid; have q9 := c.midb
  have p1 : PermF a mid (rotF σ s m e) σ2 := by
    by_cases hh : a < s ∧ s < mid
    · exact (h1 hh).1
    · rw [h1' hh]; exact .refl _ _ _
  have p2 : PermF mid b σ2 σ3 := by
    by_cases hh : mid < e ∧ e < b
    · exact (h2 hh).1
    · rw [h2' hh]; exact .refl _ _ _
  have s1 : SortF K σ2 a mid := by
    by_cases hh : a < s ∧ s < mid
    · exact (h1 hh).2
    · rw [h1' hh]
      intro i j g1 g2 g3
      rw [c.rot_at, c.rot_at]
      by_cases k1 : s = mid
      · rw [if_neg (by omega), if_neg (by omega), if_neg (by omega), if_neg (by omega)]
        exact h.left _ _ g1 g2 (by omega)
      · rw [if_pos (by omega), if_pos (by omega)]
        exact h.right _ _ (by omega) (by omega) (by omega)
  have s2 : SortF K σ3 mid b := by
    by_cases hh : mid < e ∧ e < b
    · exact (h2 hh).2
    · rw [h2' hh]
      intro i j g1 g2 g3
      rw [p1.out _ (.inr g1), p1.out _ (.inr (by omega)), c.rot_at, c.rot_at, if_neg (by omega), if_neg (c := s ≤ j ∧ j < mid) (by omega)]
      by_cases k1 : mid = e
      · rw [if_neg (by omega), if_neg (by omega)]
        exact h.right _ _ (by omega) g2 g3
      · rw [if_pos (by omega), if_pos (by omega)]
        exact h.left _ _ (by omega) (by omega) (by omega)
  have cr : ∀ i j, a ≤ i → i < mid → mid ≤ j → j < b → LexK K (rotF σ s m e i) (rotF σ s m e j) := by
    intro i j g1 g2 g3 g4
    rw [c.rot_at, c.rot_at, if_neg (c := s ≤ j ∧ j < mid) (by omega)]
    by_cases k1 : i < s
    · rw [if_neg (by omega), if_neg (by omega)]
      by_cases k2 : j < e
      · rw [if_pos (by omega)]; exact h.left _ _ g1 (by omega) (by omega)
      · rw [if_neg (by omega)]
        have z1 := c.cross1 i j g1 k1 (by omega) g4
        have z2 := h.tags i j g1 (by omega) (by omega) g4
        unfold LexK; omega
    · rw [if_pos (by omega)]
      by_cases k2 : j < e
      · rw [if_pos (by omega)]; exact .inl (c.cross2 _ _ (by omega) (by omega) (by omega) (by omega))
      · rw [if_neg (by omega)]; exact h.right _ _ (by omega) (by omega) g4
  refine ⟨((CutOk.rot h c).trans (p1.wide (Nat.le_refl _) (by omega))).trans (p2.wide (by omega) (Nat.le_refl _)), fun i j g1 g2 g3 => ?_⟩
  by_cases k1 : j < mid
  · rw [p2.out _ (.inl (by omega)), p2.out _ (.inl k1)]; exact s1 _ _ g1 g2 k1
  · by_cases k2 : mid ≤ i
    · exact s2 _ _ k2 g2 g3
    · obtain ⟨i', e1, e2, e3⟩ := p1.into i g1 (by omega)
      obtain ⟨j', e4, e5, e6⟩ := p2.into j (by omega) g3
      rw [p2.out _ (.inl (by omega)), e3, e6, p1.out _ (.inr e4)]
      exact cr _ _ e1 e2 e4 e5
end
structure InBlk (K : Nat → Int) (σ : Nat → Nat) (a b : Nat) : Prop where
  sort : SortF K σ a b
  own : ∀ i, a ≤ i → i < b → a ≤ σ i ∧ σ i < b
theorem InBlk.join {K : Nat → Int} {σ σ' : Nat → Nat} {a m b : Nat} (ham : a ≤ m) (hmb : m ≤ b) (h2 : InBlk K σ a m) (h3 : InBlk K σ m b) (h4 : MergOut K σ σ' a b) : InBlk K σ' a b :=
  ⟨h4.2, fun i g1 g2 => by
    obtain ⟨j, e1, e2, e3⟩ := h4.1.into i g1 g2
    rw [e3]
    by_cases hj : j < m
    · have := h2.own j e1 hj
      omega
    · have := h3.own j (by omega) e2
      omega⟩
theorem InBlk.merg {K : Nat → Int} {σ : Nat → Nat} {a m b : Nat} (h : InBlk K σ a m) (h' : InBlk K σ m b) (h1 : a < m) (h2 : m < b) : MergIn K σ a m b :=
  ⟨h1, h2, h.sort, h'.sort, fun i j g1 g2 g3 g4 => by have := h.own i g1 g2; have := h'.own j g3 g4; omega⟩
theorem InBlk.keep {K : Nat → Int} {σ σ' : Nat → Nat} {a b c d : Nat} (h : InBlk K σ a b) (hp : PermF c d σ σ') (hd : b ≤ c ∨ d ≤ a) : InBlk K σ' a b :=
  ⟨fun i j g1 g2 g3 => by rw [hp.out i (by omega), hp.out j (by omega)]; exact h.sort i j g1 g2 g3, fun i g1 g2 => by rw [hp.out i (by omega)]; exact h.own i g1 g2⟩
theorem InBlk.snoc {K : Nat → Int} {σ : Nat → Nat} {a i j : Nat} (h : InBlk K σ a i) (hi : σ i = i) (h1 : a ≤ j) (h2 : j ≤ i) (h3 : ∀ x, j ≤ x → x < i → K (σ i) < K (σ x)) (h4 : j = a ∨ K (σ (j - 1)) ≤ K (σ i)) : InBlk K (movD σ i j) a (i + 1) := by
  by_cases hai : a = i
  · obtain rfl : j = i := by omega
    subst hai
    rw [movD_zero]
    refine ⟨fun x y g1 g2 g3 => by omega, fun x g1 g2 => ?_⟩
    have : x = a := by omega
    rw [this, hi]
    omega
  have hm : MergIn K σ a i (i + 1) := ⟨by omega, by omega, h.sort, fun x y g1 g2 g3 => by omega, fun x y g1 g2 g3 g4 => by
    obtain rfl : y = i := by omega
    have := h.own x g1 g2
    omega⟩
  have ho := merg_one2 hm h1 h2 (fun x g1 g2 => by
    rcases h4 with h4 | h4
    · omega
    · have := h.sort.le (i := x) (j := j - 1) g1 (by omega) (by omega)
      omega) h3
  refine ⟨ho.2, fun x g1 g2 => ?_⟩
  obtain ⟨y, e1, e2, e3⟩ := ho.1.into x g1 g2
  rw [e3]
  by_cases hy : y < i
  · have := h.own y e1 hy; omega
  · obtain rfl : y = i := by omega
    omega
theorem lex_sorted_eq {K : Nat → Int} {l1 l2 : List Nat} (hp : l1.Perm l2) (h1 : l1.Pairwise (LexK K)) (h2 : l2.Pairwise (LexK K)) : l1 = l2 :=
  hp.eq_of_pairwise (fun x y _ _ g1 g2 => by unfold LexK at g1 g2; omega) h1 h2
end Go.Av

namespace Go.Av
open Go.RowKit
def strF (f : Nat → Bs) (σ : Nat → Nat) (k : Nat) : Value := sv (f (σ k))
theorem strF_swap (n : Nat) (f : Nat → Bs) (σ : Nat → Nat) (i j : Nat) : ((cellsF n (strF f σ)).set i (sv (f (σ j)))).set j (sv (f (σ i))) = cellsF n (strF f (swapF σ i j)) := by
  rw [cellsF_set, cellsF_set]
  unfold cellsF
  apply List.map_congr_left
  intro k _
  unfold strF swapF
  by_cases h1 : k = j
  · rw [if_pos h1]
    by_cases h2 : k = i
    · rw [if_pos h2, ← h1, h2]
    · rw [if_neg h2, if_pos h1]
  · rw [if_neg h1]
    by_cases h2 : k = i
    · rw [if_pos h2, if_pos h2]
    · rw [if_neg h2, if_neg h2, if_neg h1]
theorem i64_idx {x : Int} {k n : Nat} (h : x = (k : Int)) (hk : k < n) (hn : n ≤ 100000) : IntKind.i64.wrap x = x ∧ ((0 ≤ x ∧ x < (n : Int)) = True) ∧ x.toNat = k :=
  ⟨Go.IntWalk.i64_in _ (by omega), eq_true ⟨by omega, by omega⟩, by omega⟩
end Go.Av
namespace Go.Proofs.YtjeaoopamebgjaaGreatDoor
open Go.RowKit Go.Av
section
variable {w0 w : World} {R : List Thing} {rows : List (Value × Bs)} {g off n c : Nat} {f : Nat → Bs} {σ : Nat → Nat}
theorem str_load {W : World} (h : Sep w0 W (ThRow 1 (.slice (some ⟨g, off, none⟩) n c) (cellsF n (strF f σ)) :: R) rows) {i : Nat} (hi : i < n) :
    (Instr.loadAt 9 (.pointer (some ⟨g, off + i, none⟩))).run Tryz.prog W = .ok (strF f σ i) W := by
  obtain ⟨D, hD⟩ := h.fst
  obtain ⟨E, hE, -⟩ := OwnRow.read hD
  exact row_load1 hE (by kernel_rfl) (cellsF_at hi)
set_option maxRecDepth 100000 in
set_option maxHeartbeats 2000000 in
theorem swapRange_any (h : Sep w0 w (ThRow 1 (.slice (some ⟨g, off, none⟩) n c) (cellsF n (strF f σ)) :: R) rows) (a b m : Nat) (fv : Value) (h1 : a + m ≤ b) (h2 : b + m ≤ n) (hn : n ≤ 100000) :
    Calls Tryz.prog 145 #[.slice (some ⟨g, off, none⟩) n c, .int .i64 (a : Int), .int .i64 (b : Int), .int .i64 (m : Int), fv] w fun e w' => e = .returned (.tuple #[]) ∧
      Sep w0 w' (ThRow 1 (.slice (some ⟨g, off, none⟩) n c) (cellsF n (strF f (swapR σ a b m))) :: R) rows := by
  have HX := Lib.hid h
  clear h
  go_enter Tryz.func145, Tryz.ntmps145
  go_wp2_with fail
  go_loopg [10] m (fun k v wr => ∃ i : Nat, i + k = m ∧ v = .int .i64 (i : Int) ∧ Sep w0 wr (ThRow 1 (.slice (some ⟨g, off, none⟩) n c) (cellsF n (strF f (swapR σ a b i))) :: R) rows)
  case atStart => exact ⟨0, by omega, rfl, by rw [swapR_zero]; exact HX.out⟩
  case round =>
    rename World => w
    obtain ⟨i, hik, rfl, hS⟩ := hrel
    clear HX
    have HX := Lib.hid hS
    clear hS
    by_cases hlt : i < m
    case neg =>
      obtain rfl : i = m := by omega
      clear hlt hik
      go_wp2_with fail
      go_end0
      exact ⟨rfl, HX.out⟩
    case pos =>
      have q0 : decide (i < m) = true := decide_eq_true hlt
      obtain ⟨τ, hτ⟩ : ∃ τ, swapR σ a b i = τ := ⟨_, rfl⟩
      rw [hτ] at HX
      have HT := Lib.hid hτ
      clear hτ
      obtain ⟨hn1, hn2, hn3⟩ := i64_idx (x := (a : Int) + (i : Int)) (k := a + i) (n := n) (by omega) (by omega) hn
      obtain ⟨hn4, hn5, hn6⟩ := i64_idx (x := (b : Int) + (i : Int)) (k := b + i) (n := n) (by omega) (by omega) hn
      go_wp2_with fail
      refine wp_region_M (fun W => W = w.drew) 20 (by kernel_rfl) ?_
      replace HX := Lib.hid HX.out.drew
      generalize w.drew = w at HX ⊢
      have hl := str_load HX.out (i := a + i) (by omega)
      have hl2 := str_load HX.out (i := b + i) (by omega)
      refine wpAnyM_take (by kernel_rfl) (by intro c a d v w h; cases d <;> exact h) [(0, false), (1, false), (2, false), (3, false), (4, false), (5, false), (6, false), (7, false), (8, false), (9, false), (10, false), (11, false), (12, false), (13, true), (14, false), (15, false), (16, false), (17, false), (18, false), (19, true)] (fuel := 4) (by kernel_rfl) ?_
      apply Exists.intro; refine ⟨?_, rfl, ?_⟩
      · iterate 20 (first | refine yDp ?_ | ((first | apply yieldP | apply yieldL); (· (simp only [k_i, k_j, k_k]; try rfl)); (· rfl); (· (intros; go_simp; (try simp only [hn1, hn2, hn3, hn4, hn5, hn6, ↓reduceIte, and_self, Int.toNat_natCast]); try with_reducible rfl)); (· (simp only [Act.put, k_a, k_b, k_c, k_d, k_e, k_f, k_g, k_h]; try rfl))))
        exact rfl
      refine wpAnyM_of_any _ _ _ _ (by decide) ?_
      refine wpAny_list [20, 21, 22, 23] (fuel := 0) (by kernel_rfl) ?_
      simp only [List.filterMap_cons, List.filterMap_nil, k_i, k_j, k_k]
      clear hl hl2
      go_step
      go_step
      refine sx_rowSet (i := (a + i)) (v := (strF f τ (b + i))) HX rfl rfl rfl rfl (by kernel_rfl) rfl (by omega) ?_
      clear HX
      intro w HX
      simp only [Act.put, k_a, k_b, k_c] at HX ⊢
      go_step
      go_step
      refine sx_rowSet (i := (b + i)) (v := (strF f τ (a + i))) HX rfl rfl rfl rfl (by kernel_rfl) rfl (by omega) ?_
      clear HX
      intro w HX
      simp only [Act.put, k_a, k_b, k_c] at HX ⊢
      have h3 := HX.out
      rw [show (((cellsF n (strF f τ)).set (a + i) (strF f τ (b + i))).set (b + i) (strF f τ (a + i))) = _ from strF_swap n f τ (a + i) (b + i), ← HT.out, swapR_succ σ h1 hlt] at h3
      have HX := Lib.hid h3
      clear h3
      go_wp2_with fail
      go_roundg (m - (i + 1))
      case rel => exact ⟨i + 1, by omega, by go_num, HX.out⟩
      case measure => omega
set_option maxRecDepth 100000 in
set_option maxHeartbeats 2000000 in
theorem rotate_any (h : Sep w0 w (ThRow 1 (.slice (some ⟨g, off, none⟩) n c) (cellsF n (strF f σ)) :: R) rows) (a m b : Nat) (fv : Value) (h1 : a < m) (h2 : m < b) (h3 : b ≤ n) (hn : n ≤ 100000) :
    Calls Tryz.prog 126 #[.slice (some ⟨g, off, none⟩) n c, .int .i64 (a : Int), .int .i64 (m : Int), .int .i64 (b : Int), fv] w fun e w' => e = .returned (.tuple #[]) ∧
      Sep w0 w' (ThRow 1 (.slice (some ⟨g, off, none⟩) n c) (cellsF n (strF f (rotF σ a m b))) :: R) rows := by
  have HX := Lib.hid h
  clear h
  have e1 : (m : Int) - (a : Int) = ((m - a : Nat) : Int) := by omega
  have e2 : (b : Int) - (m : Int) = ((b - m : Nat) : Int) := by omega
  go_enter Tryz.func126, Tryz.ntmps126
  go_wp2_with fail
  go_loopg [10, 11] (m - a + (b - m)) (fun k v v' wr => ∃ (i j : Nat) (τ : Nat → Nat), i + j = k ∧ v = .int .i64 (i : Int) ∧ v' = .int .i64 (j : Int) ∧ 0 < i ∧ 0 < j ∧ i ≤ m ∧ a ≤ m - i ∧ m + j ≤ b ∧ rotF τ (m - i) m (m + j) = rotF σ a m b ∧
    Sep w0 wr (ThRow 1 (.slice (some ⟨g, off, none⟩) n c) (cellsF n (strF f τ)) :: R) rows)
  case atStart => exact ⟨m - a, b - m, σ, by omega, by go_num, by go_num, by omega, by omega, by omega, by omega, by omega, by rw [show m - (m - a) = a by omega, show m + (b - m) = b by omega], HX.out⟩
  case round =>
    rename World => w
    obtain ⟨i, j, τ, hij, rfl, rfl, hi, hj, him, hai, hjb, hrot, hS⟩ := hrel
    clear HX e1 e2
    have HX := Lib.hid hS
    have HR := Lib.hid hrot
    clear hS hrot
    have e1 : ((m - i : Nat) : Int) = (m : Int) - (i : Int) := by omega
    rcases Nat.lt_trichotomy i j with h4 | h4 | h4
    · have q1 : ((i : Int) != (j : Int)) = true := by rw [bne_iff_ne]; omega
      have q2 : decide (j < i) = false := decide_eq_false (by omega)
      have e2 : ((m + j - i : Nat) : Int) = (m : Int) + (j : Int) - (i : Int) := by omega
      have hc := swapRange_any HX.out (m - i) (m + j - i) i fv (by omega) (by omega) hn
      rw [e1, e2] at hc
      go_wp2_with fail
      refine hc.mono ?_
      rintro e w ⟨rfl, hx⟩
      clear HX
      have HX := Lib.hid hx
      clear hc hx
      go_wp2_with fail
      go_roundg (i + (j - i))
      case rel => exact ⟨i, j - i, _, by omega, by go_num, by go_num, by omega, by omega, by omega, by omega, by omega, by rw [rotF_right τ him h4]; exact HR.out, HX.out⟩
      case measure => omega
    · subst h4
      have q1 : ((i : Int) != (i : Int)) = false := by simp
      have hc := swapRange_any HX.out (m - i) m i fv (by omega) (by omega) hn
      rw [e1] at hc
      go_wp2_with fail
      refine hc.mono ?_
      rintro e w ⟨rfl, hx⟩
      clear HX
      have HX := Lib.hid hx
      clear hc hx
      go_wp2_with fail
      go_end0
      refine ⟨rfl, ?_⟩
      rw [← HR.out, ← rotF_same τ him]
      exact HX.out
    · have q1 : ((i : Int) != (j : Int)) = true := by rw [bne_iff_ne]; omega
      have q2 : decide (j < i) = true := decide_eq_true (by omega)
      have hc := swapRange_any HX.out (m - i) m j fv (by omega) (by omega) hn
      rw [e1] at hc
      go_wp2_with fail
      refine hc.mono ?_
      rintro e w ⟨rfl, hx⟩
      clear HX
      have HX := Lib.hid hx
      clear hc hx
      go_wp2_with fail
      go_roundg (i - j + j)
      case rel => exact ⟨i - j, j, _, by omega, by go_num, by go_num, by omega, by omega, by omega, by omega, by omega, by rw [rotF_left τ him h4]; exact HR.out, HX.out⟩
      case measure => omega
end
end Go.Proofs.YtjeaoopamebgjaaGreatDoor

namespace Go.Av
section
variable {P : Program} {ops : Array Oper} {Q : Exit → Act → World → Prop} {md : Region.Mode} {S : World → Prop}
theorem wpAnyM_skip {N i : Nat} {o : Oper} {fuel : Nat} {listed : Array Bool} {a a' : Act} {w : World} (hr : Region.ready md ops listed = [i]) (ho : ops[i]? = some o) (hw : Region.wanted o (yielded ops a.tmps) = false) (ha : a' = a.put o.dst undef) (hS : S w)
    (h : wpAnyM P md ops Q S N fuel (listed.setIfInBounds i true) a' w) : wpAnyM P md ops Q S N (fuel + 1) listed a w := by
  refine wpAnyM_one hr ho (fun K hK => ?_)
  unfold wpList
  rw [if_neg (by rw [hw]; simp)]
  unfold wpList
  rw [← ha]
  exact hK _ _ hS h
end
end Go.Av

namespace Go.Proofs.YtjeaoopamebgjaaGreatDoor
open Go.RowKit Go.Av
def LessPost (w0 : World) (Ky : Bs → Int) (x y : Bs) (R : List Thing) (rows : List (Value × Bs)) (e : Ending) (w' : World) : Prop :=
  ∃ r : Int, e = .returned (.int .i64 r) ∧ (r < 0 ↔ Ky x < Ky y) ∧ Sep w0 w' R rows
def LessC (w0 : World) (Ky : Bs → Int) (ok : Bs → Prop) : Prop := ∀ (x y : Bs) (w : World) (R : List Thing) (rows : List (Value × Bs)), ok x → ok y → Sep w0 w R rows → Calls Tryz.prog 39 #[sv x, sv y] w (LessPost w0 Ky x y R rows)
abbrev lessV : Value := .func (.func 39) #[] #[]
section
variable {w0 w : World} {R : List Thing} {rows : List (Value × Bs)} {g off n c : Nat} {f : Nat → Bs} {σ : Nat → Nat} {Ky : Bs → Int} {ok : Bs → Prop}
def SortPost (w0 : World) (g off n c : Nat) (f : Nat → Bs) (R : List Thing) (rows : List (Value × Bs)) (X : (Nat → Nat) → Prop) (e : Ending) (w' : World) : Prop :=
  ∃ τ, e = .returned (.tuple #[]) ∧ X τ ∧ Sep w0 w' (ThRow 1 (.slice (some ⟨g, off, none⟩) n c) (cellsF n (strF f τ)) :: R) rows
set_option maxRecDepth 100000 in
set_option maxHeartbeats 4000000 in
theorem insertion_any (hc : LessC w0 Ky ok) (hf : ∀ i, ok (f i)) (h : Sep w0 w (ThRow 1 (.slice (some ⟨g, off, none⟩) n c) (cellsF n (strF f σ)) :: R) rows) (a b : Nat) (h1 : a ≤ b) (h2 : b ≤ n) (hn : n ≤ 100000) (hs : ∀ x, a ≤ x → x < b → σ x = x) :
    Calls Tryz.prog 93 #[.slice (some ⟨g, off, none⟩) n c, .int .i64 (a : Int), .int .i64 (b : Int), lessV] w (SortPost w0 g off n c f R rows fun τ => PermF a b σ τ ∧ InBlk (fun i => Ky (f i)) τ a b) := by
  have HC := Lib.hid hc
  have HF := Lib.hid hf
  have HX := Lib.hid h
  have HS := Lib.hid hs
  clear h hc hf hs
  by_cases hab : a = b
  · subst hab
    have q1 : decide ((a : Int) + 1 < (a : Int)) = false := decide_eq_false (by omega)
    have q1' : decide (a + 1 < a) = false := decide_eq_false (by omega)
    go_enter Tryz.func93, Tryz.ntmps93
    go_wp2_with fail
    refine wp_loop_rounds 1 ?_
    rw [rounds_succ]
    go_wp2_with fail
    go_end0
    exact ⟨σ, rfl, ⟨.refl _ _ _, ⟨fun x y g1 g2 g3 => by omega, fun x g1 g2 => by omega⟩⟩, HX.out⟩
  go_enter Tryz.func93, Tryz.ntmps93
  go_wp2_with fail
  go_loopg [8] (b - (a + 1)) (fun k v wr => ∃ (i : Nat) (τ : Nat → Nat), i + k = b ∧ v = .int .i64 (i : Int) ∧ a < i ∧ PermF a b σ τ ∧ InBlk (fun i => Ky (f i)) τ a i ∧ (∀ x, i ≤ x → x < b → τ x = x) ∧
    Sep w0 wr (ThRow 1 (.slice (some ⟨g, off, none⟩) n c) (cellsF n (strF f τ)) :: R) rows)
  case atStart =>
    refine ⟨a + 1, σ, by omega, by go_num, by omega, .refl _ _ _, ⟨fun x y g1 g2 g3 => by omega, fun x g1 g2 => ?_⟩, fun x g1 g2 => HS.out x (by omega) g2, HX.out⟩
    have := HS.out x g1 (by omega)
    omega
  case round =>
    rename World => w
    obtain ⟨i, τ, hik, rfl, hai, hp, hb, hid, hS⟩ := hrel
    clear HX HS
    have HX := Lib.hid hS
    have HT := Lib.hid (show _ ∧ _ ∧ _ from ⟨hp, hb, hid⟩)
    clear hS hp hb hid
    by_cases hlt : i < b
    case neg =>
      obtain rfl : i = b := by omega
      clear hlt hik
      go_wp2_with fail
      go_end0
      exact ⟨τ, rfl, ⟨HT.out.1, HT.out.2.1⟩, HX.out⟩
    case pos =>
      have q0 : decide (i < b) = true := decide_eq_true hlt
      go_wp2_with fail
      go_loopg [9] (i - a) (fun k v wr => ∃ j : Nat, a + k = j ∧ v = .int .i64 (j : Int) ∧ j ≤ i ∧ (∀ x, j ≤ x → x < i → Ky (f (τ i)) < Ky (f (τ x))) ∧
        Sep w0 wr (ThRow 1 (.slice (some ⟨g, off, none⟩) n c) (cellsF n (strF f (movD τ i j))) :: R) rows)
      case atStart => exact ⟨i, by omega, rfl, Nat.le_refl _, fun x g1 g2 => by omega, by rw [movD_zero]; exact HX.out⟩
      case round =>
        rename World => w
        obtain ⟨j, hjk, rfl, hji, hgt, hS⟩ := hrel
        clear HX
        have HX := Lib.hid hS
        have HG := Lib.hid hgt
        clear hS hgt
        obtain ⟨ρ, hρ⟩ : ∃ ρ, movD τ i j = ρ := ⟨_, rfl⟩
        have hρj : ρ j = τ i := by rw [← hρ]; unfold movD; rw [if_neg (by omega), if_pos rfl]
        rw [hρ] at HX
        have HR := Lib.hid (show _ ∧ _ from ⟨hρ, hρj⟩)
        clear hρ hρj
        by_cases hja : j = a
        · have q1 : decide (a < j) = false := decide_eq_false (by omega)
          go_wp2_with fail
          refine wp_region_M (fun W => W = w.drew) 17 (by kernel_rfl) ?_
          replace HX := Lib.hid HX.out.drew
          generalize w.drew = w at HX ⊢
          refine wpAnyM_take (by kernel_rfl) (by intro c a d v w h; cases d <;> exact h) [(0, false), (1, false), (2, false), (3, false), (4, false), (5, false), (6, false), (7, false), (8, true), (9, false), (10, false), (11, false), (12, false), (13, true)] (fuel := 3) (by kernel_rfl) ?_
          apply Exists.intro; refine ⟨?_, rfl, ?_⟩
          · iterate 14 (refine yDp ?_)
            exact rfl
          apply wpAnyM_skip (fuel := 2) (i := 14)
          · kernel_rfl
          · simp only [k_i, k_j, k_k]; try rfl
          · rfl
          · simp only [Act.put, k_a, k_b, k_c]; try rfl
          · exact rfl
          refine wpAnyM_take (by kernel_rfl) (by intro c a d v w h; cases d <;> exact h) [(15, false), (16, false)] (fuel := 0) (by kernel_rfl) ?_
          apply Exists.intro; refine ⟨?_, rfl, ?_⟩
          · iterate 2 (refine yDp ?_)
            exact rfl
          refine wpAnyM_done (by kernel_rfl) ?_ _
          go_wp2_with fail
          go_roundg (b - (i + 1))
          case rel =>
            (refine ⟨i + 1, movD τ i j, by omega, by go_num, by omega, HT.out.1.trans (movD_perm τ hji (by omega) (by omega)), HT.out.2.1.snoc (HT.out.2.2 i (Nat.le_refl _) hlt) (by omega) hji HG.out (.inl hja), fun x g1 g2 => ?_, by rw [HR.out.1]; exact HX.out⟩; unfold movD; rw [if_neg (by omega), if_neg (by omega)]; exact HT.out.2.2 x (by omega) g2)
          case measure => omega
        · have q1 : decide (a < j) = true := decide_eq_true (by omega)
          have hj1 : ρ (j - 1) = τ (j - 1) := by rw [← HR.out.1]; unfold movD; rw [if_neg (by omega), if_neg (by omega)]
          have HJ := Lib.hid hj1
          clear hj1
          obtain ⟨hn1, hn2, hn3⟩ := i64_idx (x := (j : Int) - 1) (k := j - 1) (n := n) (by omega) (by omega) hn
          have hn4 : (j < n) = True := eq_true (by omega)
          have hn5 : (1 ≤ (j : Int) ∧ (j : Int) - 1 < (n : Int)) = True := eq_true (by omega)
          go_wp2_with fail
          refine wp_region_M (fun W => Sep w0 W (ThRow 1 (.slice (some ⟨g, off, none⟩) n c) (cellsF n (strF f ρ)) :: R) rows) 17 (by kernel_rfl) ?_
          have KEEPX : ∀ W, Sep w0 W (ThRow 1 (.slice (some ⟨g, off, none⟩) n c) (cellsF n (strF f ρ)) :: R) rows → Sep w0 W (ThRow 1 (.slice (some ⟨g, off, none⟩) n c) (cellsF n (strF f ρ)) :: R) rows := fun _ h => h
          have hl : ∀ W, Sep w0 W (ThRow 1 (.slice (some ⟨g, off, none⟩) n c) (cellsF n (strF f ρ)) :: R) rows → _ := fun W hW => str_load (i := j) hW (by omega)
          have hl2 : ∀ W, Sep w0 W (ThRow 1 (.slice (some ⟨g, off, none⟩) n c) (cellsF n (strF f ρ)) :: R) rows → _ := fun W hW => str_load (i := j - 1) hW (by omega)
          replace HX := Lib.hid HX.out.drew
          refine wpAnyM_take (by kernel_rfl) (by intro c a d v w h; cases d <;> exact h) [(0, false), (1, false), (2, false), (3, false), (4, false), (5, false), (6, false), (7, false), (8, true), (9, false), (10, false), (11, false), (12, false), (13, true)] (fuel := 3) (by kernel_rfl) ?_
          apply Exists.intro; refine ⟨?_, HX.out, ?_⟩
          · iterate 14 (first | refine yEp ?_ | ((first | apply yieldP | apply yieldL); (· (simp only [k_i, k_j, k_k]; try rfl)); (· rfl); (· (intros; go_simp; (try simp only [hn1, hn2, hn3, hn4, hn5, ↓reduceIte, and_self, Int.toNat_natCast]); try with_reducible rfl)); (· (simp only [Act.put, k_a, k_b, k_c, k_d, k_e, k_f, k_g, k_h]; try rfl))))
            exact rfl
          clear hl hl2
          refine wpAnyM_one (fuel := 2) (i := 14) (by kernel_rfl) (by (simp only [k_i, k_j, k_k]; try rfl)) (fun K hK => ?_)
          go_wp2_with fail
          refine (HC.out (f (ρ j)) (f (ρ (j - 1))) _ _ _ (HF.out _) (HF.out _) HX.out).mono ?_
          rintro e w ⟨r, rfl, hr, hx⟩
          clear HX
          have HX := Lib.hid hx
          clear hx
          rw [HR.out.2, HJ.out] at hr
          go_wp2_with fail
          refine hK _ _ HX.out ?_
          clear hK hn1 hn2 hn3 hn4 hn5
          by_cases hr0 : r < 0
          · have q2 : decide (r < 0) = true := decide_eq_true hr0
            have hr := hr.1 hr0
            refine wpAnyM_take (by kernel_rfl) (by intro c a d v w h; cases d <;> exact h) [(15, false), (16, false)] (fuel := 0) (by kernel_rfl) ?_
            apply Exists.intro; refine ⟨?_, HX.out, ?_⟩
            · iterate 2 (first | refine yEp ?_ | ((first | apply yieldP | apply yieldL); (· (simp only [k_i, k_j, k_k]; try rfl)); (· rfl); (· (intros; go_simp; (try simp only [hn1, hn2, hn3, hn4, hn5, ↓reduceIte, and_self, Int.toNat_natCast]); try with_reducible rfl)); (· (simp only [Act.put, k_a, k_b, k_c, k_d, k_e, k_f, k_g, k_h]; try rfl))))
              exact rfl
            refine wpAnyM_done (by kernel_rfl) ?_ _
            obtain ⟨hn1, hn2, hn3⟩ := i64_idx (x := (j : Int) - 1) (k := j - 1) (n := n) (by omega) (by omega) hn
            have hn4 : (j < n) = True := eq_true (by omega)
            have hn5 : (1 ≤ (j : Int) ∧ (j : Int) - 1 < (n : Int)) = True := eq_true (by omega)
            go_wp2_with fail
            refine wp_region_M (fun W => W = w.drew) 14 (by kernel_rfl) ?_
            replace HX := Lib.hid HX.out.drew
            generalize w.drew = w at HX ⊢
            have hl := str_load HX.out (i := j) (by omega)
            have hl2 := str_load HX.out (i := j - 1) (by omega)
            refine wpAnyM_take (by kernel_rfl) (by intro c a d v w h; cases d <;> exact h) [(0, false), (1, false), (2, false), (3, false), (4, false), (5, false), (6, false), (7, false), (8, false), (9, true), (10, false), (11, false), (12, false), (13, true)] (fuel := 4) (by kernel_rfl) ?_
            apply Exists.intro; refine ⟨?_, rfl, ?_⟩
            · iterate 14 (first | refine yDp ?_ | ((first | apply yieldP | apply yieldL); (· (simp only [k_i, k_j, k_k]; try rfl)); (· rfl); (· (intros; go_simp; (try simp only [hn1, hn2, hn3, hn4, hn5, ↓reduceIte, and_self, Int.toNat_natCast]); try with_reducible rfl)); (· (simp only [Act.put, k_a, k_b, k_c, k_d, k_e, k_f, k_g, k_h]; try rfl))))
              exact rfl
            refine wpAnyM_of_any _ _ _ _ (by decide) ?_
            refine wpAny_list [14, 15, 16, 17] (fuel := 0) (by kernel_rfl) ?_
            simp only [List.filterMap_cons, List.filterMap_nil, k_i, k_j, k_k]
            clear hl hl2
            go_step
            go_step
            refine sx_rowSet (i := j) (v := (strF f ρ (j - 1))) HX rfl rfl rfl rfl (by kernel_rfl) rfl (by omega) ?_
            clear HX
            intro w HX
            simp only [Act.put, k_a, k_b, k_c] at HX ⊢
            go_step
            go_step
            refine sx_rowSet (i := (j - 1)) (v := (strF f ρ j)) HX rfl rfl rfl rfl (by kernel_rfl) rfl (by omega) ?_
            clear HX
            intro w HX
            simp only [Act.put, k_a, k_b, k_c] at HX ⊢
            have h3 := HX.out
            have hms := movD_succ τ (m := i) (k := j - 1) (by omega)
            rw [show j - 1 + 1 = j by omega, HR.out.1] at hms
            rw [show (((cellsF n (strF f ρ)).set j (strF f ρ (j - 1))).set (j - 1) (strF f ρ j)) = _ from strF_swap n f ρ j (j - 1), hms] at h3
            have HX := Lib.hid h3
            clear h3
            go_wp2_with fail
            go_roundg (j - 1 - a)
            case rel =>
              refine ⟨j - 1, by omega, by go_num, by omega, fun x g1 g2 => ?_, HX.out⟩
              by_cases hx : x = j - 1
              · rw [hx]; exact hr
              · exact HG.out x (by omega) g2
            case measure => omega
          · have q2 : decide (r < 0) = false := decide_eq_false hr0
            have hr : ¬ Ky (f (τ i)) < Ky (f (τ (j - 1))) := fun hh => hr0 (hr.2 hh)
            refine wpAnyM_take (by kernel_rfl) (by intro c a d v w h; cases d <;> exact h) [(15, false), (16, false)] (fuel := 0) (by kernel_rfl) ?_
            apply Exists.intro; refine ⟨?_, HX.out, ?_⟩
            · iterate 2 (first | refine yEp ?_ | ((first | apply yieldP | apply yieldL); (· (simp only [k_i, k_j, k_k]; try rfl)); (· rfl); (· (intros; go_simp; (try simp only [hn1, hn2, hn3, hn4, hn5, ↓reduceIte, and_self, Int.toNat_natCast]); try with_reducible rfl)); (· (simp only [Act.put, k_a, k_b, k_c, k_d, k_e, k_f, k_g, k_h]; try rfl))))
              exact rfl
            refine wpAnyM_done (by kernel_rfl) ?_ _
            go_wp2_with fail
            go_roundg (b - (i + 1))
            case rel =>
              (refine ⟨i + 1, movD τ i j, by omega, by go_num, by omega, HT.out.1.trans (movD_perm τ hji (by omega) (by omega)), HT.out.2.1.snoc (HT.out.2.2 i (Nat.le_refl _) hlt) (by omega) hji HG.out (.inr (by show Ky (f (τ (j - 1))) ≤ Ky (f (τ i)); omega)), fun x g1 g2 => ?_, by rw [HR.out.1]; exact HX.out⟩; unfold movD; rw [if_neg (by omega), if_neg (by omega)]; exact HT.out.2.2 x (by omega) g2)
            case measure => omega
end
end Go.Proofs.YtjeaoopamebgjaaGreatDoor

namespace Go.Proofs.YtjeaoopamebgjaaGreatDoor
open Go.RowKit Go.Av
section
variable {w0 : World} {R : List Thing} {rows : List (Value × Bs)} {g off n c : Nat} {f : Nat → Bs} {Ky : Bs → Int} {ok : Bs → Prop}
def SymC (w0 : World) (g off n c : Nat) (f : Nat → Bs) (Ky : Bs → Int) (R : List Thing) (rows : List (Value × Bs)) (L : Nat) : Prop :=
  ∀ (w : World) (σ : Nat → Nat) (a m b : Nat), b - a ≤ L → b ≤ n → MergIn (fun i => Ky (f i)) σ a m b → Sep w0 w (ThRow 1 (.slice (some ⟨g, off, none⟩) n c) (cellsF n (strF f σ)) :: R) rows →
    Calls Tryz.prog 94 #[.slice (some ⟨g, off, none⟩) n c, .int .i64 (a : Int), .int .i64 (m : Int), .int .i64 (b : Int), lessV] w (SortPost w0 g off n c f R rows fun τ => MergOut (fun i => Ky (f i)) σ τ a b)
set_option maxRecDepth 100000 in
set_option maxHeartbeats 8000000 in
theorem sym_one1 (hc : LessC w0 Ky ok) (hf : ∀ i, ok (f i)) (hn : n ≤ 100000) (w : World) (σ : Nat → Nat) (a b : Nat) (hbn : b ≤ n) (hm : MergIn (fun i => Ky (f i)) σ a (a + 1) b) (h : Sep w0 w (ThRow 1 (.slice (some ⟨g, off, none⟩) n c) (cellsF n (strF f σ)) :: R) rows) :
    Calls Tryz.prog 94 #[.slice (some ⟨g, off, none⟩) n c, .int .i64 (a : Int), .int .i64 ((a : Int) + 1), .int .i64 (b : Int), lessV] w (SortPost w0 g off n c f R rows fun τ => MergOut (fun i => Ky (f i)) σ τ a b) := by
  have HC := Lib.hid hc
  have HF := Lib.hid hf
  have HX := Lib.hid h
  have HM := Lib.hid hm
  have hmb := hm.mb
  clear h hc hf hm
  have q1 : (((a : Int) + 1 - (a : Int)) == 1) = true := by rw [beq_iff_eq]; omega
  go_enter Tryz.func94, Tryz.ntmps94
  go_wp2_with fail
  go_loopg [10, 11] (b - (a + 1)) (fun k v v' wr => ∃ (i j : Nat), i + k = j ∧ v = .int .i64 (i : Int) ∧ v' = .int .i64 (j : Int) ∧ a + 1 ≤ i ∧ j ≤ b ∧ (∀ x, a + 1 ≤ x → x < i → Ky (f (σ x)) < Ky (f (σ a))) ∧ (∀ x, j ≤ x → x < b → Ky (f (σ a)) ≤ Ky (f (σ x))) ∧
    Sep w0 wr (ThRow 1 (.slice (some ⟨g, off, none⟩) n c) (cellsF n (strF f σ)) :: R) rows)
  case atStart => exact ⟨a + 1, b, by omega, by go_num, by go_num, by omega, by omega, fun x g1 g2 => by omega, fun x g1 g2 => by omega, HX.out⟩
  case round =>
    rename World => w
    obtain ⟨i, j, hij, rfl, rfl, hi, hj, h3, h4, hS⟩ := hrel
    clear HX
    have HX := Lib.hid hS
    have HG := Lib.hid (show _ ∧ _ from ⟨h3, h4⟩)
    clear hS h3 h4
    by_cases hlt : i < j
    case neg =>
      obtain rfl : i = j := by omega
      have q0 : decide (i < i) = false := decide_eq_false (by omega)
      clear hlt hij
      go_wp2_with fail
      go_loopg [13] (i - 1 - a) (fun k v wr => ∃ (x : Nat), x + k = i - 1 ∧ v = .int .i64 (x : Int) ∧ a ≤ x ∧ Sep w0 wr (ThRow 1 (.slice (some ⟨g, off, none⟩) n c) (cellsF n (strF f (movU σ a x))) :: R) rows)
      case atStart => exact ⟨a, by omega, by go_num, by omega, by rw [movU_zero]; exact HX.out⟩
      case round =>
        rename World => w
        obtain ⟨x, hxk, rfl, hax, hS⟩ := hrel
        clear HX
        have HX := Lib.hid hS
        clear hS
        by_cases hxi : x < i - 1
        case neg =>
          obtain rfl : x = i - 1 := by omega
          have q2 : decide (((i - 1 : Nat) : Int) < (i : Int) - 1) = false := decide_eq_false (by omega)
          have q3 : decide (((i - 1 : Nat) : Int) + 1 < (i : Int)) = false := decide_eq_false (by omega)
          have q4 : decide ((i - 1 : Nat) < i - 1) = false := decide_eq_false (by omega)
          go_wp2_with fail
          go_end0
          exact ⟨_, rfl, merg_one1 HM.out hi hj HG.out.1 HG.out.2, HX.out⟩
        case pos =>
          have q2 : decide ((x : Int) < (i : Int) - 1) = true := decide_eq_true (by omega)
          obtain ⟨hn1, hn2, hn3⟩ := i64_idx (x := (x : Int) + 1) (k := x + 1) (n := n) (by omega) (by omega) hn
          have hn4 : (x < n) = True := eq_true (by omega)
          obtain ⟨ρ, hρ⟩ : ∃ ρ, movU σ a x = ρ := ⟨_, rfl⟩
          rw [hρ] at HX
          have HR := Lib.hid hρ
          clear hρ
          go_wp2_with fail
          refine wp_region_M (fun W => W = w.drew) 14 (by kernel_rfl) ?_
          replace HX := Lib.hid HX.out.drew
          generalize w.drew = w at HX ⊢
          have hl := str_load HX.out (i := x) (by omega)
          have hl2 := str_load HX.out (i := x + 1) (by omega)
          refine wpAnyM_take (by kernel_rfl) (by intro c a d v w h; cases d <;> exact h) [(0, false), (1, false), (2, false), (3, false), (4, false), (5, false), (6, false), (7, false), (8, false), (9, true), (10, false), (11, false), (12, false), (13, true)] (fuel := 4) (by kernel_rfl) ?_
          apply Exists.intro; refine ⟨?_, rfl, ?_⟩
          · iterate 14 (first | refine yDp ?_ | ((first | apply yieldP | apply yieldL); (· (simp only [k_i, k_j, k_k]; try rfl)); (· rfl); (· (intros; go_simp; (try simp only [hn1, hn2, hn3, hn4, ↓reduceIte, and_self, Int.toNat_natCast]); try with_reducible rfl)); (· (simp only [Act.put, k_a, k_b, k_c, k_d, k_e, k_f, k_g, k_h]; try rfl))))
            exact rfl
          refine wpAnyM_of_any _ _ _ _ (by decide) ?_
          refine wpAny_list [14, 15, 16, 17] (fuel := 0) (by kernel_rfl) ?_
          simp only [List.filterMap_cons, List.filterMap_nil, k_i, k_j, k_k]
          clear hl hl2
          go_step
          go_step
          refine sx_rowSet (i := x) (v := (strF f ρ (x + 1))) HX rfl rfl rfl rfl (by kernel_rfl) rfl (by omega) ?_
          clear HX
          intro w HX
          simp only [Act.put, k_a, k_b, k_c] at HX ⊢
          go_step
          go_step
          refine sx_rowSet (i := (x + 1)) (v := (strF f ρ x)) HX rfl rfl rfl rfl (by kernel_rfl) rfl (by omega) ?_
          clear HX
          intro w HX
          simp only [Act.put, k_a, k_b, k_c] at HX ⊢
          have h3 := HX.out
          have hms := movU_succ σ hax
          rw [HR.out] at hms
          rw [show (((cellsF n (strF f ρ)).set x (strF f ρ (x + 1))).set (x + 1) (strF f ρ x)) = _ from strF_swap n f ρ x (x + 1), hms] at h3
          have HX := Lib.hid h3
          clear h3
          go_wp2_with fail
          go_roundg (i - 1 - (x + 1))
          case rel => exact ⟨x + 1, by omega, by go_num, by omega, HX.out⟩
          case measure => omega
    case pos =>
      have q0 : decide (i < j) = true := decide_eq_true hlt
      obtain ⟨hn1, hn2, hn3⟩ := i64_idx (x := ((i : Int) + (j : Int)) / 2) (k := (i + j) / 2) (n := n) (by omega) (by omega) hn
      have hn4 : (a < n) = True := eq_true (by omega)
      go_wp2_with fail
      refine wp_region_M (fun W => Sep w0 W (ThRow 1 (.slice (some ⟨g, off, none⟩) n c) (cellsF n (strF f σ)) :: R) rows) 11 (by kernel_rfl) ?_
      have KEEPX : ∀ W, Sep w0 W (ThRow 1 (.slice (some ⟨g, off, none⟩) n c) (cellsF n (strF f σ)) :: R) rows → Sep w0 W (ThRow 1 (.slice (some ⟨g, off, none⟩) n c) (cellsF n (strF f σ)) :: R) rows := fun _ h => h
      have hl : ∀ W, Sep w0 W (ThRow 1 (.slice (some ⟨g, off, none⟩) n c) (cellsF n (strF f σ)) :: R) rows → _ := fun W hW => str_load (i := (i + j) / 2) hW (by omega)
      have hl2 : ∀ W, Sep w0 W (ThRow 1 (.slice (some ⟨g, off, none⟩) n c) (cellsF n (strF f σ)) :: R) rows → _ := fun W hW => str_load (i := a) hW (by omega)
      replace HX := Lib.hid HX.out.drew
      refine wpAnyM_take (by kernel_rfl) (by intro c a d v w h; cases d <;> exact h) [(0, false), (1, false), (2, false), (3, false), (4, true), (5, false), (6, false), (7, false), (8, true)] (fuel := 2) (by kernel_rfl) ?_
      apply Exists.intro; refine ⟨?_, HX.out, ?_⟩
      · iterate 9 (first | refine yEp ?_ | ((first | apply yieldP | apply yieldL); (· (simp only [k_i, k_j, k_k]; try rfl)); (· rfl); (· (intros; go_simp; (try simp only [hn1, hn2, hn3, hn4, ↓reduceIte, and_self, Int.toNat_natCast]); try with_reducible rfl)); (· (simp only [Act.put, k_a, k_b, k_c, k_d, k_e, k_f, k_g, k_h]; try rfl))))
        exact rfl
      clear hl hl2
      refine wpAnyM_one (fuel := 1) (i := 9) (by kernel_rfl) (by (simp only [k_i, k_j, k_k]; try rfl)) (fun K hK => ?_)
      go_wp2_with fail
      refine (HC.out (f (σ ((i + j) / 2))) (f (σ a)) _ _ _ (HF.out _) (HF.out _) HX.out).mono ?_
      rintro e w ⟨r, rfl, hr, hx⟩
      clear HX
      have HX := Lib.hid hx
      clear hx
      go_wp2_with fail
      refine hK _ _ HX.out ?_
      clear hK hn1 hn2 hn3 hn4
      by_cases hr0 : r < 0
      · have q2 : decide (r < 0) = true := decide_eq_true hr0
        have hr := hr.1 hr0
        refine wpAnyM_take (by kernel_rfl) (by intro c a d v w h; cases d <;> exact h) [(10, false)] (fuel := 0) (by kernel_rfl) ?_
        apply Exists.intro; refine ⟨?_, HX.out, ?_⟩
        · iterate 1 (first | refine yEp ?_ | ((first | apply yieldP | apply yieldL); (· (simp only [k_i, k_j, k_k]; try rfl)); (· rfl); (· (intros; go_simp; (try simp only [hn1, hn2, hn3, hn4, ↓reduceIte, and_self, Int.toNat_natCast]); try with_reducible rfl)); (· (simp only [Act.put, k_a, k_b, k_c, k_d, k_e, k_f, k_g, k_h]; try rfl))))
          exact rfl
        refine wpAnyM_done (by kernel_rfl) ?_ _
        go_wp2_with fail
        go_roundg (j - ((i + j) / 2 + 1))
        case rel => exact ⟨(i + j) / 2 + 1, j, by omega, by go_num, rfl, by omega, by omega, fun x g1 g2 => by
          have := HM.out.right.le (i := x) (j := (i + j) / 2) g1 (by omega) (by omega)
          have this : Ky (f (σ x)) ≤ Ky (f (σ ((i + j) / 2))) := this
          omega, HG.out.2, HX.out⟩
        case measure => omega
      · have q2 : decide (r < 0) = false := decide_eq_false hr0
        have hr : ¬ Ky (f (σ ((i + j) / 2))) < Ky (f (σ a)) := fun hh => hr0 (hr.2 hh)
        refine wpAnyM_take (by kernel_rfl) (by intro c a d v w h; cases d <;> exact h) [(10, false)] (fuel := 0) (by kernel_rfl) ?_
        apply Exists.intro; refine ⟨?_, HX.out, ?_⟩
        · iterate 1 (first | refine yEp ?_ | ((first | apply yieldP | apply yieldL); (· (simp only [k_i, k_j, k_k]; try rfl)); (· rfl); (· (intros; go_simp; (try simp only [hn1, hn2, hn3, hn4, ↓reduceIte, and_self, Int.toNat_natCast]); try with_reducible rfl)); (· (simp only [Act.put, k_a, k_b, k_c, k_d, k_e, k_f, k_g, k_h]; try rfl))))
          exact rfl
        refine wpAnyM_done (by kernel_rfl) ?_ _
        go_wp2_with fail
        go_roundg ((i + j) / 2 - i)
        case rel => exact ⟨i, (i + j) / 2, by omega, rfl, by go_num, by omega, by omega, HG.out.1, fun x g1 g2 => by
          have := HM.out.right.le (i := (i + j) / 2) (j := x) (by omega) g1 g2
          have this : Ky (f (σ ((i + j) / 2))) ≤ Ky (f (σ x)) := this
          omega, HX.out⟩
        case measure => omega
set_option maxRecDepth 100000 in
set_option maxHeartbeats 8000000 in
theorem sym_one2 (hc : LessC w0 Ky ok) (hf : ∀ i, ok (f i)) (hn : n ≤ 100000) (w : World) (σ : Nat → Nat) (a m : Nat) (hbn : m + 1 ≤ n) (ha1 : a + 1 < m) (hm : MergIn (fun i => Ky (f i)) σ a m (m + 1)) (h : Sep w0 w (ThRow 1 (.slice (some ⟨g, off, none⟩) n c) (cellsF n (strF f σ)) :: R) rows) :
    Calls Tryz.prog 94 #[.slice (some ⟨g, off, none⟩) n c, .int .i64 (a : Int), .int .i64 (m : Int), .int .i64 ((m : Int) + 1), lessV] w (SortPost w0 g off n c f R rows fun τ => MergOut (fun i => Ky (f i)) σ τ a (m + 1)) := by
  have HC := Lib.hid hc
  have HF := Lib.hid hf
  have HX := Lib.hid h
  have HM := Lib.hid hm
  clear h hc hf hm
  have q1 : (((m : Int) - (a : Int)) == 1) = false := by rw [beq_eq_false_iff_ne]; omega
  have q1' : (((m : Int) + 1 - (m : Int)) == 1) = true := by rw [beq_iff_eq]; omega
  go_enter Tryz.func94, Tryz.ntmps94
  go_wp2_with fail
  go_loopg [14, 15] (m - a) (fun k v v' wr => ∃ (i j : Nat), i + k = j ∧ v = .int .i64 (i : Int) ∧ v' = .int .i64 (j : Int) ∧ a ≤ i ∧ j ≤ m ∧ (∀ x, a ≤ x → x < i → Ky (f (σ x)) ≤ Ky (f (σ m))) ∧ (∀ x, j ≤ x → x < m → Ky (f (σ m)) < Ky (f (σ x))) ∧
    Sep w0 wr (ThRow 1 (.slice (some ⟨g, off, none⟩) n c) (cellsF n (strF f σ)) :: R) rows)
  case atStart => exact ⟨a, m, by omega, by go_num, by go_num, by omega, by omega, fun x g1 g2 => by omega, fun x g1 g2 => by omega, HX.out⟩
  case round =>
    rename World => w
    obtain ⟨i, j, hij, rfl, rfl, hi, hj, h3, h4, hS⟩ := hrel
    clear HX
    have HX := Lib.hid hS
    have HG := Lib.hid (show _ ∧ _ from ⟨h3, h4⟩)
    clear hS h3 h4
    by_cases hlt : i < j
    case neg =>
      obtain rfl : i = j := by omega
      have q0 : decide (i < i) = false := decide_eq_false (by omega)
      clear hlt hij
      go_wp2_with fail
      go_loopg [17] (m - i) (fun k v wr => ∃ (x : Nat), i + k = x ∧ v = .int .i64 (x : Int) ∧ x ≤ m ∧ Sep w0 wr (ThRow 1 (.slice (some ⟨g, off, none⟩) n c) (cellsF n (strF f (movD σ m x))) :: R) rows)
      case atStart => exact ⟨m, by omega, by go_num, by omega, by rw [movD_zero]; exact HX.out⟩
      case round =>
        rename World => w
        obtain ⟨x, hxk, rfl, hax, hS⟩ := hrel
        clear HX
        have HX := Lib.hid hS
        clear hS
        by_cases hxi : i < x
        case neg =>
          obtain rfl : x = i := by omega
          have q2 : decide (x < x) = false := decide_eq_false (by omega)
          go_wp2_with fail
          go_end0
          exact ⟨_, rfl, merg_one2 HM.out hi hj HG.out.1 HG.out.2, HX.out⟩
        case pos =>
          have q2 : decide (i < x) = true := decide_eq_true (by omega)
          obtain ⟨hn1, hn2, hn3⟩ := i64_idx (x := (x : Int) - 1) (k := x - 1) (n := n) (by omega) (by omega) hn
          have hn4 : (x < n) = True := eq_true (by omega)
          have hn5 : (1 ≤ (x : Int) ∧ (x : Int) - 1 < (n : Int)) = True := eq_true (by omega)
          obtain ⟨ρ, hρ⟩ : ∃ ρ, movD σ m x = ρ := ⟨_, rfl⟩
          rw [hρ] at HX
          have HR := Lib.hid hρ
          clear hρ
          go_wp2_with fail
          refine wp_region_M (fun W => W = w.drew) 14 (by kernel_rfl) ?_
          replace HX := Lib.hid HX.out.drew
          generalize w.drew = w at HX ⊢
          have hl := str_load HX.out (i := x) (by omega)
          have hl2 := str_load HX.out (i := x - 1) (by omega)
          refine wpAnyM_take (by kernel_rfl) (by intro c a d v w h; cases d <;> exact h) [(0, false), (1, false), (2, false), (3, false), (4, false), (5, false), (6, false), (7, false), (8, false), (9, true), (10, false), (11, false), (12, false), (13, true)] (fuel := 4) (by kernel_rfl) ?_
          apply Exists.intro; refine ⟨?_, rfl, ?_⟩
          · iterate 14 (first | refine yDp ?_ | ((first | apply yieldP | apply yieldL); (· (simp only [k_i, k_j, k_k]; try rfl)); (· rfl); (· (intros; go_simp; (try simp only [hn1, hn2, hn3, hn4, hn5, ↓reduceIte, and_self, Int.toNat_natCast]); try with_reducible rfl)); (· (simp only [Act.put, k_a, k_b, k_c, k_d, k_e, k_f, k_g, k_h]; try rfl))))
            exact rfl
          refine wpAnyM_of_any _ _ _ _ (by decide) ?_
          refine wpAny_list [14, 15, 16, 17] (fuel := 0) (by kernel_rfl) ?_
          simp only [List.filterMap_cons, List.filterMap_nil, k_i, k_j, k_k]
          clear hl hl2
          go_step
          go_step
          refine sx_rowSet (i := x) (v := (strF f ρ (x - 1))) HX rfl rfl rfl rfl (by kernel_rfl) rfl (by omega) ?_
          clear HX
          intro w HX
          simp only [Act.put, k_a, k_b, k_c] at HX ⊢
          go_step
          go_step
          refine sx_rowSet (i := (x - 1)) (v := (strF f ρ x)) HX rfl rfl rfl rfl (by kernel_rfl) rfl (by omega) ?_
          clear HX
          intro w HX
          simp only [Act.put, k_a, k_b, k_c] at HX ⊢
          have h3 := HX.out
          have hms := movD_succ σ (m := m) (k := x - 1) (by omega)
          rw [show x - 1 + 1 = x by omega, HR.out] at hms
          rw [show (((cellsF n (strF f ρ)).set x (strF f ρ (x - 1))).set (x - 1) (strF f ρ x)) = _ from strF_swap n f ρ x (x - 1), hms] at h3
          have HX := Lib.hid h3
          clear h3
          go_wp2_with fail
          go_roundg (x - 1 - i)
          case rel => exact ⟨x - 1, by omega, by go_num, by omega, HX.out⟩
          case measure => omega
    case pos =>
      have q0 : decide (i < j) = true := decide_eq_true hlt
      obtain ⟨hn1, hn2, hn3⟩ := i64_idx (x := ((i : Int) + (j : Int)) / 2) (k := (i + j) / 2) (n := n) (by omega) (by omega) hn
      have hn4 : (m < n) = True := eq_true (by omega)
      go_wp2_with fail
      refine wp_region_M (fun W => Sep w0 W (ThRow 1 (.slice (some ⟨g, off, none⟩) n c) (cellsF n (strF f σ)) :: R) rows) 12 (by kernel_rfl) ?_
      have KEEPX : ∀ W, Sep w0 W (ThRow 1 (.slice (some ⟨g, off, none⟩) n c) (cellsF n (strF f σ)) :: R) rows → Sep w0 W (ThRow 1 (.slice (some ⟨g, off, none⟩) n c) (cellsF n (strF f σ)) :: R) rows := fun _ h => h
      have hl : ∀ W, Sep w0 W (ThRow 1 (.slice (some ⟨g, off, none⟩) n c) (cellsF n (strF f σ)) :: R) rows → _ := fun W hW => str_load (i := (i + j) / 2) hW (by omega)
      have hl2 : ∀ W, Sep w0 W (ThRow 1 (.slice (some ⟨g, off, none⟩) n c) (cellsF n (strF f σ)) :: R) rows → _ := fun W hW => str_load (i := m) hW (by omega)
      replace HX := Lib.hid HX.out.drew
      refine wpAnyM_take (by kernel_rfl) (by intro c a d v w h; cases d <;> exact h) [(0, false), (1, false), (2, false), (3, false), (4, true), (5, false), (6, false), (7, false), (8, true)] (fuel := 3) (by kernel_rfl) ?_
      apply Exists.intro; refine ⟨?_, HX.out, ?_⟩
      · iterate 9 (first | refine yEp ?_ | ((first | apply yieldP | apply yieldL); (· (simp only [k_i, k_j, k_k]; try rfl)); (· rfl); (· (intros; go_simp; (try simp only [hn1, hn2, hn3, hn4, ↓reduceIte, and_self, Int.toNat_natCast]); try with_reducible rfl)); (· (simp only [Act.put, k_a, k_b, k_c, k_d, k_e, k_f, k_g, k_h]; try rfl))))
        exact rfl
      clear hl hl2
      refine wpAnyM_one (fuel := 2) (i := 9) (by kernel_rfl) (by (simp only [k_i, k_j, k_k]; try rfl)) (fun K hK => ?_)
      go_wp2_with fail
      refine (HC.out (f (σ m)) (f (σ ((i + j) / 2))) _ _ _ (HF.out _) (HF.out _) HX.out).mono ?_
      rintro e w ⟨r, rfl, hr, hx⟩
      clear HX
      have HX := Lib.hid hx
      clear hx
      go_wp2_with fail
      refine hK _ _ HX.out ?_
      clear hK hn1 hn2 hn3 hn4
      by_cases hr0 : r < 0
      · have q2 : decide (r < 0) = true := decide_eq_true hr0
        have hr := hr.1 hr0
        refine wpAnyM_take (by kernel_rfl) (by intro c a d v w h; cases d <;> exact h) [(10, false), (11, false)] (fuel := 0) (by kernel_rfl) ?_
        apply Exists.intro; refine ⟨?_, HX.out, ?_⟩
        · iterate 2 (first | refine yEp ?_ | ((first | apply yieldP | apply yieldL); (· (simp only [k_i, k_j, k_k]; try rfl)); (· rfl); (· (intros; go_simp; (try simp only [hn1, hn2, hn3, hn4, ↓reduceIte, and_self, Int.toNat_natCast]); try with_reducible rfl)); (· (simp only [Act.put, k_a, k_b, k_c, k_d, k_e, k_f, k_g, k_h]; try rfl))))
          exact rfl
        refine wpAnyM_done (by kernel_rfl) ?_ _
        go_wp2_with fail
        go_roundg ((i + j) / 2 - i)
        case rel => exact ⟨i, (i + j) / 2, by omega, rfl, by go_num, by omega, by omega, HG.out.1, fun x g1 g2 => by
          have := HM.out.left.le (i := (i + j) / 2) (j := x) (by omega) g1 g2
          have this : Ky (f (σ ((i + j) / 2))) ≤ Ky (f (σ x)) := this
          omega, HX.out⟩
        case measure => omega
      · have q2 : decide (r < 0) = false := decide_eq_false hr0
        have hr : ¬ Ky (f (σ m)) < Ky (f (σ ((i + j) / 2))) := fun hh => hr0 (hr.2 hh)
        refine wpAnyM_take (by kernel_rfl) (by intro c a d v w h; cases d <;> exact h) [(10, false), (11, false)] (fuel := 0) (by kernel_rfl) ?_
        apply Exists.intro; refine ⟨?_, HX.out, ?_⟩
        · iterate 2 (first | refine yEp ?_ | ((first | apply yieldP | apply yieldL); (· (simp only [k_i, k_j, k_k]; try rfl)); (· rfl); (· (intros; go_simp; (try simp only [hn1, hn2, hn3, hn4, ↓reduceIte, and_self, Int.toNat_natCast]); try with_reducible rfl)); (· (simp only [Act.put, k_a, k_b, k_c, k_d, k_e, k_f, k_g, k_h]; try rfl))))
          exact rfl
        refine wpAnyM_done (by kernel_rfl) ?_ _
        go_wp2_with fail
        go_roundg (j - ((i + j) / 2 + 1))
        case rel => exact ⟨(i + j) / 2 + 1, j, by omega, by go_num, rfl, by omega, by omega, fun x g1 g2 => by
          have := HM.out.left.le (i := x) (j := (i + j) / 2) g1 (by omega) (by omega)
          have this : Ky (f (σ x)) ≤ Ky (f (σ ((i + j) / 2))) := this
          omega, HG.out.2, HX.out⟩
        case measure => omega
end
end Go.Proofs.YtjeaoopamebgjaaGreatDoor

namespace Go.Proofs.YtjeaoopamebgjaaGreatDoor
open Go.RowKit Go.Av
section
variable {w0 : World} {R : List Thing} {rows : List (Value × Bs)} {g off n c : Nat} {f : Nat → Bs} {Ky : Bs → Int} {ok : Bs → Prop}
set_option maxRecDepth 100000 in
set_option maxHeartbeats 16000000 in
theorem sym_more (hc : LessC w0 Ky ok) (hf : ∀ i, ok (f i)) (hn : n ≤ 100000) (L : Nat) (hi : SymC w0 g off n c f Ky R rows L) (w : World) (σ : Nat → Nat) (a m b : Nat) (hL : b - a ≤ L + 1) (hbn : b ≤ n) (ha1 : a + 1 < m) (hb1 : m + 1 < b) (hm : MergIn (fun i => Ky (f i)) σ a m b)
    (h : Sep w0 w (ThRow 1 (.slice (some ⟨g, off, none⟩) n c) (cellsF n (strF f σ)) :: R) rows) :
    Calls Tryz.prog 94 #[.slice (some ⟨g, off, none⟩) n c, .int .i64 (a : Int), .int .i64 (m : Int), .int .i64 (b : Int), lessV] w (SortPost w0 g off n c f R rows fun τ => MergOut (fun i => Ky (f i)) σ τ a b) := by
  have HC := Lib.hid hc
  have HF := Lib.hid hf
  have HI := Lib.hid hi
  have HX := Lib.hid h
  have HM := Lib.hid hm
  clear h hc hf hm hi
  have q1 : (((m : Int) - (a : Int)) == 1) = false := by rw [beq_eq_false_iff_ne]; omega
  have q1' : (((b : Int) - (m : Int)) == 1) = false := by rw [beq_eq_false_iff_ne]; omega
  obtain ⟨mid, hmid⟩ : ∃ mid, mid = (a + b) / 2 := ⟨_, rfl⟩
  have HMID := Lib.hid hmid
  have em : ((a : Int) + (b : Int)) / 2 = (mid : Int) := by omega
  have hmidn : a < mid ∧ mid < b := by omega
  go_enter Tryz.func94, Tryz.ntmps94
  clear hmid
  by_cases hmm : mid < m
  · have q2 : decide (((a : Int) + (b : Int)) / 2 < (m : Int)) = true := decide_eq_true (by omega)
    have q2' : decide (mid < m) = true := decide_eq_true hmm
    go_wp2_with fail
    go_loopg [20, 21] (mid - (mid + m - b)) (fun k v v' wr => ∃ (s r : Nat), s + k = r ∧ v = .int .i64 (s : Int) ∧ v' = .int .i64 (r : Int) ∧ mid + m ≤ s + b ∧ r ≤ mid ∧ (∀ x, mid + m ≤ x + b → x < s → Ky (f (σ x)) ≤ Ky (f (σ (mid + m - 1 - x)))) ∧
      (∀ x, r ≤ x → x < mid → Ky (f (σ (mid + m - 1 - x))) < Ky (f (σ x))) ∧ Sep w0 wr (ThRow 1 (.slice (some ⟨g, off, none⟩) n c) (cellsF n (strF f σ)) :: R) rows)
    case atStart => exact ⟨mid + m - b, mid, by omega, by go_num, by go_num, by omega, by omega, fun x g1 g2 => by omega, fun x g1 g2 => by omega, HX.out⟩
    case round =>
      rename World => w
      obtain ⟨s, r, hsr, rfl, rfl, hs1, hr1, h3, h4, hS⟩ := hrel
      clear HX
      have HX := Lib.hid hS
      have HG := Lib.hid (show _ ∧ _ from ⟨h3, h4⟩)
      clear hS h3 h4
      by_cases hlt : s < r
      case neg =>
        obtain rfl : s = r := by omega
        have q0 : decide (s < s) = false := decide_eq_false (by omega)
        have HCU := Lib.hid (cut_ok (s0 := mid + m - b) (r0 := mid) HM.out HMID.out (fun _ => ⟨by omega, rfl⟩) (fun hh => absurd hmm hh) (by omega) (by omega) (fun x g1 g2 => HG.out.1 x (by omega) g2) HG.out.2 (by omega) : CutOk _ σ a m b mid s _)
        obtain ⟨e, he⟩ : ∃ e, mid + m - s = e := ⟨_, rfl⟩
        rw [he] at HCU
        have ee : (mid : Int) + (m : Int) - (s : Int) = (e : Int) := by omega
        have hse : s + e = mid + m := by omega
        clear hsr
        go_upto_region 39 with fail
        by_cases g5 : s < m
        · by_cases g6 : m < e
          · have q15 : decide (s < m) = true := decide_eq_true g5
            have q16 : decide (m < e) = true := decide_eq_true g6
            have hc0 := rotate_any HX.out s m e lessV g5 g6 (by have := HCU.out.eb; omega) hn
            go_wp2_with fail
            refine hc0.mono ?_
            rintro e1 w ⟨rfl, hx⟩
            clear HX hc0
            have HX := Lib.hid hx
            clear hx
            by_cases g1 : a < s
            · by_cases g2 : s < mid
              · have q11 : decide (a < s) = true := decide_eq_true g1
                have q12 : decide (s < mid) = true := decide_eq_true g2
                have hc1 := HI.out w _ a s mid (by omega) (by omega) (HCU.out.in1 HM.out g1 g2) HX.out
                go_wp2_with fail
                refine hc1.mono ?_
                rintro e1 w ⟨τ2, rfl, ho2, hx⟩
                clear HX hc1
                have HX := Lib.hid hx
                clear hx
                have HT2 := Lib.hid (show PermF a mid (rotF σ s m e) τ2 ∧ (a < s ∧ s < mid → MergOut _ (rotF σ s m e) τ2 a mid) ∧ (¬ (a < s ∧ s < mid) → τ2 = rotF σ s m e) from ⟨ho2.1, fun _ => ho2, fun hh => absurd ⟨g1, g2⟩ hh⟩)
                clear ho2
                by_cases g3 : mid < e
                · by_cases g4 : e < b
                  · have q13 : decide (mid < e) = true := decide_eq_true g3
                    have q14 : decide (e < b) = true := decide_eq_true g4
                    have hc2 := HI.out w τ2 mid e b (by omega) (by omega) (HCU.out.in2 HM.out HT2.out.1 g3 g4) HX.out
                    go_wp2_with fail
                    refine hc2.mono ?_
                    rintro e1 w ⟨τ3, rfl, ho3, hx⟩
                    clear HX hc2
                    have HX := Lib.hid hx
                    clear hx
                    go_wp2_with fail
                    go_end0
                    exact ⟨τ3, rfl, CutOk.done (σ2 := τ2) HM.out HCU.out HT2.out.2.1 HT2.out.2.2 (fun _ => ho3) (fun hh => absurd ⟨g3, g4⟩ hh), HX.out⟩
                  · have q13 : decide (mid < e) = true := decide_eq_true g3
                    have q14 : decide (e < b) = false := decide_eq_false g4
                    go_wp2_with fail
                    go_end0
                    exact ⟨τ2, rfl, CutOk.done (σ2 := τ2) HM.out HCU.out HT2.out.2.1 HT2.out.2.2 (fun hh => absurd hh.2 g4) (fun _ => rfl), HX.out⟩
                · have q13 : decide (mid < e) = false := decide_eq_false g3
                  go_wp2_with fail
                  go_end0
                  exact ⟨τ2, rfl, CutOk.done (σ2 := τ2) HM.out HCU.out HT2.out.2.1 HT2.out.2.2 (fun hh => absurd hh.1 g3) (fun _ => rfl), HX.out⟩
              · have q11 : decide (a < s) = true := decide_eq_true g1
                have q12 : decide (s < mid) = false := decide_eq_false g2
                obtain ⟨τ2, hτ2⟩ : ∃ τ2, rotF σ s m e = τ2 := ⟨_, rfl⟩
                have HT2 : Hid (PermF a mid (rotF σ s m e) τ2 ∧ (a < s ∧ s < mid → MergOut (fun i => Ky (f i)) (rotF σ s m e) τ2 a mid) ∧ (¬ (a < s ∧ s < mid) → τ2 = rotF σ s m e)) := by rw [← hτ2]; exact ⟨.refl _ _ _, fun hh => absurd hh.2 g2, fun _ => rfl⟩
                have HX : Hid (Sep w0 w (ThRow 1 (.slice (some ⟨g, off, none⟩) n c) (cellsF n (strF f τ2)) :: R) rows) := by rw [← hτ2]; exact HX
                clear hτ2
                by_cases g3 : mid < e
                · by_cases g4 : e < b
                  · have q13 : decide (mid < e) = true := decide_eq_true g3
                    have q14 : decide (e < b) = true := decide_eq_true g4
                    have hc2 := HI.out w τ2 mid e b (by omega) (by omega) (HCU.out.in2 HM.out HT2.out.1 g3 g4) HX.out
                    go_wp2_with fail
                    refine hc2.mono ?_
                    rintro e1 w ⟨τ3, rfl, ho3, hx⟩
                    clear HX hc2
                    have HX := Lib.hid hx
                    clear hx
                    go_wp2_with fail
                    go_end0
                    exact ⟨τ3, rfl, CutOk.done (σ2 := τ2) HM.out HCU.out HT2.out.2.1 HT2.out.2.2 (fun _ => ho3) (fun hh => absurd ⟨g3, g4⟩ hh), HX.out⟩
                  · have q13 : decide (mid < e) = true := decide_eq_true g3
                    have q14 : decide (e < b) = false := decide_eq_false g4
                    go_wp2_with fail
                    go_end0
                    exact ⟨τ2, rfl, CutOk.done (σ2 := τ2) HM.out HCU.out HT2.out.2.1 HT2.out.2.2 (fun hh => absurd hh.2 g4) (fun _ => rfl), HX.out⟩
                · have q13 : decide (mid < e) = false := decide_eq_false g3
                  go_wp2_with fail
                  go_end0
                  exact ⟨τ2, rfl, CutOk.done (σ2 := τ2) HM.out HCU.out HT2.out.2.1 HT2.out.2.2 (fun hh => absurd hh.1 g3) (fun _ => rfl), HX.out⟩
            · have q11 : decide (a < s) = false := decide_eq_false g1
              obtain ⟨τ2, hτ2⟩ : ∃ τ2, rotF σ s m e = τ2 := ⟨_, rfl⟩
              have HT2 : Hid (PermF a mid (rotF σ s m e) τ2 ∧ (a < s ∧ s < mid → MergOut (fun i => Ky (f i)) (rotF σ s m e) τ2 a mid) ∧ (¬ (a < s ∧ s < mid) → τ2 = rotF σ s m e)) := by rw [← hτ2]; exact ⟨.refl _ _ _, fun hh => absurd hh.1 g1, fun _ => rfl⟩
              have HX : Hid (Sep w0 w (ThRow 1 (.slice (some ⟨g, off, none⟩) n c) (cellsF n (strF f τ2)) :: R) rows) := by rw [← hτ2]; exact HX
              clear hτ2
              by_cases g3 : mid < e
              · by_cases g4 : e < b
                · have q13 : decide (mid < e) = true := decide_eq_true g3
                  have q14 : decide (e < b) = true := decide_eq_true g4
                  have hc2 := HI.out w τ2 mid e b (by omega) (by omega) (HCU.out.in2 HM.out HT2.out.1 g3 g4) HX.out
                  go_wp2_with fail
                  refine hc2.mono ?_
                  rintro e1 w ⟨τ3, rfl, ho3, hx⟩
                  clear HX hc2
                  have HX := Lib.hid hx
                  clear hx
                  go_wp2_with fail
                  go_end0
                  exact ⟨τ3, rfl, CutOk.done (σ2 := τ2) HM.out HCU.out HT2.out.2.1 HT2.out.2.2 (fun _ => ho3) (fun hh => absurd ⟨g3, g4⟩ hh), HX.out⟩
                · have q13 : decide (mid < e) = true := decide_eq_true g3
                  have q14 : decide (e < b) = false := decide_eq_false g4
                  go_wp2_with fail
                  go_end0
                  exact ⟨τ2, rfl, CutOk.done (σ2 := τ2) HM.out HCU.out HT2.out.2.1 HT2.out.2.2 (fun hh => absurd hh.2 g4) (fun _ => rfl), HX.out⟩
              · have q13 : decide (mid < e) = false := decide_eq_false g3
                go_wp2_with fail
                go_end0
                exact ⟨τ2, rfl, CutOk.done (σ2 := τ2) HM.out HCU.out HT2.out.2.1 HT2.out.2.2 (fun hh => absurd hh.1 g3) (fun _ => rfl), HX.out⟩
          · have q15 : decide (s < m) = true := decide_eq_true g5
            have q16 : decide (m < e) = false := decide_eq_false g6
            have HX : Hid (Sep w0 w (ThRow 1 (.slice (some ⟨g, off, none⟩) n c) (cellsF n (strF f (rotF σ s m e))) :: R) rows) := by
              rw [show m = e by have := HCU.out.me; omega, rotF_none2]; exact HX
            by_cases g1 : a < s
            · by_cases g2 : s < mid
              · have q11 : decide (a < s) = true := decide_eq_true g1
                have q12 : decide (s < mid) = true := decide_eq_true g2
                have hc1 := HI.out w _ a s mid (by omega) (by omega) (HCU.out.in1 HM.out g1 g2) HX.out
                go_wp2_with fail
                refine hc1.mono ?_
                rintro e1 w ⟨τ2, rfl, ho2, hx⟩
                clear HX hc1
                have HX := Lib.hid hx
                clear hx
                have HT2 := Lib.hid (show PermF a mid (rotF σ s m e) τ2 ∧ (a < s ∧ s < mid → MergOut _ (rotF σ s m e) τ2 a mid) ∧ (¬ (a < s ∧ s < mid) → τ2 = rotF σ s m e) from ⟨ho2.1, fun _ => ho2, fun hh => absurd ⟨g1, g2⟩ hh⟩)
                clear ho2
                by_cases g3 : mid < e
                · by_cases g4 : e < b
                  · have q13 : decide (mid < e) = true := decide_eq_true g3
                    have q14 : decide (e < b) = true := decide_eq_true g4
                    have hc2 := HI.out w τ2 mid e b (by omega) (by omega) (HCU.out.in2 HM.out HT2.out.1 g3 g4) HX.out
                    go_wp2_with fail
                    refine hc2.mono ?_
                    rintro e1 w ⟨τ3, rfl, ho3, hx⟩
                    clear HX hc2
                    have HX := Lib.hid hx
                    clear hx
                    go_wp2_with fail
                    go_end0
                    exact ⟨τ3, rfl, CutOk.done (σ2 := τ2) HM.out HCU.out HT2.out.2.1 HT2.out.2.2 (fun _ => ho3) (fun hh => absurd ⟨g3, g4⟩ hh), HX.out⟩
                  · have q13 : decide (mid < e) = true := decide_eq_true g3
                    have q14 : decide (e < b) = false := decide_eq_false g4
                    go_wp2_with fail
                    go_end0
                    exact ⟨τ2, rfl, CutOk.done (σ2 := τ2) HM.out HCU.out HT2.out.2.1 HT2.out.2.2 (fun hh => absurd hh.2 g4) (fun _ => rfl), HX.out⟩
                · have q13 : decide (mid < e) = false := decide_eq_false g3
                  go_wp2_with fail
                  go_end0
                  exact ⟨τ2, rfl, CutOk.done (σ2 := τ2) HM.out HCU.out HT2.out.2.1 HT2.out.2.2 (fun hh => absurd hh.1 g3) (fun _ => rfl), HX.out⟩
              · have q11 : decide (a < s) = true := decide_eq_true g1
                have q12 : decide (s < mid) = false := decide_eq_false g2
                obtain ⟨τ2, hτ2⟩ : ∃ τ2, rotF σ s m e = τ2 := ⟨_, rfl⟩
                have HT2 : Hid (PermF a mid (rotF σ s m e) τ2 ∧ (a < s ∧ s < mid → MergOut (fun i => Ky (f i)) (rotF σ s m e) τ2 a mid) ∧ (¬ (a < s ∧ s < mid) → τ2 = rotF σ s m e)) := by rw [← hτ2]; exact ⟨.refl _ _ _, fun hh => absurd hh.2 g2, fun _ => rfl⟩
                have HX : Hid (Sep w0 w (ThRow 1 (.slice (some ⟨g, off, none⟩) n c) (cellsF n (strF f τ2)) :: R) rows) := by rw [← hτ2]; exact HX
                clear hτ2
                by_cases g3 : mid < e
                · by_cases g4 : e < b
                  · have q13 : decide (mid < e) = true := decide_eq_true g3
                    have q14 : decide (e < b) = true := decide_eq_true g4
                    have hc2 := HI.out w τ2 mid e b (by omega) (by omega) (HCU.out.in2 HM.out HT2.out.1 g3 g4) HX.out
                    go_wp2_with fail
                    refine hc2.mono ?_
                    rintro e1 w ⟨τ3, rfl, ho3, hx⟩
                    clear HX hc2
                    have HX := Lib.hid hx
                    clear hx
                    go_wp2_with fail
                    go_end0
                    exact ⟨τ3, rfl, CutOk.done (σ2 := τ2) HM.out HCU.out HT2.out.2.1 HT2.out.2.2 (fun _ => ho3) (fun hh => absurd ⟨g3, g4⟩ hh), HX.out⟩
                  · have q13 : decide (mid < e) = true := decide_eq_true g3
                    have q14 : decide (e < b) = false := decide_eq_false g4
                    go_wp2_with fail
                    go_end0
                    exact ⟨τ2, rfl, CutOk.done (σ2 := τ2) HM.out HCU.out HT2.out.2.1 HT2.out.2.2 (fun hh => absurd hh.2 g4) (fun _ => rfl), HX.out⟩
                · have q13 : decide (mid < e) = false := decide_eq_false g3
                  go_wp2_with fail
                  go_end0
                  exact ⟨τ2, rfl, CutOk.done (σ2 := τ2) HM.out HCU.out HT2.out.2.1 HT2.out.2.2 (fun hh => absurd hh.1 g3) (fun _ => rfl), HX.out⟩
            · have q11 : decide (a < s) = false := decide_eq_false g1
              obtain ⟨τ2, hτ2⟩ : ∃ τ2, rotF σ s m e = τ2 := ⟨_, rfl⟩
              have HT2 : Hid (PermF a mid (rotF σ s m e) τ2 ∧ (a < s ∧ s < mid → MergOut (fun i => Ky (f i)) (rotF σ s m e) τ2 a mid) ∧ (¬ (a < s ∧ s < mid) → τ2 = rotF σ s m e)) := by rw [← hτ2]; exact ⟨.refl _ _ _, fun hh => absurd hh.1 g1, fun _ => rfl⟩
              have HX : Hid (Sep w0 w (ThRow 1 (.slice (some ⟨g, off, none⟩) n c) (cellsF n (strF f τ2)) :: R) rows) := by rw [← hτ2]; exact HX
              clear hτ2
              by_cases g3 : mid < e
              · by_cases g4 : e < b
                · have q13 : decide (mid < e) = true := decide_eq_true g3
                  have q14 : decide (e < b) = true := decide_eq_true g4
                  have hc2 := HI.out w τ2 mid e b (by omega) (by omega) (HCU.out.in2 HM.out HT2.out.1 g3 g4) HX.out
                  go_wp2_with fail
                  refine hc2.mono ?_
                  rintro e1 w ⟨τ3, rfl, ho3, hx⟩
                  clear HX hc2
                  have HX := Lib.hid hx
                  clear hx
                  go_wp2_with fail
                  go_end0
                  exact ⟨τ3, rfl, CutOk.done (σ2 := τ2) HM.out HCU.out HT2.out.2.1 HT2.out.2.2 (fun _ => ho3) (fun hh => absurd ⟨g3, g4⟩ hh), HX.out⟩
                · have q13 : decide (mid < e) = true := decide_eq_true g3
                  have q14 : decide (e < b) = false := decide_eq_false g4
                  go_wp2_with fail
                  go_end0
                  exact ⟨τ2, rfl, CutOk.done (σ2 := τ2) HM.out HCU.out HT2.out.2.1 HT2.out.2.2 (fun hh => absurd hh.2 g4) (fun _ => rfl), HX.out⟩
              · have q13 : decide (mid < e) = false := decide_eq_false g3
                go_wp2_with fail
                go_end0
                exact ⟨τ2, rfl, CutOk.done (σ2 := τ2) HM.out HCU.out HT2.out.2.1 HT2.out.2.2 (fun hh => absurd hh.1 g3) (fun _ => rfl), HX.out⟩
        · have q15 : decide (s < m) = false := decide_eq_false g5
          have HX : Hid (Sep w0 w (ThRow 1 (.slice (some ⟨g, off, none⟩) n c) (cellsF n (strF f (rotF σ s m e))) :: R) rows) := by
            rw [show s = m by have := HCU.out.sm; omega, rotF_none1 σ HCU.out.me]; exact HX
          by_cases g1 : a < s
          · by_cases g2 : s < mid
            · have q11 : decide (a < s) = true := decide_eq_true g1
              have q12 : decide (s < mid) = true := decide_eq_true g2
              have hc1 := HI.out w _ a s mid (by omega) (by omega) (HCU.out.in1 HM.out g1 g2) HX.out
              go_wp2_with fail
              refine hc1.mono ?_
              rintro e1 w ⟨τ2, rfl, ho2, hx⟩
              clear HX hc1
              have HX := Lib.hid hx
              clear hx
              have HT2 := Lib.hid (show PermF a mid (rotF σ s m e) τ2 ∧ (a < s ∧ s < mid → MergOut _ (rotF σ s m e) τ2 a mid) ∧ (¬ (a < s ∧ s < mid) → τ2 = rotF σ s m e) from ⟨ho2.1, fun _ => ho2, fun hh => absurd ⟨g1, g2⟩ hh⟩)
              clear ho2
              by_cases g3 : mid < e
              · by_cases g4 : e < b
                · have q13 : decide (mid < e) = true := decide_eq_true g3
                  have q14 : decide (e < b) = true := decide_eq_true g4
                  have hc2 := HI.out w τ2 mid e b (by omega) (by omega) (HCU.out.in2 HM.out HT2.out.1 g3 g4) HX.out
                  go_wp2_with fail
                  refine hc2.mono ?_
                  rintro e1 w ⟨τ3, rfl, ho3, hx⟩
                  clear HX hc2
                  have HX := Lib.hid hx
                  clear hx
                  go_wp2_with fail
                  go_end0
                  exact ⟨τ3, rfl, CutOk.done (σ2 := τ2) HM.out HCU.out HT2.out.2.1 HT2.out.2.2 (fun _ => ho3) (fun hh => absurd ⟨g3, g4⟩ hh), HX.out⟩
                · have q13 : decide (mid < e) = true := decide_eq_true g3
                  have q14 : decide (e < b) = false := decide_eq_false g4
                  go_wp2_with fail
                  go_end0
                  exact ⟨τ2, rfl, CutOk.done (σ2 := τ2) HM.out HCU.out HT2.out.2.1 HT2.out.2.2 (fun hh => absurd hh.2 g4) (fun _ => rfl), HX.out⟩
              · have q13 : decide (mid < e) = false := decide_eq_false g3
                go_wp2_with fail
                go_end0
                exact ⟨τ2, rfl, CutOk.done (σ2 := τ2) HM.out HCU.out HT2.out.2.1 HT2.out.2.2 (fun hh => absurd hh.1 g3) (fun _ => rfl), HX.out⟩
            · have q11 : decide (a < s) = true := decide_eq_true g1
              have q12 : decide (s < mid) = false := decide_eq_false g2
              obtain ⟨τ2, hτ2⟩ : ∃ τ2, rotF σ s m e = τ2 := ⟨_, rfl⟩
              have HT2 : Hid (PermF a mid (rotF σ s m e) τ2 ∧ (a < s ∧ s < mid → MergOut (fun i => Ky (f i)) (rotF σ s m e) τ2 a mid) ∧ (¬ (a < s ∧ s < mid) → τ2 = rotF σ s m e)) := by rw [← hτ2]; exact ⟨.refl _ _ _, fun hh => absurd hh.2 g2, fun _ => rfl⟩
              have HX : Hid (Sep w0 w (ThRow 1 (.slice (some ⟨g, off, none⟩) n c) (cellsF n (strF f τ2)) :: R) rows) := by rw [← hτ2]; exact HX
              clear hτ2
              by_cases g3 : mid < e
              · by_cases g4 : e < b
                · have q13 : decide (mid < e) = true := decide_eq_true g3
                  have q14 : decide (e < b) = true := decide_eq_true g4
                  have hc2 := HI.out w τ2 mid e b (by omega) (by omega) (HCU.out.in2 HM.out HT2.out.1 g3 g4) HX.out
                  go_wp2_with fail
                  refine hc2.mono ?_
                  rintro e1 w ⟨τ3, rfl, ho3, hx⟩
                  clear HX hc2
                  have HX := Lib.hid hx
                  clear hx
                  go_wp2_with fail
                  go_end0
                  exact ⟨τ3, rfl, CutOk.done (σ2 := τ2) HM.out HCU.out HT2.out.2.1 HT2.out.2.2 (fun _ => ho3) (fun hh => absurd ⟨g3, g4⟩ hh), HX.out⟩
                · have q13 : decide (mid < e) = true := decide_eq_true g3
                  have q14 : decide (e < b) = false := decide_eq_false g4
                  go_wp2_with fail
                  go_end0
                  exact ⟨τ2, rfl, CutOk.done (σ2 := τ2) HM.out HCU.out HT2.out.2.1 HT2.out.2.2 (fun hh => absurd hh.2 g4) (fun _ => rfl), HX.out⟩
              · have q13 : decide (mid < e) = false := decide_eq_false g3
                go_wp2_with fail
                go_end0
                exact ⟨τ2, rfl, CutOk.done (σ2 := τ2) HM.out HCU.out HT2.out.2.1 HT2.out.2.2 (fun hh => absurd hh.1 g3) (fun _ => rfl), HX.out⟩
          · have q11 : decide (a < s) = false := decide_eq_false g1
            obtain ⟨τ2, hτ2⟩ : ∃ τ2, rotF σ s m e = τ2 := ⟨_, rfl⟩
            have HT2 : Hid (PermF a mid (rotF σ s m e) τ2 ∧ (a < s ∧ s < mid → MergOut (fun i => Ky (f i)) (rotF σ s m e) τ2 a mid) ∧ (¬ (a < s ∧ s < mid) → τ2 = rotF σ s m e)) := by rw [← hτ2]; exact ⟨.refl _ _ _, fun hh => absurd hh.1 g1, fun _ => rfl⟩
            have HX : Hid (Sep w0 w (ThRow 1 (.slice (some ⟨g, off, none⟩) n c) (cellsF n (strF f τ2)) :: R) rows) := by rw [← hτ2]; exact HX
            clear hτ2
            by_cases g3 : mid < e
            · by_cases g4 : e < b
              · have q13 : decide (mid < e) = true := decide_eq_true g3
                have q14 : decide (e < b) = true := decide_eq_true g4
                have hc2 := HI.out w τ2 mid e b (by omega) (by omega) (HCU.out.in2 HM.out HT2.out.1 g3 g4) HX.out
                go_wp2_with fail
                refine hc2.mono ?_
                rintro e1 w ⟨τ3, rfl, ho3, hx⟩
                clear HX hc2
                have HX := Lib.hid hx
                clear hx
                go_wp2_with fail
                go_end0
                exact ⟨τ3, rfl, CutOk.done (σ2 := τ2) HM.out HCU.out HT2.out.2.1 HT2.out.2.2 (fun _ => ho3) (fun hh => absurd ⟨g3, g4⟩ hh), HX.out⟩
              · have q13 : decide (mid < e) = true := decide_eq_true g3
                have q14 : decide (e < b) = false := decide_eq_false g4
                go_wp2_with fail
                go_end0
                exact ⟨τ2, rfl, CutOk.done (σ2 := τ2) HM.out HCU.out HT2.out.2.1 HT2.out.2.2 (fun hh => absurd hh.2 g4) (fun _ => rfl), HX.out⟩
            · have q13 : decide (mid < e) = false := decide_eq_false g3
              go_wp2_with fail
              go_end0
              exact ⟨τ2, rfl, CutOk.done (σ2 := τ2) HM.out HCU.out HT2.out.2.1 HT2.out.2.2 (fun hh => absurd hh.1 g3) (fun _ => rfl), HX.out⟩
      case pos =>
        have q0 : decide (s < r) = true := decide_eq_true hlt
        obtain ⟨hn1, hn2, hn3⟩ := i64_idx (x := (mid : Int) + (m : Int) - 1 - ((s : Int) + (r : Int)) / 2) (k := mid + m - 1 - (s + r) / 2) (n := n) (by omega) (by omega) hn
        obtain ⟨hn4, hn5, hn6⟩ := i64_idx (x := ((s : Int) + (r : Int)) / 2) (k := (s + r) / 2) (n := n) (by omega) (by omega) hn
        have hn7 : (((s : Int) + (r : Int)) / 2 ≤ (mid : Int) + (m : Int) - 1 ∧ (mid : Int) + (m : Int) - 1 - ((s : Int) + (r : Int)) / 2 < (n : Int)) = True := eq_true (by omega)
        go_wp2_with fail
        refine wp_region_M (fun W => Sep w0 W (ThRow 1 (.slice (some ⟨g, off, none⟩) n c) (cellsF n (strF f σ)) :: R) rows) 14 (by kernel_rfl) ?_
        have KEEPX : ∀ W, Sep w0 W (ThRow 1 (.slice (some ⟨g, off, none⟩) n c) (cellsF n (strF f σ)) :: R) rows → Sep w0 W (ThRow 1 (.slice (some ⟨g, off, none⟩) n c) (cellsF n (strF f σ)) :: R) rows := fun _ h => h
        have hl : ∀ W, Sep w0 W (ThRow 1 (.slice (some ⟨g, off, none⟩) n c) (cellsF n (strF f σ)) :: R) rows → _ := fun W hW => str_load (i := mid + m - 1 - (s + r) / 2) hW (by omega)
        have hl2 : ∀ W, Sep w0 W (ThRow 1 (.slice (some ⟨g, off, none⟩) n c) (cellsF n (strF f σ)) :: R) rows → _ := fun W hW => str_load (i := (s + r) / 2) hW (by omega)
        replace HX := Lib.hid HX.out.drew
        refine wpAnyM_take (by kernel_rfl) (by intro c a d v w h; cases d <;> exact h) [(0, false), (1, false), (2, false), (3, false), (4, false), (5, false), (6, true), (7, false), (8, false), (9, false), (10, true)] (fuel := 3) (by kernel_rfl) ?_
        apply Exists.intro; refine ⟨?_, HX.out, ?_⟩
        · iterate 11 (first | refine yEp ?_ | ((first | apply yieldP | apply yieldL); (· (simp only [k_i, k_j, k_k]; try rfl)); (· rfl); (· (intros; go_simp; (try simp only [hn1, hn2, hn3, hn4, hn5, hn6, hn7, ↓reduceIte, and_self, Int.toNat_natCast]); try with_reducible rfl)); (· (simp only [Act.put, k_a, k_b, k_c, k_d, k_e, k_f, k_g, k_h]; try rfl))))
          exact rfl
        clear hl hl2
        refine wpAnyM_one (fuel := 2) (i := 11) (by kernel_rfl) (by (simp only [k_i, k_j, k_k]; try rfl)) (fun K hK => ?_)
        go_wp2_with fail
        refine (HC.out (f (σ (mid + m - 1 - (s + r) / 2))) (f (σ ((s + r) / 2))) _ _ _ (HF.out _) (HF.out _) HX.out).mono ?_
        rintro e w ⟨z, rfl, hr, hx⟩
        clear HX
        have HX := Lib.hid hx
        clear hx
        go_wp2_with fail
        refine hK _ _ HX.out ?_
        clear hK hn1 hn2 hn3 hn4 hn5 hn6 hn7
        by_cases hr0 : z < 0
        · have q2 : decide (z < 0) = true := decide_eq_true hr0
          have hr := hr.1 hr0
          refine wpAnyM_take (by kernel_rfl) (by intro c a d v w h; cases d <;> exact h) [(12, false), (13, false)] (fuel := 0) (by kernel_rfl) ?_
          apply Exists.intro; refine ⟨?_, HX.out, ?_⟩
          · iterate 2 (first | refine yEp ?_ | ((first | apply yieldP | apply yieldL); (· (simp only [k_i, k_j, k_k]; try rfl)); (· rfl); (· (intros; go_simp; (try simp only [hn1, hn2, hn3, hn4, hn5, hn6, hn7, ↓reduceIte, and_self, Int.toNat_natCast]); try with_reducible rfl)); (· (simp only [Act.put, k_a, k_b, k_c, k_d, k_e, k_f, k_g, k_h]; try rfl))))
            exact rfl
          refine wpAnyM_done (by kernel_rfl) ?_ _
          go_wp2_with fail
          go_roundg ((s + r) / 2 - s)
          case rel => exact ⟨s, (s + r) / 2, by omega, rfl, by go_num, by omega, by omega, HG.out.1, fun x g1 g2 => by
            have k1 := HM.out.left.le (i := (s + r) / 2) (j := x) (by omega) g1 (by omega)
            have k2 := HM.out.right.le (i := mid + m - 1 - x) (j := mid + m - 1 - (s + r) / 2) (by omega) (by omega) (by omega)
            have k1 : Ky (f (σ ((s + r) / 2))) ≤ Ky (f (σ x)) := k1
            have k2 : Ky (f (σ (mid + m - 1 - x))) ≤ Ky (f (σ (mid + m - 1 - (s + r) / 2))) := k2
            omega, HX.out⟩
          case measure => omega
        · have q2 : decide (z < 0) = false := decide_eq_false hr0
          have hr : ¬ Ky (f (σ (mid + m - 1 - (s + r) / 2))) < Ky (f (σ ((s + r) / 2))) := fun hh => hr0 (hr.2 hh)
          refine wpAnyM_take (by kernel_rfl) (by intro c a d v w h; cases d <;> exact h) [(12, false), (13, false)] (fuel := 0) (by kernel_rfl) ?_
          apply Exists.intro; refine ⟨?_, HX.out, ?_⟩
          · iterate 2 (first | refine yEp ?_ | ((first | apply yieldP | apply yieldL); (· (simp only [k_i, k_j, k_k]; try rfl)); (· rfl); (· (intros; go_simp; (try simp only [hn1, hn2, hn3, hn4, hn5, hn6, hn7, ↓reduceIte, and_self, Int.toNat_natCast]); try with_reducible rfl)); (· (simp only [Act.put, k_a, k_b, k_c, k_d, k_e, k_f, k_g, k_h]; try rfl))))
            exact rfl
          refine wpAnyM_done (by kernel_rfl) ?_ _
          go_wp2_with fail
          go_roundg (r - ((s + r) / 2 + 1))
          case rel => exact ⟨(s + r) / 2 + 1, r, by omega, by go_num, rfl, by omega, by omega, fun x g1 g2 => by
            have k1 := HM.out.left.le (i := x) (j := (s + r) / 2) (by omega) (by omega) (by omega)
            have k2 := HM.out.right.le (i := mid + m - 1 - (s + r) / 2) (j := mid + m - 1 - x) (by omega) (by omega) (by omega)
            have k1 : Ky (f (σ x)) ≤ Ky (f (σ ((s + r) / 2))) := k1
            have k2 : Ky (f (σ (mid + m - 1 - (s + r) / 2))) ≤ Ky (f (σ (mid + m - 1 - x))) := k2
            omega, HG.out.2, HX.out⟩
          case measure => omega
  · have q2 : decide (((a : Int) + (b : Int)) / 2 < (m : Int)) = false := decide_eq_false (by omega)
    have q2' : decide (mid < m) = false := decide_eq_false hmm
    go_wp2_with fail
    go_loopg [20, 21] (m - a) (fun k v v' wr => ∃ (s r : Nat), s + k = r ∧ v = .int .i64 (s : Int) ∧ v' = .int .i64 (r : Int) ∧ a ≤ s ∧ r ≤ m ∧ (∀ x, a ≤ x → x < s → Ky (f (σ x)) ≤ Ky (f (σ (mid + m - 1 - x)))) ∧
      (∀ x, r ≤ x → x < m → Ky (f (σ (mid + m - 1 - x))) < Ky (f (σ x))) ∧ Sep w0 wr (ThRow 1 (.slice (some ⟨g, off, none⟩) n c) (cellsF n (strF f σ)) :: R) rows)
    case atStart => exact ⟨a, m, by omega, by go_num, by go_num, by omega, by omega, fun x g1 g2 => by omega, fun x g1 g2 => by omega, HX.out⟩
    case round =>
      rename World => w
      obtain ⟨s, r, hsr, rfl, rfl, hs1, hr1, h3, h4, hS⟩ := hrel
      clear HX
      have HX := Lib.hid hS
      have HG := Lib.hid (show _ ∧ _ from ⟨h3, h4⟩)
      clear hS h3 h4
      by_cases hlt : s < r
      case neg =>
        obtain rfl : s = r := by omega
        have q0 : decide (s < s) = false := decide_eq_false (by omega)
        have HCU := Lib.hid (cut_ok (s0 := a) (r0 := m) HM.out HMID.out (fun hh => absurd hh hmm) (fun _ => ⟨rfl, rfl⟩) (by omega) (by omega) (fun x g1 g2 => HG.out.1 x g1 g2) HG.out.2 (by omega) : CutOk _ σ a m b mid s _)
        obtain ⟨e, he⟩ : ∃ e, mid + m - s = e := ⟨_, rfl⟩
        rw [he] at HCU
        have ee : (mid : Int) + (m : Int) - (s : Int) = (e : Int) := by omega
        have hse : s + e = mid + m := by omega
        clear hsr
        go_upto_region 39 with fail
        by_cases g5 : s < m
        · by_cases g6 : m < e
          · have q15 : decide (s < m) = true := decide_eq_true g5
            have q16 : decide (m < e) = true := decide_eq_true g6
            have hc0 := rotate_any HX.out s m e lessV g5 g6 (by have := HCU.out.eb; omega) hn
            go_wp2_with fail
            refine hc0.mono ?_
            rintro e1 w ⟨rfl, hx⟩
            clear HX hc0
            have HX := Lib.hid hx
            clear hx
            by_cases g1 : a < s
            · by_cases g2 : s < mid
              · have q11 : decide (a < s) = true := decide_eq_true g1
                have q12 : decide (s < mid) = true := decide_eq_true g2
                have hc1 := HI.out w _ a s mid (by omega) (by omega) (HCU.out.in1 HM.out g1 g2) HX.out
                go_wp2_with fail
                refine hc1.mono ?_
                rintro e1 w ⟨τ2, rfl, ho2, hx⟩
                clear HX hc1
                have HX := Lib.hid hx
                clear hx
                have HT2 := Lib.hid (show PermF a mid (rotF σ s m e) τ2 ∧ (a < s ∧ s < mid → MergOut _ (rotF σ s m e) τ2 a mid) ∧ (¬ (a < s ∧ s < mid) → τ2 = rotF σ s m e) from ⟨ho2.1, fun _ => ho2, fun hh => absurd ⟨g1, g2⟩ hh⟩)
                clear ho2
                by_cases g3 : mid < e
                · by_cases g4 : e < b
                  · have q13 : decide (mid < e) = true := decide_eq_true g3
                    have q14 : decide (e < b) = true := decide_eq_true g4
                    have hc2 := HI.out w τ2 mid e b (by omega) (by omega) (HCU.out.in2 HM.out HT2.out.1 g3 g4) HX.out
                    go_wp2_with fail
                    refine hc2.mono ?_
                    rintro e1 w ⟨τ3, rfl, ho3, hx⟩
                    clear HX hc2
                    have HX := Lib.hid hx
                    clear hx
                    go_wp2_with fail
                    go_end0
                    exact ⟨τ3, rfl, CutOk.done (σ2 := τ2) HM.out HCU.out HT2.out.2.1 HT2.out.2.2 (fun _ => ho3) (fun hh => absurd ⟨g3, g4⟩ hh), HX.out⟩
                  · have q13 : decide (mid < e) = true := decide_eq_true g3
                    have q14 : decide (e < b) = false := decide_eq_false g4
                    go_wp2_with fail
                    go_end0
                    exact ⟨τ2, rfl, CutOk.done (σ2 := τ2) HM.out HCU.out HT2.out.2.1 HT2.out.2.2 (fun hh => absurd hh.2 g4) (fun _ => rfl), HX.out⟩
                · have q13 : decide (mid < e) = false := decide_eq_false g3
                  go_wp2_with fail
                  go_end0
                  exact ⟨τ2, rfl, CutOk.done (σ2 := τ2) HM.out HCU.out HT2.out.2.1 HT2.out.2.2 (fun hh => absurd hh.1 g3) (fun _ => rfl), HX.out⟩
              · have q11 : decide (a < s) = true := decide_eq_true g1
                have q12 : decide (s < mid) = false := decide_eq_false g2
                obtain ⟨τ2, hτ2⟩ : ∃ τ2, rotF σ s m e = τ2 := ⟨_, rfl⟩
                have HT2 : Hid (PermF a mid (rotF σ s m e) τ2 ∧ (a < s ∧ s < mid → MergOut (fun i => Ky (f i)) (rotF σ s m e) τ2 a mid) ∧ (¬ (a < s ∧ s < mid) → τ2 = rotF σ s m e)) := by rw [← hτ2]; exact ⟨.refl _ _ _, fun hh => absurd hh.2 g2, fun _ => rfl⟩
                have HX : Hid (Sep w0 w (ThRow 1 (.slice (some ⟨g, off, none⟩) n c) (cellsF n (strF f τ2)) :: R) rows) := by rw [← hτ2]; exact HX
                clear hτ2
                by_cases g3 : mid < e
                · by_cases g4 : e < b
                  · have q13 : decide (mid < e) = true := decide_eq_true g3
                    have q14 : decide (e < b) = true := decide_eq_true g4
                    have hc2 := HI.out w τ2 mid e b (by omega) (by omega) (HCU.out.in2 HM.out HT2.out.1 g3 g4) HX.out
                    go_wp2_with fail
                    refine hc2.mono ?_
                    rintro e1 w ⟨τ3, rfl, ho3, hx⟩
                    clear HX hc2
                    have HX := Lib.hid hx
                    clear hx
                    go_wp2_with fail
                    go_end0
                    exact ⟨τ3, rfl, CutOk.done (σ2 := τ2) HM.out HCU.out HT2.out.2.1 HT2.out.2.2 (fun _ => ho3) (fun hh => absurd ⟨g3, g4⟩ hh), HX.out⟩
                  · have q13 : decide (mid < e) = true := decide_eq_true g3
                    have q14 : decide (e < b) = false := decide_eq_false g4
                    go_wp2_with fail
                    go_end0
                    exact ⟨τ2, rfl, CutOk.done (σ2 := τ2) HM.out HCU.out HT2.out.2.1 HT2.out.2.2 (fun hh => absurd hh.2 g4) (fun _ => rfl), HX.out⟩
                · have q13 : decide (mid < e) = false := decide_eq_false g3
                  go_wp2_with fail
                  go_end0
                  exact ⟨τ2, rfl, CutOk.done (σ2 := τ2) HM.out HCU.out HT2.out.2.1 HT2.out.2.2 (fun hh => absurd hh.1 g3) (fun _ => rfl), HX.out⟩
            · have q11 : decide (a < s) = false := decide_eq_false g1
              obtain ⟨τ2, hτ2⟩ : ∃ τ2, rotF σ s m e = τ2 := ⟨_, rfl⟩
              have HT2 : Hid (PermF a mid (rotF σ s m e) τ2 ∧ (a < s ∧ s < mid → MergOut (fun i => Ky (f i)) (rotF σ s m e) τ2 a mid) ∧ (¬ (a < s ∧ s < mid) → τ2 = rotF σ s m e)) := by rw [← hτ2]; exact ⟨.refl _ _ _, fun hh => absurd hh.1 g1, fun _ => rfl⟩
              have HX : Hid (Sep w0 w (ThRow 1 (.slice (some ⟨g, off, none⟩) n c) (cellsF n (strF f τ2)) :: R) rows) := by rw [← hτ2]; exact HX
              clear hτ2
              by_cases g3 : mid < e
              · by_cases g4 : e < b
                · have q13 : decide (mid < e) = true := decide_eq_true g3
                  have q14 : decide (e < b) = true := decide_eq_true g4
                  have hc2 := HI.out w τ2 mid e b (by omega) (by omega) (HCU.out.in2 HM.out HT2.out.1 g3 g4) HX.out
                  go_wp2_with fail
                  refine hc2.mono ?_
                  rintro e1 w ⟨τ3, rfl, ho3, hx⟩
                  clear HX hc2
                  have HX := Lib.hid hx
                  clear hx
                  go_wp2_with fail
                  go_end0
                  exact ⟨τ3, rfl, CutOk.done (σ2 := τ2) HM.out HCU.out HT2.out.2.1 HT2.out.2.2 (fun _ => ho3) (fun hh => absurd ⟨g3, g4⟩ hh), HX.out⟩
                · have q13 : decide (mid < e) = true := decide_eq_true g3
                  have q14 : decide (e < b) = false := decide_eq_false g4
                  go_wp2_with fail
                  go_end0
                  exact ⟨τ2, rfl, CutOk.done (σ2 := τ2) HM.out HCU.out HT2.out.2.1 HT2.out.2.2 (fun hh => absurd hh.2 g4) (fun _ => rfl), HX.out⟩
              · have q13 : decide (mid < e) = false := decide_eq_false g3
                go_wp2_with fail
                go_end0
                exact ⟨τ2, rfl, CutOk.done (σ2 := τ2) HM.out HCU.out HT2.out.2.1 HT2.out.2.2 (fun hh => absurd hh.1 g3) (fun _ => rfl), HX.out⟩
          · have q15 : decide (s < m) = true := decide_eq_true g5
            have q16 : decide (m < e) = false := decide_eq_false g6
            have HX : Hid (Sep w0 w (ThRow 1 (.slice (some ⟨g, off, none⟩) n c) (cellsF n (strF f (rotF σ s m e))) :: R) rows) := by
              rw [show m = e by have := HCU.out.me; omega, rotF_none2]; exact HX
            by_cases g1 : a < s
            · by_cases g2 : s < mid
              · have q11 : decide (a < s) = true := decide_eq_true g1
                have q12 : decide (s < mid) = true := decide_eq_true g2
                have hc1 := HI.out w _ a s mid (by omega) (by omega) (HCU.out.in1 HM.out g1 g2) HX.out
                go_wp2_with fail
                refine hc1.mono ?_
                rintro e1 w ⟨τ2, rfl, ho2, hx⟩
                clear HX hc1
                have HX := Lib.hid hx
                clear hx
                have HT2 := Lib.hid (show PermF a mid (rotF σ s m e) τ2 ∧ (a < s ∧ s < mid → MergOut _ (rotF σ s m e) τ2 a mid) ∧ (¬ (a < s ∧ s < mid) → τ2 = rotF σ s m e) from ⟨ho2.1, fun _ => ho2, fun hh => absurd ⟨g1, g2⟩ hh⟩)
                clear ho2
                by_cases g3 : mid < e
                · by_cases g4 : e < b
                  · have q13 : decide (mid < e) = true := decide_eq_true g3
                    have q14 : decide (e < b) = true := decide_eq_true g4
                    have hc2 := HI.out w τ2 mid e b (by omega) (by omega) (HCU.out.in2 HM.out HT2.out.1 g3 g4) HX.out
                    go_wp2_with fail
                    refine hc2.mono ?_
                    rintro e1 w ⟨τ3, rfl, ho3, hx⟩
                    clear HX hc2
                    have HX := Lib.hid hx
                    clear hx
                    go_wp2_with fail
                    go_end0
                    exact ⟨τ3, rfl, CutOk.done (σ2 := τ2) HM.out HCU.out HT2.out.2.1 HT2.out.2.2 (fun _ => ho3) (fun hh => absurd ⟨g3, g4⟩ hh), HX.out⟩
                  · have q13 : decide (mid < e) = true := decide_eq_true g3
                    have q14 : decide (e < b) = false := decide_eq_false g4
                    go_wp2_with fail
                    go_end0
                    exact ⟨τ2, rfl, CutOk.done (σ2 := τ2) HM.out HCU.out HT2.out.2.1 HT2.out.2.2 (fun hh => absurd hh.2 g4) (fun _ => rfl), HX.out⟩
                · have q13 : decide (mid < e) = false := decide_eq_false g3
                  go_wp2_with fail
                  go_end0
                  exact ⟨τ2, rfl, CutOk.done (σ2 := τ2) HM.out HCU.out HT2.out.2.1 HT2.out.2.2 (fun hh => absurd hh.1 g3) (fun _ => rfl), HX.out⟩
              · have q11 : decide (a < s) = true := decide_eq_true g1
                have q12 : decide (s < mid) = false := decide_eq_false g2
                obtain ⟨τ2, hτ2⟩ : ∃ τ2, rotF σ s m e = τ2 := ⟨_, rfl⟩
                have HT2 : Hid (PermF a mid (rotF σ s m e) τ2 ∧ (a < s ∧ s < mid → MergOut (fun i => Ky (f i)) (rotF σ s m e) τ2 a mid) ∧ (¬ (a < s ∧ s < mid) → τ2 = rotF σ s m e)) := by rw [← hτ2]; exact ⟨.refl _ _ _, fun hh => absurd hh.2 g2, fun _ => rfl⟩
                have HX : Hid (Sep w0 w (ThRow 1 (.slice (some ⟨g, off, none⟩) n c) (cellsF n (strF f τ2)) :: R) rows) := by rw [← hτ2]; exact HX
                clear hτ2
                by_cases g3 : mid < e
                · by_cases g4 : e < b
                  · have q13 : decide (mid < e) = true := decide_eq_true g3
                    have q14 : decide (e < b) = true := decide_eq_true g4
                    have hc2 := HI.out w τ2 mid e b (by omega) (by omega) (HCU.out.in2 HM.out HT2.out.1 g3 g4) HX.out
                    go_wp2_with fail
                    refine hc2.mono ?_
                    rintro e1 w ⟨τ3, rfl, ho3, hx⟩
                    clear HX hc2
                    have HX := Lib.hid hx
                    clear hx
                    go_wp2_with fail
                    go_end0
                    exact ⟨τ3, rfl, CutOk.done (σ2 := τ2) HM.out HCU.out HT2.out.2.1 HT2.out.2.2 (fun _ => ho3) (fun hh => absurd ⟨g3, g4⟩ hh), HX.out⟩
                  · have q13 : decide (mid < e) = true := decide_eq_true g3
                    have q14 : decide (e < b) = false := decide_eq_false g4
                    go_wp2_with fail
                    go_end0
                    exact ⟨τ2, rfl, CutOk.done (σ2 := τ2) HM.out HCU.out HT2.out.2.1 HT2.out.2.2 (fun hh => absurd hh.2 g4) (fun _ => rfl), HX.out⟩
                · have q13 : decide (mid < e) = false := decide_eq_false g3
                  go_wp2_with fail
                  go_end0
                  exact ⟨τ2, rfl, CutOk.done (σ2 := τ2) HM.out HCU.out HT2.out.2.1 HT2.out.2.2 (fun hh => absurd hh.1 g3) (fun _ => rfl), HX.out⟩
            · have q11 : decide (a < s) = false := decide_eq_false g1
              obtain ⟨τ2, hτ2⟩ : ∃ τ2, rotF σ s m e = τ2 := ⟨_, rfl⟩
              have HT2 : Hid (PermF a mid (rotF σ s m e) τ2 ∧ (a < s ∧ s < mid → MergOut (fun i => Ky (f i)) (rotF σ s m e) τ2 a mid) ∧ (¬ (a < s ∧ s < mid) → τ2 = rotF σ s m e)) := by rw [← hτ2]; exact ⟨.refl _ _ _, fun hh => absurd hh.1 g1, fun _ => rfl⟩
              have HX : Hid (Sep w0 w (ThRow 1 (.slice (some ⟨g, off, none⟩) n c) (cellsF n (strF f τ2)) :: R) rows) := by rw [← hτ2]; exact HX
              clear hτ2
              by_cases g3 : mid < e
              · by_cases g4 : e < b
                · have q13 : decide (mid < e) = true := decide_eq_true g3
                  have q14 : decide (e < b) = true := decide_eq_true g4
                  have hc2 := HI.out w τ2 mid e b (by omega) (by omega) (HCU.out.in2 HM.out HT2.out.1 g3 g4) HX.out
                  go_wp2_with fail
                  refine hc2.mono ?_
                  rintro e1 w ⟨τ3, rfl, ho3, hx⟩
                  clear HX hc2
                  have HX := Lib.hid hx
                  clear hx
                  go_wp2_with fail
                  go_end0
                  exact ⟨τ3, rfl, CutOk.done (σ2 := τ2) HM.out HCU.out HT2.out.2.1 HT2.out.2.2 (fun _ => ho3) (fun hh => absurd ⟨g3, g4⟩ hh), HX.out⟩
                · have q13 : decide (mid < e) = true := decide_eq_true g3
                  have q14 : decide (e < b) = false := decide_eq_false g4
                  go_wp2_with fail
                  go_end0
                  exact ⟨τ2, rfl, CutOk.done (σ2 := τ2) HM.out HCU.out HT2.out.2.1 HT2.out.2.2 (fun hh => absurd hh.2 g4) (fun _ => rfl), HX.out⟩
              · have q13 : decide (mid < e) = false := decide_eq_false g3
                go_wp2_with fail
                go_end0
                exact ⟨τ2, rfl, CutOk.done (σ2 := τ2) HM.out HCU.out HT2.out.2.1 HT2.out.2.2 (fun hh => absurd hh.1 g3) (fun _ => rfl), HX.out⟩
        · have q15 : decide (s < m) = false := decide_eq_false g5
          have HX : Hid (Sep w0 w (ThRow 1 (.slice (some ⟨g, off, none⟩) n c) (cellsF n (strF f (rotF σ s m e))) :: R) rows) := by
            rw [show s = m by have := HCU.out.sm; omega, rotF_none1 σ HCU.out.me]; exact HX
          by_cases g1 : a < s
          · by_cases g2 : s < mid
            · have q11 : decide (a < s) = true := decide_eq_true g1
              have q12 : decide (s < mid) = true := decide_eq_true g2
              have hc1 := HI.out w _ a s mid (by omega) (by omega) (HCU.out.in1 HM.out g1 g2) HX.out
              go_wp2_with fail
              refine hc1.mono ?_
              rintro e1 w ⟨τ2, rfl, ho2, hx⟩
              clear HX hc1
              have HX := Lib.hid hx
              clear hx
              have HT2 := Lib.hid (show PermF a mid (rotF σ s m e) τ2 ∧ (a < s ∧ s < mid → MergOut _ (rotF σ s m e) τ2 a mid) ∧ (¬ (a < s ∧ s < mid) → τ2 = rotF σ s m e) from ⟨ho2.1, fun _ => ho2, fun hh => absurd ⟨g1, g2⟩ hh⟩)
              clear ho2
              by_cases g3 : mid < e
              · by_cases g4 : e < b
                · have q13 : decide (mid < e) = true := decide_eq_true g3
                  have q14 : decide (e < b) = true := decide_eq_true g4
                  have hc2 := HI.out w τ2 mid e b (by omega) (by omega) (HCU.out.in2 HM.out HT2.out.1 g3 g4) HX.out
                  go_wp2_with fail
                  refine hc2.mono ?_
                  rintro e1 w ⟨τ3, rfl, ho3, hx⟩
                  clear HX hc2
                  have HX := Lib.hid hx
                  clear hx
                  go_wp2_with fail
                  go_end0
                  exact ⟨τ3, rfl, CutOk.done (σ2 := τ2) HM.out HCU.out HT2.out.2.1 HT2.out.2.2 (fun _ => ho3) (fun hh => absurd ⟨g3, g4⟩ hh), HX.out⟩
                · have q13 : decide (mid < e) = true := decide_eq_true g3
                  have q14 : decide (e < b) = false := decide_eq_false g4
                  go_wp2_with fail
                  go_end0
                  exact ⟨τ2, rfl, CutOk.done (σ2 := τ2) HM.out HCU.out HT2.out.2.1 HT2.out.2.2 (fun hh => absurd hh.2 g4) (fun _ => rfl), HX.out⟩
              · have q13 : decide (mid < e) = false := decide_eq_false g3
                go_wp2_with fail
                go_end0
                exact ⟨τ2, rfl, CutOk.done (σ2 := τ2) HM.out HCU.out HT2.out.2.1 HT2.out.2.2 (fun hh => absurd hh.1 g3) (fun _ => rfl), HX.out⟩
            · have q11 : decide (a < s) = true := decide_eq_true g1
              have q12 : decide (s < mid) = false := decide_eq_false g2
              obtain ⟨τ2, hτ2⟩ : ∃ τ2, rotF σ s m e = τ2 := ⟨_, rfl⟩
              have HT2 : Hid (PermF a mid (rotF σ s m e) τ2 ∧ (a < s ∧ s < mid → MergOut (fun i => Ky (f i)) (rotF σ s m e) τ2 a mid) ∧ (¬ (a < s ∧ s < mid) → τ2 = rotF σ s m e)) := by rw [← hτ2]; exact ⟨.refl _ _ _, fun hh => absurd hh.2 g2, fun _ => rfl⟩
              have HX : Hid (Sep w0 w (ThRow 1 (.slice (some ⟨g, off, none⟩) n c) (cellsF n (strF f τ2)) :: R) rows) := by rw [← hτ2]; exact HX
              clear hτ2
              by_cases g3 : mid < e
              · by_cases g4 : e < b
                · have q13 : decide (mid < e) = true := decide_eq_true g3
                  have q14 : decide (e < b) = true := decide_eq_true g4
                  have hc2 := HI.out w τ2 mid e b (by omega) (by omega) (HCU.out.in2 HM.out HT2.out.1 g3 g4) HX.out
                  go_wp2_with fail
                  refine hc2.mono ?_
                  rintro e1 w ⟨τ3, rfl, ho3, hx⟩
                  clear HX hc2
                  have HX := Lib.hid hx
                  clear hx
                  go_wp2_with fail
                  go_end0
                  exact ⟨τ3, rfl, CutOk.done (σ2 := τ2) HM.out HCU.out HT2.out.2.1 HT2.out.2.2 (fun _ => ho3) (fun hh => absurd ⟨g3, g4⟩ hh), HX.out⟩
                · have q13 : decide (mid < e) = true := decide_eq_true g3
                  have q14 : decide (e < b) = false := decide_eq_false g4
                  go_wp2_with fail
                  go_end0
                  exact ⟨τ2, rfl, CutOk.done (σ2 := τ2) HM.out HCU.out HT2.out.2.1 HT2.out.2.2 (fun hh => absurd hh.2 g4) (fun _ => rfl), HX.out⟩
              · have q13 : decide (mid < e) = false := decide_eq_false g3
                go_wp2_with fail
                go_end0
                exact ⟨τ2, rfl, CutOk.done (σ2 := τ2) HM.out HCU.out HT2.out.2.1 HT2.out.2.2 (fun hh => absurd hh.1 g3) (fun _ => rfl), HX.out⟩
          · have q11 : decide (a < s) = false := decide_eq_false g1
            obtain ⟨τ2, hτ2⟩ : ∃ τ2, rotF σ s m e = τ2 := ⟨_, rfl⟩
            have HT2 : Hid (PermF a mid (rotF σ s m e) τ2 ∧ (a < s ∧ s < mid → MergOut (fun i => Ky (f i)) (rotF σ s m e) τ2 a mid) ∧ (¬ (a < s ∧ s < mid) → τ2 = rotF σ s m e)) := by rw [← hτ2]; exact ⟨.refl _ _ _, fun hh => absurd hh.1 g1, fun _ => rfl⟩
            have HX : Hid (Sep w0 w (ThRow 1 (.slice (some ⟨g, off, none⟩) n c) (cellsF n (strF f τ2)) :: R) rows) := by rw [← hτ2]; exact HX
            clear hτ2
            by_cases g3 : mid < e
            · by_cases g4 : e < b
              · have q13 : decide (mid < e) = true := decide_eq_true g3
                have q14 : decide (e < b) = true := decide_eq_true g4
                have hc2 := HI.out w τ2 mid e b (by omega) (by omega) (HCU.out.in2 HM.out HT2.out.1 g3 g4) HX.out
                go_wp2_with fail
                refine hc2.mono ?_
                rintro e1 w ⟨τ3, rfl, ho3, hx⟩
                clear HX hc2
                have HX := Lib.hid hx
                clear hx
                go_wp2_with fail
                go_end0
                exact ⟨τ3, rfl, CutOk.done (σ2 := τ2) HM.out HCU.out HT2.out.2.1 HT2.out.2.2 (fun _ => ho3) (fun hh => absurd ⟨g3, g4⟩ hh), HX.out⟩
              · have q13 : decide (mid < e) = true := decide_eq_true g3
                have q14 : decide (e < b) = false := decide_eq_false g4
                go_wp2_with fail
                go_end0
                exact ⟨τ2, rfl, CutOk.done (σ2 := τ2) HM.out HCU.out HT2.out.2.1 HT2.out.2.2 (fun hh => absurd hh.2 g4) (fun _ => rfl), HX.out⟩
            · have q13 : decide (mid < e) = false := decide_eq_false g3
              go_wp2_with fail
              go_end0
              exact ⟨τ2, rfl, CutOk.done (σ2 := τ2) HM.out HCU.out HT2.out.2.1 HT2.out.2.2 (fun hh => absurd hh.1 g3) (fun _ => rfl), HX.out⟩
      case pos =>
        have q0 : decide (s < r) = true := decide_eq_true hlt
        obtain ⟨hn1, hn2, hn3⟩ := i64_idx (x := (mid : Int) + (m : Int) - 1 - ((s : Int) + (r : Int)) / 2) (k := mid + m - 1 - (s + r) / 2) (n := n) (by omega) (by omega) hn
        obtain ⟨hn4, hn5, hn6⟩ := i64_idx (x := ((s : Int) + (r : Int)) / 2) (k := (s + r) / 2) (n := n) (by omega) (by omega) hn
        have hn7 : (((s : Int) + (r : Int)) / 2 ≤ (mid : Int) + (m : Int) - 1 ∧ (mid : Int) + (m : Int) - 1 - ((s : Int) + (r : Int)) / 2 < (n : Int)) = True := eq_true (by omega)
        go_wp2_with fail
        refine wp_region_M (fun W => Sep w0 W (ThRow 1 (.slice (some ⟨g, off, none⟩) n c) (cellsF n (strF f σ)) :: R) rows) 14 (by kernel_rfl) ?_
        have KEEPX : ∀ W, Sep w0 W (ThRow 1 (.slice (some ⟨g, off, none⟩) n c) (cellsF n (strF f σ)) :: R) rows → Sep w0 W (ThRow 1 (.slice (some ⟨g, off, none⟩) n c) (cellsF n (strF f σ)) :: R) rows := fun _ h => h
        have hl : ∀ W, Sep w0 W (ThRow 1 (.slice (some ⟨g, off, none⟩) n c) (cellsF n (strF f σ)) :: R) rows → _ := fun W hW => str_load (i := mid + m - 1 - (s + r) / 2) hW (by omega)
        have hl2 : ∀ W, Sep w0 W (ThRow 1 (.slice (some ⟨g, off, none⟩) n c) (cellsF n (strF f σ)) :: R) rows → _ := fun W hW => str_load (i := (s + r) / 2) hW (by omega)
        replace HX := Lib.hid HX.out.drew
        refine wpAnyM_take (by kernel_rfl) (by intro c a d v w h; cases d <;> exact h) [(0, false), (1, false), (2, false), (3, false), (4, false), (5, false), (6, true), (7, false), (8, false), (9, false), (10, true)] (fuel := 3) (by kernel_rfl) ?_
        apply Exists.intro; refine ⟨?_, HX.out, ?_⟩
        · iterate 11 (first | refine yEp ?_ | ((first | apply yieldP | apply yieldL); (· (simp only [k_i, k_j, k_k]; try rfl)); (· rfl); (· (intros; go_simp; (try simp only [hn1, hn2, hn3, hn4, hn5, hn6, hn7, ↓reduceIte, and_self, Int.toNat_natCast]); try with_reducible rfl)); (· (simp only [Act.put, k_a, k_b, k_c, k_d, k_e, k_f, k_g, k_h]; try rfl))))
          exact rfl
        clear hl hl2
        refine wpAnyM_one (fuel := 2) (i := 11) (by kernel_rfl) (by (simp only [k_i, k_j, k_k]; try rfl)) (fun K hK => ?_)
        go_wp2_with fail
        refine (HC.out (f (σ (mid + m - 1 - (s + r) / 2))) (f (σ ((s + r) / 2))) _ _ _ (HF.out _) (HF.out _) HX.out).mono ?_
        rintro e w ⟨z, rfl, hr, hx⟩
        clear HX
        have HX := Lib.hid hx
        clear hx
        go_wp2_with fail
        refine hK _ _ HX.out ?_
        clear hK hn1 hn2 hn3 hn4 hn5 hn6 hn7
        by_cases hr0 : z < 0
        · have q2 : decide (z < 0) = true := decide_eq_true hr0
          have hr := hr.1 hr0
          refine wpAnyM_take (by kernel_rfl) (by intro c a d v w h; cases d <;> exact h) [(12, false), (13, false)] (fuel := 0) (by kernel_rfl) ?_
          apply Exists.intro; refine ⟨?_, HX.out, ?_⟩
          · iterate 2 (first | refine yEp ?_ | ((first | apply yieldP | apply yieldL); (· (simp only [k_i, k_j, k_k]; try rfl)); (· rfl); (· (intros; go_simp; (try simp only [hn1, hn2, hn3, hn4, hn5, hn6, hn7, ↓reduceIte, and_self, Int.toNat_natCast]); try with_reducible rfl)); (· (simp only [Act.put, k_a, k_b, k_c, k_d, k_e, k_f, k_g, k_h]; try rfl))))
            exact rfl
          refine wpAnyM_done (by kernel_rfl) ?_ _
          go_wp2_with fail
          go_roundg ((s + r) / 2 - s)
          case rel => exact ⟨s, (s + r) / 2, by omega, rfl, by go_num, by omega, by omega, HG.out.1, fun x g1 g2 => by
            have k1 := HM.out.left.le (i := (s + r) / 2) (j := x) (by omega) g1 (by omega)
            have k2 := HM.out.right.le (i := mid + m - 1 - x) (j := mid + m - 1 - (s + r) / 2) (by omega) (by omega) (by omega)
            have k1 : Ky (f (σ ((s + r) / 2))) ≤ Ky (f (σ x)) := k1
            have k2 : Ky (f (σ (mid + m - 1 - x))) ≤ Ky (f (σ (mid + m - 1 - (s + r) / 2))) := k2
            omega, HX.out⟩
          case measure => omega
        · have q2 : decide (z < 0) = false := decide_eq_false hr0
          have hr : ¬ Ky (f (σ (mid + m - 1 - (s + r) / 2))) < Ky (f (σ ((s + r) / 2))) := fun hh => hr0 (hr.2 hh)
          refine wpAnyM_take (by kernel_rfl) (by intro c a d v w h; cases d <;> exact h) [(12, false), (13, false)] (fuel := 0) (by kernel_rfl) ?_
          apply Exists.intro; refine ⟨?_, HX.out, ?_⟩
          · iterate 2 (first | refine yEp ?_ | ((first | apply yieldP | apply yieldL); (· (simp only [k_i, k_j, k_k]; try rfl)); (· rfl); (· (intros; go_simp; (try simp only [hn1, hn2, hn3, hn4, hn5, hn6, hn7, ↓reduceIte, and_self, Int.toNat_natCast]); try with_reducible rfl)); (· (simp only [Act.put, k_a, k_b, k_c, k_d, k_e, k_f, k_g, k_h]; try rfl))))
            exact rfl
          refine wpAnyM_done (by kernel_rfl) ?_ _
          go_wp2_with fail
          go_roundg (r - ((s + r) / 2 + 1))
          case rel => exact ⟨(s + r) / 2 + 1, r, by omega, by go_num, rfl, by omega, by omega, fun x g1 g2 => by
            have k1 := HM.out.left.le (i := x) (j := (s + r) / 2) (by omega) (by omega) (by omega)
            have k2 := HM.out.right.le (i := mid + m - 1 - (s + r) / 2) (j := mid + m - 1 - x) (by omega) (by omega) (by omega)
            have k1 : Ky (f (σ x)) ≤ Ky (f (σ ((s + r) / 2))) := k1
            have k2 : Ky (f (σ (mid + m - 1 - (s + r) / 2))) ≤ Ky (f (σ (mid + m - 1 - x))) := k2
            omega, HG.out.2, HX.out⟩
          case measure => omega
theorem sym_any (hc : LessC w0 Ky ok) (hf : ∀ i, ok (f i)) (hn : n ≤ 100000) : ∀ L, SymC w0 g off n c f Ky R rows L
  | 0 => fun w σ a m b hL hb hm h => by
    have := hm.am
    have := hm.mb
    omega
  | L + 1 => fun w σ a m b hL hb hm h => by
    by_cases h1 : m = a + 1
    · subst h1
      exact sym_one1 hc hf hn w σ a b hb hm h
    · by_cases h2 : b = m + 1
      · subst h2
        exact sym_one2 hc hf hn w σ a m hb (by have := hm.am; omega) hm h
      · exact sym_more hc hf hn L (sym_any hc hf hn L) w σ a m b hL hb (by have := hm.am; omega) (by have := hm.mb; omega) hm h
end
end Go.Proofs.YtjeaoopamebgjaaGreatDoor

namespace Go.Av
def BlkA (K : Nat → Int) (σ : Nat → Nat) (n bs a : Nat) : Prop := ∀ q, q * bs < a → q * bs < n → InBlk K σ (q * bs) (min (q * bs + bs) n)
def BlkB (K : Nat → Int) (σ : Nat → Nat) (n bs a : Nat) : Prop := ∀ q, a ≤ q * bs → q * bs < n → InBlk K σ (q * bs) (min (q * bs + bs) n)
theorem blk_merge {K : Nat → Int} {σ τ : Nat → Nat} {n bs a b : Nat} (hbs : 0 < bs) {q : Nat} (ha : a = q * (2 * bs)) (hb : b = min (a + 2 * bs) n) (hm : a + bs < n) (hA : BlkA K σ n (2 * bs) a) (hB : BlkB K σ n bs a) (ho : MergOut K σ τ a b) :
    BlkA K τ n (2 * bs) (a + 2 * bs) ∧ BlkB K τ n bs (a + 2 * bs) := by
  have e1 : (2 * q) * bs = a := by rw [ha, Nat.mul_comm 2 q, Nat.mul_assoc]
  have e2 : (2 * q + 1) * bs = a + bs := by rw [Nat.add_mul, e1, Nat.one_mul]
  have b1 := hB (2 * q) (by omega) (by omega)
  have b2 := hB (2 * q + 1) (by omega) (by omega)
  rw [e1] at b1
  rw [e2] at b2
  rw [show min (a + bs) n = a + bs by omega] at b1
  rw [show min (a + bs + bs) n = b by omega] at b2
  refine ⟨fun r h1 h2 => ?_, fun r h1 h2 => ?_⟩
  · rcases Nat.lt_trichotomy r q with h3 | h3 | h3
    · have h4 : (r + 1) * (2 * bs) ≤ q * (2 * bs) := Nat.mul_le_mul_right _ h3
      rw [Nat.add_mul, Nat.one_mul, ← ha] at h4
      exact (hA r (by omega) h2).keep ho.1 (by omega)
    · subst h3
      rw [← ha, ← hb]
      exact b1.join (by omega) (by omega) b2 ho
    · have h4 : (q + 1) * (2 * bs) ≤ r * (2 * bs) := Nat.mul_le_mul_right _ h3
      rw [Nat.add_mul, Nat.one_mul, ← ha] at h4
      omega
  · exact (hB r (by omega) h2).keep ho.1 (by omega)
theorem blk_last {K : Nat → Int} {σ : Nat → Nat} {n bs a : Nat} {q : Nat} (hbs : 0 < bs) (ha : a = q * (2 * bs)) (hm : n ≤ a + bs) (hA : BlkA K σ n (2 * bs) a) (hB : BlkB K σ n bs a) : BlkA K σ n (2 * bs) n := by
  intro r h1 h2
  rcases Nat.lt_trichotomy r q with h3 | h3 | h3
  · have h4 : (r + 1) * (2 * bs) ≤ q * (2 * bs) := Nat.mul_le_mul_right _ h3
    rw [Nat.add_mul, Nat.one_mul, ← ha] at h4
    exact hA r (by omega) h2
  · subst h3
    have e1 : (2 * r) * bs = a := by rw [ha, Nat.mul_comm 2 r, Nat.mul_assoc]
    have b1 := hB (2 * r) (by omega) (by omega)
    rw [e1] at b1
    rw [← ha]
    rw [← ha] at h2
    rw [show min (a + 2 * bs) n = min (a + bs) n by omega]
    exact b1
  · have h4 : (q + 1) * (2 * bs) ≤ r * (2 * bs) := Nat.mul_le_mul_right _ h3
    rw [Nat.add_mul, Nat.one_mul, ← ha] at h4
    omega
theorem BlkA.whole {K : Nat → Int} {σ : Nat → Nat} {n bs : Nat} (h : BlkA K σ n bs n) (hn : n ≤ bs) : InBlk K σ 0 n := by
  by_cases h0 : n = 0
  · subst h0
    exact ⟨fun i j g1 g2 g3 => by omega, fun i g1 g2 => by omega⟩
  · have := h 0 (by omega) (by omega)
    rw [Nat.zero_mul, Nat.zero_add, show min bs n = n by omega] at this
    exact this
end Go.Av
namespace Go.Proofs.YtjeaoopamebgjaaGreatDoor
open Go.RowKit Go.Av
section
variable {w0 : World} {R : List Thing} {rows : List (Value × Bs)} {g off n c : Nat} {f : Nat → Bs} {Ky : Bs → Int} {ok : Bs → Prop}
set_option maxRecDepth 100000 in
set_option maxHeartbeats 8000000 in
theorem stable_any (hc : LessC w0 Ky ok) (hf : ∀ i, ok (f i)) (hn : n ≤ 100000) (w : World) (h : Sep w0 w (ThRow 1 (.slice (some ⟨g, off, none⟩) n c) (cellsF n (strF f fun i => i)) :: R) rows) :
    Calls Tryz.prog 63 #[.slice (some ⟨g, off, none⟩) n c, .int .i64 (n : Int), lessV] w (SortPost w0 g off n c f R rows fun τ => PermF 0 n (fun i => i) τ ∧ InBlk (fun i => Ky (f i)) τ 0 n) := by
  have HC := Lib.hid hc
  have HF := Lib.hid hf
  have HX := Lib.hid h
  clear h hc hf
  go_enter Tryz.func63, Tryz.ntmps63
  go_wp2_with fail
  go_loopg [7, 8] n (fun k v v' wr => ∃ (q a : Nat) (σ : Nat → Nat), a = q * 20 ∧ n - a = k ∧ a ≤ n ∧ v = .int .i64 (a : Int) ∧ v' = .int .i64 ((a : Int) + 20) ∧ PermF 0 n (fun i => i) σ ∧ (∀ x, a ≤ x → x < n → σ x = x) ∧ BlkA (fun i => Ky (f i)) σ n 20 a ∧
    Sep w0 wr (ThRow 1 (.slice (some ⟨g, off, none⟩) n c) (cellsF n (strF f σ)) :: R) rows)
  case atStart => exact ⟨0, 0, fun i => i, by omega, by omega, by omega, by go_num, by go_num, .refl _ _ _, fun x _ _ => rfl, fun q g1 g2 => by omega, HX.out⟩
  case round =>
    rename World => w
    obtain ⟨q, a, σ, haq, hk, han, rfl, rfl, hp, hid, hA, hS⟩ := hrel
    clear HX
    have HX := Lib.hid hS
    have HT := Lib.hid (show _ ∧ _ ∧ _ from ⟨hp, hid, hA⟩)
    clear hS hp hid hA
    have HQ := Lib.hid (show _ ∧ _ from ⟨haq, hk⟩)
    clear haq hk
    by_cases hlt : a + 20 ≤ n
    case pos =>
      have q0 : decide ((a : Int) + 20 ≤ (n : Int)) = true := decide_eq_true (by omega)
      have hc2 := insertion_any HC.out HF.out HX.out a (a + 20) (by omega) hlt hn (fun x g1 g2 => HT.out.2.1 x g1 (by omega))
      rw [show ((a + 20 : Nat) : Int) = (a : Int) + 20 by omega] at hc2
      go_wp2_with fail
      refine hc2.mono ?_
      rintro e w ⟨τ, rfl, ⟨hp, hb⟩, hx⟩
      clear HX hc2
      have HX := Lib.hid hx
      have HN := Lib.hid (show _ ∧ _ from ⟨hp, hb⟩)
      clear hx hp hb
      go_wp2_with fail
      go_roundg (n - (a + 20))
      case rel =>
        refine ⟨q + 1, a + 20, τ, by have := HQ.out.1; omega, rfl, hlt, by go_num, by go_num, HT.out.1.trans (HN.out.1.wide (by omega) (by omega)), fun x g1 g2 => ?_, fun r g1 g2 => ?_, HX.out⟩
        · rw [HN.out.1.out x (by omega)]
          exact HT.out.2.1 x (by omega) g2
        · have hq := HQ.out.1
          by_cases hr : r * 20 < a
          · exact (HT.out.2.2 r hr g2).keep HN.out.1 (by omega)
          · have : r = q := by omega
            rw [this, ← hq, show min (a + 20) n = a + 20 by omega]
            exact HN.out.2
      case measure => have := HQ.out.2; omega
    case neg =>
      have q0 : decide ((a : Int) + 20 ≤ (n : Int)) = false := decide_eq_false (by omega)
      have hc2 := insertion_any HC.out HF.out HX.out a n han (Nat.le_refl _) hn (fun x g1 g2 => HT.out.2.1 x g1 g2)
      go_wp2_with fail
      refine hc2.mono ?_
      rintro e w ⟨τ, rfl, ⟨hp, hb⟩, hx⟩
      have hA : BlkA (fun i => Ky (f i)) τ n 20 n := fun r g1 g2 => by
        have hq := HQ.out.1
        by_cases hr : r * 20 < a
        · exact (HT.out.2.2 r hr g2).keep hp (by omega)
        · have hq := HQ.out.1
          have : r = q := by omega
          rw [this, ← hq, show min (a + 20) n = n by omega]
          exact hb
      have hP := HT.out.1.trans (hp.wide (by omega) (Nat.le_refl _))
      clear HX hc2 HT
      have HX := Lib.hid hx
      have HB := Lib.hid (show _ ∧ _ from ⟨hA, hP⟩)
      clear hx hp hb hA hP hlt han q0
      go_wp2_with fail
      go_loopg [6] (n - 20) (fun k v wr => ∃ (bs : Nat) (σ : Nat → Nat), n - bs = k ∧ v = .int .i64 (bs : Int) ∧ 0 < bs ∧ bs ≤ 200000 ∧ PermF 0 n (fun i => i) σ ∧ BlkA (fun i => Ky (f i)) σ n bs n ∧
        Sep w0 wr (ThRow 1 (.slice (some ⟨g, off, none⟩) n c) (cellsF n (strF f σ)) :: R) rows)
      case atStart => exact ⟨20, τ, by omega, by go_num, by omega, by omega, HB.out.2, HB.out.1, HX.out⟩
      case round =>
        rename World => w
        obtain ⟨bs, ρ, hk, rfl, hb0, hb2, hp, hA, hS⟩ := hrel
        clear HX HB
        have HX := Lib.hid hS
        have HB := Lib.hid (show _ ∧ _ ∧ _ from ⟨hp, hA, hk⟩)
        clear hS hp hA hk
        by_cases hbn : bs < n
        case neg =>
          have q1 : decide (bs < n) = false := decide_eq_false hbn
          go_wp2_with fail
          go_end0
          exact ⟨ρ, rfl, ⟨HB.out.1, HB.out.2.1.whole (by omega)⟩, HX.out⟩
        case pos =>
          have q1 : decide (bs < n) = true := decide_eq_true hbn
          go_wp2_with fail
          go_loopg [7, 8] n (fun k v v' wr => ∃ (q a : Nat) (σ : Nat → Nat), a = q * (2 * bs) ∧ n - a = k ∧ a ≤ n ∧ v = .int .i64 (a : Int) ∧ v' = .int .i64 ((a : Int) + 2 * (bs : Int)) ∧ PermF 0 n (fun i => i) σ ∧ BlkA (fun i => Ky (f i)) σ n (2 * bs) a ∧ BlkB (fun i => Ky (f i)) σ n bs a ∧
            Sep w0 wr (ThRow 1 (.slice (some ⟨g, off, none⟩) n c) (cellsF n (strF f σ)) :: R) rows)
          case atStart => exact ⟨0, 0, ρ, by omega, by omega, by omega, by go_num, by go_num, HB.out.1, fun q g1 g2 => by omega, fun q g1 g2 => HB.out.2.1 q g2 g2, HX.out⟩
          case round =>
            rename World => w
            obtain ⟨q, a, σ, haq, hk, han, rfl, rfl, hp, hA, hB, hS⟩ := hrel
            have HZ := Lib.hid HB.out.2.2
            clear HX HB
            have HX := Lib.hid hS
            have HT := Lib.hid (show _ ∧ _ ∧ _ from ⟨hp, hA, hB⟩)
            have HQ := Lib.hid (show _ ∧ _ from ⟨haq, hk⟩)
            have e1 : (2 * q) * bs = a := by rw [haq, Nat.mul_comm 2 q, Nat.mul_assoc]
            have e2 : (2 * q + 1) * bs = a + bs := by rw [Nat.add_mul, e1, Nat.one_mul]
            have hin : a + bs < n → MergIn (fun i => Ky (f i)) σ a (a + bs) (min (a + 2 * bs) n) := fun hh => by
              have b1 := hB (2 * q) (by omega) (by omega)
              have b2 := hB (2 * q + 1) (by omega) (by omega)
              rw [e1] at b1
              rw [e2] at b2
              rw [show min (a + bs) n = a + bs by omega] at b1
              rw [show min (a + bs + bs) n = min (a + 2 * bs) n by omega] at b2
              exact b1.merg b2 (by omega) (by omega)
            clear hS hp hA hB haq hk e1 e2
            by_cases hlt : a + 2 * bs ≤ n
            case pos =>
              have q2 : decide ((a : Int) + 2 * (bs : Int) ≤ (n : Int)) = true := decide_eq_true (by omega)
              have hmi := hin (by omega)
              rw [show min (a + 2 * bs) n = a + 2 * bs by omega] at hmi
              have hc2 := sym_any HC.out HF.out hn (2 * bs) w σ a (a + bs) (a + 2 * bs) (by omega) hlt hmi HX.out
              rw [show ((a + bs : Nat) : Int) = (a : Int) + (bs : Int) by omega, show ((a + 2 * bs : Nat) : Int) = (a : Int) + 2 * (bs : Int) by omega] at hc2
              have HC2 := Lib.hid hc2
              clear hc2 hmi hin
              go_wp2_with fail
              refine HC2.out.mono ?_
              rintro e w ⟨υ, rfl, ho, hx⟩
              have hbm := blk_merge hb0 HQ.out.1 (show a + 2 * bs = min (a + 2 * bs) n by omega) (by omega) HT.out.2.1 HT.out.2.2 ho
              clear HX HC2
              have HX := Lib.hid hx
              have HN := Lib.hid (show _ ∧ _ from ⟨ho, hbm⟩)
              clear hx ho hbm
              go_wp2_with fail
              go_roundg (n - (a + 2 * bs))
              case rel => exact ⟨q + 1, a + 2 * bs, υ, by have := HQ.out.1; rw [Nat.add_mul]; omega, rfl, hlt, by go_num, by go_num, HT.out.1.trans (HN.out.1.1.wide (by omega) (by omega)), HN.out.2.1, HN.out.2.2, HX.out⟩
              case measure => have := HQ.out.2; omega
            case neg =>
              have q2 : decide ((a : Int) + 2 * (bs : Int) ≤ (n : Int)) = false := decide_eq_false (by omega)
              by_cases hm : a + bs < n
              · have q3 : decide ((a : Int) + (bs : Int) < (n : Int)) = true := decide_eq_true (by omega)
                have hmi := hin hm
                rw [show min (a + 2 * bs) n = n by omega] at hmi
                have hc2 := sym_any HC.out HF.out hn (2 * bs) w σ a (a + bs) n (by omega) (Nat.le_refl _) hmi HX.out
                rw [show ((a + bs : Nat) : Int) = (a : Int) + (bs : Int) by omega] at hc2
                have HC2 := Lib.hid hc2
                clear hc2 hmi hin
                go_wp2_with fail
                refine HC2.out.mono ?_
                rintro e w ⟨υ, rfl, ho, hx⟩
                have hbm := blk_merge hb0 HQ.out.1 (show n = min (a + 2 * bs) n by omega) hm HT.out.2.1 HT.out.2.2 ho
                clear HX HC2
                have HX := Lib.hid hx
                have HN := Lib.hid (show _ ∧ _ from ⟨ho, hbm⟩)
                clear hx ho hbm
                go_wp2_with fail
                go_roundg (n - bs * 2)
                case rel => exact ⟨bs * 2, υ, rfl, by go_num, by omega, by omega, HT.out.1.trans (HN.out.1.1.wide (by omega) (by omega)), fun r g1 g2 => by
                  have := HN.out.2.1 r
                  rw [Nat.mul_comm bs 2] at g1 g2 ⊢
                  exact this (by omega) g2, HX.out⟩
                case measure => have := HZ.out; omega
              · have q3 : decide ((a : Int) + (bs : Int) < (n : Int)) = false := decide_eq_false (by omega)
                have hbl := blk_last hb0 HQ.out.1 (by omega) HT.out.2.1 HT.out.2.2
                have HN := Lib.hid hbl
                clear hbl hin
                go_wp2_with fail
                go_roundg (n - bs * 2)
                case rel => exact ⟨bs * 2, σ, rfl, by go_num, by omega, by omega, HT.out.1, by rw [Nat.mul_comm bs 2]; exact HN.out, HX.out⟩
                case measure => have := HZ.out; omega
set_option maxRecDepth 100000 in
theorem sortStable_any (hc : LessC w0 Ky ok) (hf : ∀ i, ok (f i)) (hn : n ≤ 100000) (w : World) (h : Sep w0 w (ThRow 1 (.slice (some ⟨g, off, none⟩) n c) (cellsF n (strF f fun i => i)) :: R) rows) :
    Calls Tryz.prog 38 #[.slice (some ⟨g, off, none⟩) n c, lessV] w (SortPost w0 g off n c f R rows fun τ => PermF 0 n (fun i => i) τ ∧ InBlk (fun i => Ky (f i)) τ 0 n) := by
  have HS := Lib.hid (stable_any hc hf hn w h)
  clear hc hf h
  go_enter Tryz.func38, Tryz.ntmps38
  go_wp2_with fail
  refine HS.out.mono ?_
  rintro e w ⟨τ, rfl, hx⟩
  have HX := Lib.hid hx
  clear hx HS
  go_wp2_with fail
  go_end0
  exact ⟨τ, rfl, HX.out⟩
end
end Go.Proofs.YtjeaoopamebgjaaGreatDoor

namespace Go.Av
open Go.RowKit
def deepP (p : Bs) : Nat := (partsP p).length
def purgeS (l : List Bs) : List Bs := [8, 7, 6, 5, 4, 3, 2, 1].flatMap fun d => l.filter fun p => deepP p == d
theorem flat_perm {α : Type} (k : α → Nat) : ∀ (ds : List Nat) (l : List α), ds.Nodup → (∀ x ∈ l, k x ∈ ds) → (ds.flatMap fun d => l.filter fun x => k x == d).Perm l
  | [], l, _, h => by
    cases l with
    | nil => exact .refl _
    | cons x l => exact absurd (h x k_s) (by simp)
  | d :: ds, l, hn, h => by
    rw [List.flatMap_cons]
    have hne : ∀ d' ∈ ds, d' ≠ d := fun d' hd e => (List.nodup_cons.1 hn).1 (e ▸ hd)
    have he : (ds.flatMap fun d' => l.filter fun x => k x == d') = ds.flatMap fun d' => (l.filter fun x => !(k x == d)).filter fun x => k x == d' := by
      rw [List.flatMap_def, List.flatMap_def]
      congr 1
      apply List.map_congr_left
      intro d' hd
      rw [List.filter_filter]
      apply List.filter_congr
      intro x _
      have := hne d' hd
      by_cases hx : k x = d'
      · have h2 : ¬ k x = d := by omega
        simp [hx, this]
      · simp [hx]
    rw [he]
    refine ((flat_perm k ds (l.filter fun x => !(k x == d)) (List.nodup_cons.1 hn).2 (fun x hx => ?_)).append_left _).trans (List.filter_append_perm _ l)
    have h1 := List.mem_filter.1 hx
    have h2 := h x h1.1
    simp at h1
    rcases List.mem_cons.1 h2 with h3 | h3
    · exact absurd h3 h1.2
    · exact h3
theorem sorted_eq (f : Nat → Bs) (n : Nat) (τ : Nat → Nat) (hp : PermF 0 n (fun i => i) τ) (hb : InBlk (fun i => -(deepP (f i) : Int)) τ 0 n) :
    (((List.range n).map τ).map f).Perm ((List.range n).map f) ∧ ((∀ i, i < n → 1 ≤ deepP (f i) ∧ deepP (f i) ≤ 8) → ((List.range n).map τ).map f = purgeS ((List.range n).map f)) := by
  have hpm : ((List.range n).map τ).Perm (List.range n) := by
    have := hp.all n (Nat.le_refl _)
    rwa [List.map_id'] at this
  refine ⟨hpm.map f, fun hd => ?_⟩
  have he : (List.range n).map τ = [8, 7, 6, 5, 4, 3, 2, 1].flatMap fun d => (List.range n).filter fun i => deepP (f i) == d := by
    refine lex_sorted_eq (K := fun i => -(deepP (f i) : Int)) (hpm.trans (flat_perm (fun i => deepP (f i)) _ _ (by decide) (fun i hi => ?_)).symm) ?_ ?_
    · have := hd i (List.mem_range.1 hi)
      simp
      omega
    · rw [List.pairwise_map]
      refine List.Pairwise.imp_of_mem ?_ List.pairwise_lt_range
      intro i j hi hj hij
      exact hb.sort i j (Nat.zero_le _) hij (List.mem_range.1 hj)
    · rw [List.pairwise_flatMap]
      refine ⟨fun d _ => ?_, ?_⟩
      · refine List.Pairwise.imp_of_mem ?_ (List.pairwise_lt_range.filter _)
        intro i j hi hj hij
        have h1 := (List.mem_filter.1 hi).2
        have h2 := (List.mem_filter.1 hj).2
        simp at h1 h2
        exact .inr ⟨show -(deepP (f i) : Int) = -(deepP (f j) : Int) by rw [h1, h2], hij⟩
      · have : ([8, 7, 6, 5, 4, 3, 2, 1] : List Nat).Pairwise (fun a b => b < a) := by decide
        refine this.imp ?_
        intro a b hab x hx y hy
        have h1 := (List.mem_filter.1 hx).2
        have h2 := (List.mem_filter.1 hy).2
        simp at h1 h2
        exact .inl (show -(deepP (f x) : Int) < -(deepP (f y) : Int) by rw [h1, h2]; omega)
  rw [he]
  unfold purgeS
  rw [List.map_flatMap]
  rw [List.flatMap_def, List.flatMap_def]
  congr 1
  apply List.map_congr_left
  intro d _
  rw [List.filter_map]
  rfl
def purT (l : List Bs) (S : TreeS) : TreeS := l.foldl (fun S p => { S with l := remT p S.l }) S
theorem purT_b {K : Nat} : ∀ (l : List Bs) {S : TreeS}, TreeB K S → TreeB K (purT l S)
  | [], _, h => h
  | p :: l, S, h => purT_b l (rem_b h p)
theorem purT_take {l : List Bs} {S : TreeS} {i : Nat} (hi : i < l.length) : purT (l.take (i + 1)) S = { purT (l.take i) S with l := remT l[i] (purT (l.take i) S).l } := by
  rw [List.take_succ_eq_append_getElem hi]
  unfold purT
  rw [List.foldl_append]
  rfl
end Go.Av
namespace Go.Proofs.YtjeaoopamebgjaaGreatDoor
open Go.RowKit Go.Av
section
variable {w0 w : World} {t : Nat} {S : TreeS} {P P' : List PRow} {R : List Thing} {rows : List (Value × Bs)}
set_option maxRecDepth 100000 in
theorem cmpc_any (a b : Int) (w : World) : Calls Tryz.prog 40 #[.int .i64 a, .int .i64 b] w fun e w' => (∃ r : Int, e = .returned (.int .i64 r) ∧ (r < 0 ↔ a < b)) ∧ w' = w := by
  have qa : (a != a) = false := by simp
  have qb : (b != b) = false := by simp
  rcases Int.lt_trichotomy a b with h | h | h
  · have q1 : decide (a < b) = true := decide_eq_true h
    go_enter Tryz.func40, Tryz.ntmps40
    go_wp2
    go_ret
    exact ⟨⟨_, rfl, by omega⟩, rfl⟩
  · subst h
    have q1 : decide (a < a) = false := decide_eq_false (by omega)
    go_enter Tryz.func40, Tryz.ntmps40
    go_wp2
    go_ret
    exact ⟨⟨_, rfl, by omega⟩, rfl⟩
  · have q1 : decide (a < b) = false := decide_eq_false (by omega)
    have q2 : decide (b < a) = true := decide_eq_true h
    go_enter Tryz.func40, Tryz.ntmps40
    go_wp2
    go_ret
    exact ⟨⟨_, rfl, by omega⟩, rfl⟩
set_option maxRecDepth 100000 in
theorem less_any (hd : DoorN w0) : LessC w0 (fun p => -(deepP p : Int)) (fun p => p.length ≤ 100000) := by
  intro x y w R rows hx hy h
  have HX := Lib.hid h
  have hpy := parts_any ⟨y.toArray⟩
  have hpx := parts_any ⟨x.toArray⟩
  have HPY := Lib.hid (fun w hw => hpy w hw (by show y.toArray.size ≤ _; rw [List.size_toArray]; unfold maxLen; omega))
  have HPX := Lib.hid (fun w hw => hpx w hw (by show x.toArray.size ≤ _; rw [List.size_toArray]; unfold maxLen; omega))
  clear h hpx hpy
  unfold sv
  go_enter Tryz.func39, Tryz.ntmps39
  go_wp2_with fail
  refine (HPY.out w (hd.1.sep HX.out)).mono ?_
  rintro e w ⟨v, D, rfl, ho, hu⟩
  obtain ⟨a, n, c, rfl, hl, hn, hc, -⟩ := id ho
  rw [List.length_map, Nat.mul_one] at hl
  have hx2 := HX.out.keep (hu.mono (fun _ h => h) (fun b hb => by cases hb) : Upd _ w [] [])
  clear HX HPY
  have HX := Lib.hid hx2
  clear hx2 ho hu
  go_wp2_with fail
  refine (HPX.out w (hd.1.sep HX.out)).mono ?_
  rintro e w ⟨v, D, rfl, ho, hu⟩
  obtain ⟨a2, n2, c2, rfl, hl2, hn2, hc2, -⟩ := id ho
  rw [List.length_map, Nat.mul_one] at hl2
  have hx2 := HX.out.keep (hu.mono (fun _ h => h) (fun b hb => by cases hb) : Upd _ w [] [])
  clear HX HPX
  have HX := Lib.hid hx2
  clear hx2 ho hu
  go_wp2_with fail
  refine (cmpc_any _ _ _).mono ?_
  rintro e w1 ⟨⟨r, rfl, hr⟩, rfl⟩
  go_wp2_with fail
  go_ret
  refine ⟨r, rfl, hr.trans ?_, HX.out⟩
  have e1 : (partsP y).length = n := hl
  have e2 : (partsP x).length = n2 := hl2
  show (n : Int) < (n2 : Int) ↔ -((partsP x).length : Int) < -((partsP y).length : Int)
  omega
set_option maxRecDepth 100000 in
theorem insertion_nil (a : Option Addr) (c : Nat) (fv : Value) (w : World) : Calls Tryz.prog 93 #[.slice a 0 c, .int .i64 0, .int .i64 0, fv] w fun e w' => e = .returned (.tuple #[]) ∧ w' = w := by
  go_enter Tryz.func93, Tryz.ntmps93
  go_wp2
  refine wp_loop_rounds 1 ?_
  rw [rounds_succ]
  go_wp2
  go_end0
  exact ⟨rfl, rfl⟩
set_option maxRecDepth 100000 in
theorem stable_nil (a : Option Addr) (c : Nat) (fv : Value) (w : World) : Calls Tryz.prog 63 #[.slice a 0 c, .int .i64 0, fv] w fun e w' => e = .returned (.tuple #[]) ∧ w' = w := by
  go_enter Tryz.func63, Tryz.ntmps63
  go_wp2
  refine wp_loop_rounds 1 ?_
  rw [rounds_succ]
  go_wp2_with fail
  refine (insertion_nil a c fv _).mono ?_
  rintro e w1 ⟨rfl, rfl⟩
  go_wp2_with fail
  refine wp_loop_rounds 1 ?_
  rw [rounds_succ]
  go_wp2
  go_end0
  exact ⟨rfl, rfl⟩
set_option maxRecDepth 100000 in
theorem sortStable_nil (a : Option Addr) (c : Nat) (fv : Value) (w : World) : Calls Tryz.prog 38 #[.slice a 0 c, fv] w fun e w' => e = .returned (.tuple #[]) ∧ w' = w := by
  go_enter Tryz.func38, Tryz.ntmps38
  go_wp2_with fail
  refine (stable_nil a c fv _).mono ?_
  rintro e w1 ⟨rfl, rfl⟩
  go_wp2_with fail
  go_end0
  exact ⟨rfl, rfl⟩
def DeepPost (w0 : World) (v : Value) (l : List Bs) (R : List Thing) (rows : List (Value × Bs)) (e : Ending) (w' : World) : Prop :=
  e = .returned (.tuple #[]) ∧ ∃ l', l'.Perm l ∧ ((∀ p ∈ l, 1 ≤ deepP p ∧ deepP p ≤ 8) → l' = purgeS l) ∧ Sep w0 w' (ThRow 1 v (l'.map sv) :: R) rows
theorem deep_any (hd : DoorN w0) {v : Value} {l : List Bs} (h : Sep w0 w (ThRow 1 v (l.map sv) :: R) rows) (hl : ∀ p ∈ l, p.length ≤ 100000) (hn : l.length ≤ 100000) :
    Calls Tryz.prog 38 #[v, lessV] w (DeepPost w0 v l R rows) := by
  obtain ⟨a, n, c, rfl, h1, h2, h3⟩ := h.rowLen
  rw [List.length_map, Nat.mul_one] at h1
  by_cases h0 : n = 0
  · subst h0
    refine (sortStable_nil a c lessV w).mono ?_
    rintro e w1 ⟨rfl, rfl⟩
    have : l = [] := List.eq_nil_of_length_eq_zero h1
    subst this
    exact ⟨rfl, [], .refl _, fun _ => rfl, h⟩
  · have hsome : ∃ g off, a = some ⟨g, off, none⟩ := by
      obtain ⟨y, hy, hs, -⟩ := h.rowCell (i := 0) (x := sv (l[0]'(by omega))) (by rw [List.getElem?_map, List.getElem?_eq_getElem (by omega)]; rfl)
      obtain ⟨g, off, sp⟩ := y
      simp only at hs
      subst hs
      exact ⟨g, off, hy⟩
    obtain ⟨g, off, rfl⟩ := hsome
    have hc : l.map sv = cellsF n (strF (fun i => l.getD i []) fun i => i) := by
      apply List.ext_getElem
      · simp [cellsF, h1]
      · intro i g1 g2
        simp only [List.length_map] at g1
        simp [cellsF, strF, g1]
    have hb : (List.range n).map (fun i => l.getD i []) = l := by
      apply List.ext_getElem
      · simp [h1]
      · intro i g1 g2
        simp [g2]
    rw [hc] at h
    refine (sortStable_any (ok := fun p => p.length ≤ 100000) (less_any hd) (fun i => ?_) (by omega) w h).mono ?_
    · rw [List.getD_eq_getElem?_getD]
      cases hg : l[i]? with
      | none => simp
      | some p => exact hl p (List.mem_of_getElem? hg)
    · rintro e w1 ⟨τ, rfl, ⟨hp, hbk⟩, hS⟩
      obtain ⟨e1, e2⟩ := sorted_eq (fun i => l.getD i []) n τ hp hbk
      rw [hb] at e1 e2
      refine ⟨rfl, _, e1, fun hh => e2 (fun i hi => ?_), ?_⟩
      · have : l.getD i [] = l[i]'(by omega) := by rw [List.getD_eq_getElem?_getD, List.getElem?_eq_getElem (by omega)]; rfl
        show 1 ≤ deepP (l.getD i []) ∧ deepP (l.getD i []) ≤ 8
        rw [this]
        exact hh _ (List.getElem_mem _)
      · have : (((List.range n).map τ).map fun i => l.getD i []).map sv = cellsF n (strF (fun i => l.getD i []) τ) := by
          simp [cellsF, strF, Function.comp_def]
        rw [this]
        exact hS
def PurPost (w0 : World) (t : Nat) (S : TreeS) (P : List PRow) (R : List Thing) (rows : List (Value × Bs)) (l : List Bs) (e : Ending) (w' : World) : Prop :=
  ∃ l', l'.Perm l ∧ ((∀ p ∈ l, 1 ≤ deepP p ∧ deepP p ≤ 8) → l' = purgeS l) ∧ RowPost w0 t (purT l' S) P R rows l' e w'
def PurRel (w0 : World) (t : Nat) (S : TreeS) (P : List PRow) (R : List Thing) (rows : List (Value × Bs)) (v : Value) (l : List Bs) (k : Nat) (vi : Value) (w : World) : Prop :=
  ∃ (i : Nat) (P' : List PRow), i + k = l.length ∧ vi = .int .i64 (i : Int) ∧ (∀ r ∈ P, r ∈ P') ∧ Sep w0 w (ThPool w0 P' :: ThTree t (purT (l.take i) S) P' :: ThRow 1 v (l.map sv) :: R) rows
set_option maxRecDepth 100000 in
set_option maxHeartbeats 4000000 in
theorem purge_any {K : Nat} (h : Sep w0 w (ThPool w0 P :: ThTree t S P :: R) rows) (hd : DoorN w0) (hB : TreeB K S) (hK : K ≤ 100000) (sess : Int) :
    Calls Tryz.prog 22 #[.pointer (some ⟨t, 0, none⟩), .int .i64 sess] w (PurPost w0 t S P R rows (ofT S sess)) := by
  have HX := Lib.hid h
  have HB := Lib.hid (show _ ∧ _ from ⟨hB, hK⟩)
  clear h hB hK
  go_enter Tryz.func22, Tryz.ntmps22
  go_wp2_with (first | (refine sWL ?_; simp only [Act.put, k_a, k_b, k_c, k_d, k_e, k_f, k_g, k_h, NodeS.cells, OpS.cells, ResS.cells]) | (refine sWM ?_; simp only [Act.put, k_a, k_b, k_c]) | ((first | refine sWS ?_ | refine sWT ?_); clear HX; intro w HX; simp only [Act.put, k_a, k_b, k_c, setMany, Nat.reduceAdd, NodeS.cells, OpS.cells, ResS.cells] at HX ⊢) | (refine sWA ?_; clear HX; (first | (have hq := b; clear hq; intro w b2 HX) | intro w b HX); simp only [Act.put, k_a, k_b, k_c]) | ((first | (refine sWN ?_; clear HX; intro w mm HX) | (refine sWP ?_; clear HX; intro w av nv cv HX)); simp only [Act.put, k_a, k_b, k_c]))
  refine (tofRow_any HX.out sess (by have := HB.out.1.many; omega) (fun e he => by have := HB.out.1.keys e he; omega)).mono ?_
  rintro e w ⟨v, P', rfl, hP', hS⟩
  obtain ⟨a0, n0, c0, rfl, hl0, hn0, hc0⟩ := hS.rowLen
  rw [List.length_map, Nat.mul_one] at hl0
  clear HX
  have HX := Lib.hid hS
  have HP := Lib.hid hP'
  clear hS hP'
  go_wp2_with (first | (refine sWL ?_; simp only [Act.put, k_a, k_b, k_c, k_d, k_e, k_f, k_g, k_h, NodeS.cells, OpS.cells, ResS.cells]) | (refine sWM ?_; simp only [Act.put, k_a, k_b, k_c]) | ((first | refine sWS ?_ | refine sWT ?_); clear HX; intro w HX; simp only [Act.put, k_a, k_b, k_c, setMany, Nat.reduceAdd, NodeS.cells, OpS.cells, ResS.cells] at HX ⊢) | (refine sWA ?_; clear HX; (first | (have hq := b; clear hq; intro w b2 HX) | intro w b HX); simp only [Act.put, k_a, k_b, k_c]) | ((first | (refine sWN ?_; clear HX; intro w mm HX) | (refine sWP ?_; clear HX; intro w av nv cv HX)); simp only [Act.put, k_a, k_b, k_c]))
  refine (deep_any hd HX.out (fun p hp => ?_) ?_).mono ?_
  · obtain ⟨e, he, rfl⟩ := List.mem_map.1 hp
    have := HB.out.1.keys e (List.mem_filter.1 he).1
    omega
  · have h1 : (ofT S sess).length ≤ S.l.length := by unfold ofT; rw [List.length_map]; exact List.length_filter_le _ _
    have := HB.out.1.many
    omega
  rintro e w ⟨rfl, l', hp, hpu, hS⟩
  have hlen := hp.length_eq
  have hkey : ∀ p ∈ l', p.length ≤ 200 := fun p hpm => by
    obtain ⟨e, he, rfl⟩ := List.mem_map.1 (hp.mem_iff.1 hpm)
    exact HB.out.1.keys e (List.mem_filter.1 he).1
  have h500 : l'.length ≤ 500 := by
    have h1 : (ofT S sess).length ≤ S.l.length := by unfold ofT; rw [List.length_map]; exact List.length_filter_le _ _
    have := HB.out.1.many
    omega
  have HPU := Lib.hid (show _ ∧ _ ∧ _ from ⟨hp, hpu, hkey⟩)
  rw [← hl0] at hn0 HX
  rw [← hl0]
  rw [← hlen] at hn0
  rw [← hl0] at hS
  rw [← hlen] at hS ⊢
  clear HX hp hpu hkey hl0 hlen
  have HX := Lib.hid hS
  clear hS
  go_wp2_with (first | (refine sWL ?_; simp only [Act.put, k_a, k_b, k_c, k_d, k_e, k_f, k_g, k_h, NodeS.cells, OpS.cells, ResS.cells]) | (refine sWM ?_; simp only [Act.put, k_a, k_b, k_c]) | ((first | refine sWS ?_ | refine sWT ?_); clear HX; intro w HX; simp only [Act.put, k_a, k_b, k_c, setMany, Nat.reduceAdd, NodeS.cells, OpS.cells, ResS.cells] at HX ⊢) | (refine sWA ?_; clear HX; (first | (have hq := b; clear hq; intro w b2 HX) | intro w b HX); simp only [Act.put, k_a, k_b, k_c]) | ((first | (refine sWN ?_; clear HX; intro w mm HX) | (refine sWP ?_; clear HX; intro w av nv cv HX)); simp only [Act.put, k_a, k_b, k_c]))
  have HST := Lib.hid (show PurRel w0 t S P' R rows (.slice a0 l'.length c0) l' l'.length (.int .i64 (0 : Int)) _ from ⟨0, P', by simp, rfl, fun q hq => hq, HX.out.pm 3 [1, 2, 0] rfl rfl⟩)
  clear HX
  go_loopg [15] l'.length (fun k v wr => PurRel w0 t S P' R rows (.slice a0 l'.length c0) l' k v wr)
  case atStart => exact HST.out
  case round =>
    rename World => w
    obtain ⟨i, P2, hik, rfl, hP2, hS⟩ := hrel
    clear HST
    have HX := Lib.hid hS
    have HP2 := Lib.hid hP2
    clear hS hP2
    by_cases hlt : i < l'.length
    case neg =>
      obtain rfl : i = l'.length := by omega
      clear hlt hik
      go_wp2_with (first | (refine sWL ?_; simp only [Act.put, k_a, k_b, k_c, k_d, k_e, k_f, k_g, k_h, NodeS.cells, OpS.cells, ResS.cells]) | (refine sWM ?_; simp only [Act.put, k_a, k_b, k_c]) | ((first | refine sWS ?_ | refine sWT ?_); clear HX; intro w HX; simp only [Act.put, k_a, k_b, k_c, setMany, Nat.reduceAdd, NodeS.cells, OpS.cells, ResS.cells] at HX ⊢) | (refine sWA ?_; clear HX; (first | (have hq := b; clear hq; intro w b2 HX) | intro w b HX); simp only [Act.put, k_a, k_b, k_c]) | ((first | (refine sWN ?_; clear HX; intro w mm HX) | (refine sWP ?_; clear HX; intro w av nv cv HX)); simp only [Act.put, k_a, k_b, k_c]))
      go_ret
      have h1 := HX.out.up2
      rw [List.take_length] at h1
      exact ⟨l', HPU.out.1, HPU.out.2.1, _, P2, rfl, fun q hq => HP2.out q (HP.out q hq), h1⟩
    case pos =>
      obtain ⟨y, hy, hs, -⟩ := HX.out.up2.rowCell (i := i) (x := sv l'[i]) (by simp [hlt])
      obtain ⟨g, off, sp⟩ := y
      simp only at hs
      subst hs hy
      obtain ⟨D, hD⟩ := HX.out.up2.fst
      obtain ⟨E, hE, -⟩ := OwnRow.read hD
      have hl := row_load1 (P := Tryz.prog) (ty := 9) (i := i) (v := sv l'[i]) hE (by kernel_rfl) (by simp [hlt])
      have HTK := Lib.hid (purT_take (S := S) hlt)
      have HBI := Lib.hid (purT_b (l'.take i) HB.out.1)
      have hps := HPU.out.2.2 _ (List.getElem_mem hlt)
      obtain ⟨p, hp⟩ : ∃ p, l'[i] = p := ⟨_, rfl⟩
      rw [hp] at hl HTK hps
      have q0 : decide (i < l'.length) = true := decide_eq_true hlt
      have HPS := Lib.hid hps
      unfold sv at hl
      clear hD hE hp hps
      go_wp2_with (first | (refine sWL ?_; simp only [Act.put, k_a, k_b, k_c, k_d, k_e, k_f, k_g, k_h, NodeS.cells, OpS.cells, ResS.cells]) | (refine sWM ?_; simp only [Act.put, k_a, k_b, k_c]) | ((first | refine sWS ?_ | refine sWT ?_); clear HX; intro w HX; simp only [Act.put, k_a, k_b, k_c, setMany, Nat.reduceAdd, NodeS.cells, OpS.cells, ResS.cells] at HX ⊢) | (refine sWA ?_; clear HX; (first | (have hq := b; clear hq; intro w b2 HX) | intro w b HX); simp only [Act.put, k_a, k_b, k_c]) | ((first | (refine sWN ?_; clear HX; intro w mm HX) | (refine sWP ?_; clear HX; intro w av nv cv HX)); simp only [Act.put, k_a, k_b, k_c]) | ((with_reducible apply sx_loadAt hl); (· rfl); (· rfl); simp only [Act.put, k_a, k_b, k_c]))
      refine (treeRemove_any HX.out hd ⟨p.toArray⟩ (by show p.toArray.size ≤ _; rw [List.size_toArray]; have := HPS.out; omega) (HBI.out.ok HB.out.2)).mono ?_
      rintro e w ⟨rfl, P3, hP3, hx⟩
      clear HX hl
      have HX := Lib.hid hx
      have HP3 := Lib.hid hP3
      clear hx hP3
      go_wp2_with (first | (refine sWL ?_; simp only [Act.put, k_a, k_b, k_c, k_d, k_e, k_f, k_g, k_h, NodeS.cells, OpS.cells, ResS.cells]) | (refine sWM ?_; simp only [Act.put, k_a, k_b, k_c]) | ((first | refine sWS ?_ | refine sWT ?_); clear HX; intro w HX; simp only [Act.put, k_a, k_b, k_c, setMany, Nat.reduceAdd, NodeS.cells, OpS.cells, ResS.cells] at HX ⊢) | (refine sWA ?_; clear HX; (first | (have hq := b; clear hq; intro w b2 HX) | intro w b HX); simp only [Act.put, k_a, k_b, k_c]) | ((first | (refine sWN ?_; clear HX; intro w mm HX) | (refine sWP ?_; clear HX; intro w av nv cv HX)); simp only [Act.put, k_a, k_b, k_c]))
      go_roundg (l'.length - (i + 1))
      case rel => exact ⟨i + 1, P3, by omega, by go_num, fun q hq => HP3.out q (HP2.out q hq), by rw [HTK.out]; exact HX.out⟩
      case measure => omega
end
end Go.Proofs.YtjeaoopamebgjaaGreatDoor

namespace Go.Av
open Go.RowKit
theorem remS_owner (n : NodeS) (s : Bs) : (remS n s).owner = n.owner := by
  unfold remS
  split <;> rfl
theorem purT_mem {K : Nat} : ∀ (l : List Bs) {S : TreeS}, TreeB K S → (purT l S).l.map (·.1) = (S.l.map (·.1)).filter (fun k => decide (k ∉ l)) ∧ ∀ e ∈ (purT l S).l, ∃ n, (e.1, n) ∈ S.l ∧ n.owner = e.2.owner
  | [], S, h => ⟨by
      rw [List.filter_eq_self.2 (by simp)]
      rfl, fun e he => ⟨e.2, he, rfl⟩⟩
  | p :: l, S, h => by
    obtain ⟨h1, h2⟩ := purT_mem l (rem_b h p)
    have hk : ({ S with l := remT p S.l } : TreeS).l.map (·.1) = (S.l.map (·.1)).filter fun k => decide (k ≠ p) := by
      show (atUp _ _ _).map (·.1) = _
      rw [atUp_keys, delT_keys]
    refine ⟨?_, fun e he => ?_⟩
    · show (purT l { S with l := remT p S.l }).l.map (·.1) = _
      rw [h1, hk, List.filter_filter]
      apply List.filter_congr
      intro x _
      by_cases hx : x = p
      · simp [hx]
      · simp [hx]
    · obtain ⟨n, h3, h4⟩ := h2 e he
      have hr := delT_rise (p := p) h.rise
      rcases atUp_mem (rise_nodup hr) h3 with h5 | ⟨m, h5, h6⟩
      · exact ⟨n, mem_del h5, h4⟩
      · refine ⟨m, mem_del h5, ?_⟩
        rw [← h4]
        have h6 : n = remS m (nameP p) := h6
        rw [h6, remS_owner]
end Go.Av
