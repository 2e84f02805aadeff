/-
  Routes in plain words: what a move makes of whose a path is.
-/
import Derived.Test.YtfncdgnhiinmjaaDoorRouteL
namespace Go.Proofs.YtfncdgnhiinmjaaDoor
open Go.RowKit Go.Av

theorem move_n (S : RtS) (top : Bs) (sh : Int) : (moveS S top sh).2.n = S.n ∧ S.ver ≤ (moveS S top sh).2.ver ∧ (moveS S top sh).2.ver ≤ S.ver + 1 := by
  unfold moveS
  split
  · simp; omega
  · split
    · simp; omega
    · simp; omega
theorem move_no {S : RtS} {top : Bs} {sh : Int} (h : (moveS S top sh).1 ≠ 0) : (moveS S top sh).2 = S := by
  unfold moveS at h ⊢
  split
  · rfl
  · split
    · rfl
    · rename_i h1 h2
      rw [if_neg h1, if_neg h2] at h
      exact absurd rfl h
theorem move_ok {S : RtS} {top : Bs} {sh : Int} (h : (moveS S top sh).1 = 0) : badM S top sh = false ∧ (moveS S top sh).2 = { S with ver := S.ver + 1, mv := setM top sh S.mv } := by
  unfold moveS at h ⊢
  cases hb : badM S top sh with
  | true => rw [hb, if_pos rfl] at h; cases h
  | false =>
    rw [hb, if_neg (by simp)] at h
    rw [if_neg (by simp)]
    by_cases h2 : lookM top S.mv = none ∧ 50 ≤ S.mv.length
    · rw [if_pos h2] at h; cases h
    · rw [if_neg h2]; exact ⟨rfl, rfl⟩
theorem look_cons (k : Bs) (e : Bs × Int) (l : List (Bs × Int)) : lookM k (e :: l) = if e.1 = k then some e.2 else lookM k l := by
  unfold lookM
  rw [List.find?_cons]
  by_cases h : e.1 = k
  · simp [h]
  · simp [h]
theorem look_appM (k : Bs) (l : List (Bs × Int)) (e : Bs × Int) : lookM k (l ++ [e]) = match lookM k l with | some v => some v | none => if e.1 = k then some e.2 else none := by
  induction l with
  | nil => rw [List.nil_append, look_cons]; rfl
  | cons x l ih =>
    rw [List.cons_append, look_cons, look_cons, ih]
    split <;> rfl
theorem look_mapM (k k' : Bs) (v : Int) (l : List (Bs × Int)) : lookM k' (l.map fun e => if e.1 = k then (e.1, v) else e) = if k' = k then (lookM k' l).map (fun _ => v) else lookM k' l := by
  induction l with
  | nil => simp [lookM]
  | cons e l ih =>
    rw [List.map_cons, look_cons, look_cons, ih]
    by_cases h1 : e.1 = k
    · rw [if_pos h1]
      by_cases h2 : k' = k
      · simp [h1, h2]
      · have h3 : ¬ k = k' := fun h => h2 h.symm
        simp [h1, h2, h3]
    · rw [if_neg h1]
      by_cases h2 : k' = k
      · have h3 : ¬ e.1 = k' := fun h => h1 (h.trans h2)
        simp [h1, h2]
      · simp [h2]
theorem look_set (k k' : Bs) (v : Int) (l : List (Bs × Int)) : lookM k' (setM k v l) = if k' = k then some v else lookM k' l := by
  unfold setM
  cases h : lookM k l with
  | some v0 =>
    dsimp only
    rw [look_mapM]
    by_cases h2 : k' = k
    · subst h2; rw [h]; rfl
    · rw [if_neg h2, if_neg h2]
  | none =>
    dsimp only
    rw [look_appM]
    by_cases h2 : k' = k
    · subst h2; rw [h]
    · have h3 : ¬ k = k' := fun h => h2 h.symm
      rw [if_neg h2]
      cases lookM k' l with
      | some _ => rfl
      | none => simp [h3]

/-! ### first names -/
theorem cut_head : ∀ (l : Bs), ∃ t, ∃ r, cutS l = t :: r ∧ ((r = [] ∧ l = t) ∨ ∃ q, l = t ++ 47 :: q ∧ r = cutS q) ∧ 47 ∉ t
  | [] => ⟨[], [], rfl, .inl ⟨rfl, rfl⟩, by simp⟩
  | c :: l => by
    obtain ⟨t, r, h1, h2, h3⟩ := cut_head l
    by_cases hc : c = 47
    · subst hc
      refine ⟨[], cutS l, by rw [cutS, if_pos rfl], .inr ⟨l, rfl, rfl⟩, by simp⟩
    · refine ⟨c :: t, r, by rw [cutS, if_neg hc, h1], ?_, by simp; exact ⟨fun h => hc h.symm, h3⟩⟩
      rcases h2 with ⟨h2, rfl⟩ | ⟨q, rfl, h2⟩
      · exact .inl ⟨h2, rfl⟩
      · exact .inr ⟨q, rfl, h2⟩
theorem cut_none : ∀ {l : Bs}, 47 ∉ l → cutS l = [l]
  | [], _ => rfl
  | c :: l, h => by
    simp only [List.mem_cons, not_or] at h
    rw [cutS, if_neg (fun e => h.1 e.symm), cut_none h.2]
theorem cut_slash : ∀ {t : Bs}, 47 ∉ t → ∀ q : Bs, cutS (t ++ 47 :: q) = t :: cutS q
  | [], _, q => by rw [List.nil_append, cutS, if_pos rfl]
  | c :: t, h, q => by
    simp only [List.mem_cons, not_or] at h
    rw [List.cons_append, cutS, if_neg (fun e => h.1 e.symm), cut_slash h.2]
/-- A path's first name. -/
theorem top_path {p : Bs} (h : topP p ≠ []) : goodP p = true ∧ ∃ q, p = 47 :: q ∧ (q = topP p ∨ ∃ r, q = topP p ++ 47 :: r) ∧ 47 ∉ topP p ∧ nameS (topP p) = true := by
  unfold topP partsP at h
  cases hg : goodP p with
  | false => rw [hg] at h; exact absurd rfl h
  | true =>
    refine ⟨rfl, ?_⟩
    cases p with
    | nil => cases hg
    | cons c q =>
      have hg' := hg
      unfold goodP at hg'
      simp only [Bool.and_eq_true, decide_eq_true_eq] at hg'
      obtain ⟨⟨⟨rfl, h2⟩, h3⟩, h4⟩ := hg'
      have ht : topP (47 :: q) = match cutS q with | [] => [] | x :: _ => x := by unfold topP partsP; rw [hg]; rfl
      obtain ⟨t, r, e1, e2, e3⟩ := cut_head q
      rw [e1] at ht
      dsimp only at ht
      rw [ht]
      refine ⟨q, rfl, ?_, e3, ?_⟩
      · rcases e2 with ⟨_, rfl⟩ | ⟨q', rfl, _⟩
        · exact .inl rfl
        · exact .inr ⟨q', rfl⟩
      · rw [e1, List.all_cons, Bool.and_eq_true] at h3
        exact h3.1
/-- One name behind the root; and another behind it. -/
theorem top_one {t : Bs} (h1 : nameS t = true) (h2 : 47 ∉ t) : topP (47 :: t) = t := by
  have hl : t.length ≤ 40 := by
    unfold nameS at h1
    simp only [Bool.and_eq_true, decide_eq_true_eq] at h1
    exact h1.1.1.2
  have hg : goodP (47 :: t) = true := by
    unfold goodP
    simp only [cut_none h2, List.all_cons, h1, List.all_nil, Bool.and_true, List.length_singleton, decide_true, Bool.true_and, Bool.and_eq_true, decide_eq_true_eq]
    omega
  unfold topP partsP
  rw [hg, if_pos rfl]
  show (match cutS t with | [] => [] | x :: _ => x) = t
  rw [cut_none h2]
theorem top_two {t x : Bs} (h1 : nameS t = true) (h2 : 47 ∉ t) (h3 : nameS x = true) (h4 : 47 ∉ x) : topP (47 :: (t ++ 47 :: x)) = t := by
  have hl : ∀ {t : Bs}, nameS t = true → t.length ≤ 40 := fun h1 => by
    unfold nameS at h1
    simp only [Bool.and_eq_true, decide_eq_true_eq] at h1
    exact h1.1.1.2
  have ht := hl h1
  have hx := hl h3
  have hc : cutS (t ++ 47 :: x) = [t, x] := by rw [cut_slash h2, cut_none h4]
  have hg : goodP (47 :: (t ++ 47 :: x)) = true := by
    unfold goodP
    simp only [hc, List.all_cons, h1, h3, List.all_nil, Bool.and_true, List.length_cons, List.length_append, List.length_nil, decide_true, Bool.true_and, Bool.and_eq_true, decide_eq_true_eq]
    omega
  unfold topP partsP
  rw [hg, if_pos rfl]
  show (match cutS (t ++ 47 :: x) with | [] => [] | x :: _ => x) = t
  rw [hc]
theorem badM_false {S : RtS} {top : Bs} {sh : Int} (h : badM S top sh = false) : topP (47 :: top) = top ∧ top ≠ [] ∧ 0 ≤ sh ∧ sh < S.n := by
  unfold badM at h
  simp only [Bool.or_eq_false_iff, Bool.not_eq_false', decide_eq_false_iff_not, beq_eq_false_iff_ne, beq_iff_eq] at h
  exact ⟨h.1.1.1, h.1.1.2, by omega, by omega⟩

/-- Whose a path is, behind a move. -/
theorem of_move {S : RtS} {top : Bs} {sh : Int} (h : badM S top sh = false) (ver : Int) (p : Bs) :
    ofS { S with ver := ver, mv := setM top sh S.mv } p = if topP p = top then sh else ofS S p := by
  obtain ⟨h1, h2, -, -⟩ := badM_false h
  unfold ofS
  by_cases h0 : topP p = []
  · rw [if_pos h0, if_pos h0, if_neg (by rw [h0]; exact fun e => h2 e.symm)]
  · rw [if_neg h0, if_neg h0]
    dsimp only
    rw [look_set]
    by_cases h3 : topP p = top
    · rw [if_pos h3, if_pos h3]
    · rw [if_neg h3, if_neg h3]
theorem moved_one {S : RtS} {top : Bs} {sh : Int} (h : badM S top sh = false) (ver : Int) : ofS { S with ver := ver, mv := setM top sh S.mv } (47 :: top) = sh ∧ ofS { S with ver := ver, mv := setM top sh S.mv } (47 :: (top ++ [47, 120])) = sh := by
  obtain ⟨h1, h2, -, -⟩ := badM_false h
  obtain ⟨-, q, hq, -, h4, h5⟩ := top_path (p := 47 :: top) (by rw [h1]; exact h2)
  rw [h1] at h4 h5
  rw [of_move h, of_move h, h1, top_two h5 h4 (by decide) (by decide)]
  exact ⟨if_pos rfl, if_pos rfl⟩
theorem moved_part {p top : Bs} (h0 : top ≠ []) (h : topP p = top) : top.length < p.length ∧ (p.drop 1).take top.length = top := by
  subst h
  obtain ⟨-, q, rfl, h1, -⟩ := top_path h0
  have : ∃ r, q = topP (47 :: q) ++ r := by
    rcases h1 with h1 | ⟨r, h1⟩
    · exact ⟨[], by rw [List.append_nil]; exact h1⟩
    · exact ⟨_, h1⟩
  obtain ⟨r, hr⟩ := this
  generalize topP (47 :: q) = t at hr
  subst hr
  constructor
  · simp; omega
  · simp
end Go.Proofs.YtfncdgnhiinmjaaDoor
