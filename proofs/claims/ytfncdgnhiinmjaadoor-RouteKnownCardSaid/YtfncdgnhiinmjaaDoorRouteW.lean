/-
  Routes in plain words: each Op is just one shard's.
-/
import Derived.Test.YtfncdgnhiinmjaaDoorRouteS
import Derived.Test.YtfncdgnhiinmjaaDoorPathS
namespace Go.Proofs.YtfncdgnhiinmjaaDoor
open Go.RowKit Go.Av

theorem top_ne (p : Bs) : topP p = [] ↔ goodP p = false := by
  constructor
  · intro h
    cases hg : goodP p with
    | false => rfl
    | true =>
      cases p with
      | nil => cases hg
      | cons c q =>
        unfold topP partsP at h
        rw [hg, if_pos rfl] at h
        have hg' := hg
        unfold goodP at hg'
        simp only [Bool.and_eq_true, decide_eq_true_eq] at hg'
        obtain ⟨⟨⟨-, -⟩, h3⟩, -⟩ := hg'
        obtain ⟨t, r, e1, -, -⟩ := cut_head q
        rw [show (c :: q).drop 1 = q from rfl, e1] at h
        dsimp only at h
        subst h
        rw [e1] at h3
        simp [nameS] at h3
  · intro h
    unfold topP partsP
    rw [h]; rfl
theorem of_neg {S : RtS} (h : RtOK S) (p : Bs) : decide (0 ≤ ofS S p) = goodP p := by
  cases hg : goodP p with
  | false =>
    have := (top_ne p).2 hg
    unfold ofS
    rw [if_pos this]; rfl
  | true =>
    have ht : topP p ≠ [] := fun e => by rw [(top_ne p).1 e] at hg; cases hg
    obtain ⟨h1, h2, h3⟩ := h
    refine decide_eq_true ?_
    unfold ofS
    rw [if_neg ht]
    split
    · rename_i s hs
      obtain ⟨l1, l2, he, -⟩ := lookM_some hs
      exact (h3 (topP p, s) (by rw [he]; simp)).1
    · exact Int.emod_nonneg _ (by omega)
theorem of_top (S : RtS) {p : Bs} (h : goodP p = true) : ofS S (47 :: topP p) = ofS S p := by
  have ht : topP p ≠ [] := fun e => by rw [(top_ne p).1 e] at h; cases h
  obtain ⟨-, q, -, -, h4, h5⟩ := top_path ht
  unfold ofS
  rw [top_one h5 h4]

/-! ### the grid's rows -/
def rowN (S : RtS) (ps : List Bs) (P s : Nat) : List Nat := (List.range P).filter fun i => decide (ofS S (ps.getD i []) = (s : Int))
theorem rowS_eq (S : RtS) (ps : List Bs) (P s : Nat) : rowS S ps P s = (rowN S ps P s).map Int.ofNat := rfl
theorem rowN_mem {S : RtS} {ps : List Bs} {P s j : Nat} : j ∈ rowN S ps P s ↔ j < P ∧ ofS S (ps.getD j []) = (s : Int) := by
  unfold rowN
  rw [List.mem_filter, List.mem_range, decide_eq_true_eq]
theorem rowN_lt (S : RtS) (ps : List Bs) (P s : Nat) : (rowN S ps P s).Pairwise (· < ·) := (List.pairwise_lt_range (n := P)).filter _
/-- What was seen, in the row i behind its first k. -/
def snS (S : RtS) (ps : List Bs) (P i k j : Nat) : Bool := decide (0 ≤ ofS S (ps.getD j []) ∧ ofS S (ps.getD j []) < (i : Int)) || ((rowN S ps P i).take k).contains j
def seenS (S : RtS) (ps : List Bs) (P i k : Nat) : List Bool := (List.range P).map (snS S ps P i k)
theorem seen_len (S : RtS) (ps : List Bs) (P i k : Nat) : (seenS S ps P i k).length = P := by unfold seenS; simp
theorem seen_get {S : RtS} {ps : List Bs} {P i k j : Nat} (h : j < P) : (seenS S ps P i k)[j]? = some (snS S ps P i k j) := by
  unfold seenS
  rw [List.getElem?_map, List.getElem?_range h]; rfl
theorem seen_zero (S : RtS) (ps : List Bs) (P : Nat) : seenS S ps P 0 0 = List.replicate P false := by
  apply List.ext_getElem?
  intro j
  by_cases hj : j < P
  · rw [seen_get hj, List.getElem?_replicate, if_pos hj]
    unfold snS
    have : decide (0 ≤ ofS S (ps.getD j []) ∧ ofS S (ps.getD j []) < ((0 : Nat) : Int)) = false := decide_eq_false (by omega)
    rw [this]; simp
  · rw [List.getElem?_eq_none (by rw [seen_len]; omega), List.getElem?_eq_none (by simp; omega)]
theorem row_at {S : RtS} {ps : List Bs} {P i k : Nat} (hk : k < (rowN S ps P i).length) : (rowN S ps P i)[k] < P ∧ ofS S (ps.getD (rowN S ps P i)[k] []) = (i : Int) ∧ snS S ps P i k (rowN S ps P i)[k] = false ∧ (0 < k → ∀ h : k - 1 < (rowN S ps P i).length, (rowN S ps P i)[k - 1] < (rowN S ps P i)[k]) := by
  obtain ⟨h1, h2⟩ := rowN_mem.1 (List.getElem_mem hk)
  refine ⟨h1, h2, ?_, fun h0 h => ?_⟩
  · unfold snS
    rw [h2, show decide (0 ≤ (i : Int) ∧ (i : Int) < (i : Int)) = false from decide_eq_false (by omega), Bool.false_or]
    cases hc : ((rowN S ps P i).take k).contains (rowN S ps P i)[k] with
    | false => rfl
    | true =>
      have hm := List.contains_iff_mem.1 hc
      obtain ⟨j, hj, hje⟩ := List.mem_take_iff_getElem.1 hm
      have := List.pairwise_iff_getElem.1 (rowN_lt S ps P i) j k (by omega) hk (by omega)
      omega
  · exact List.pairwise_iff_getElem.1 (rowN_lt S ps P i) (k - 1) k h hk (by omega)
theorem seen_next {S : RtS} {ps : List Bs} {P i k : Nat} (hk : k < (rowN S ps P i).length) : seenS S ps P i (k + 1) = (seenS S ps P i k).set (rowN S ps P i)[k] true := by
  obtain ⟨h1, h2, -, -⟩ := row_at hk
  apply List.ext_getElem?
  intro j
  rw [List.getElem?_set, seen_len]
  by_cases hj : j < P
  · rw [seen_get hj]
    unfold snS
    rw [List.take_succ_eq_append_getElem hk]
    by_cases hn : (rowN S ps P i)[k] = j
    · rw [if_pos hn, if_pos h1]
      simp [hn]
    · rw [if_neg hn, seen_get hj]
      unfold snS
      have : ((rowN S ps P i).take k ++ [(rowN S ps P i)[k]]).contains j = ((rowN S ps P i).take k).contains j := by
        rw [Bool.eq_iff_iff, List.contains_iff_mem, List.contains_iff_mem, List.mem_append, List.mem_singleton]
        exact ⟨fun h => h.resolve_right (fun e => hn e.symm), .inl⟩
      rw [this]
  · rw [List.getElem?_eq_none (by rw [seen_len]; omega), if_neg (by omega), List.getElem?_eq_none (by rw [seen_len]; omega)]
theorem seen_row (S : RtS) (ps : List Bs) (P i : Nat) : seenS S ps P i (rowN S ps P i).length = seenS S ps P (i + 1) 0 := by
  unfold seenS
  refine List.map_congr_left fun j hj => ?_
  rw [List.mem_range] at hj
  unfold snS
  rw [List.take_length, List.take_zero]
  have h0 : ([] : List Nat).contains j = false := rfl
  rw [h0, Bool.or_false, Bool.eq_iff_iff, Bool.or_eq_true, decide_eq_true_eq, decide_eq_true_eq, List.contains_iff_mem, rowN_mem]
  omega
theorem seen_all {S : RtS} (h : RtOK S) (ps : List Bs) (P j : Nat) : snS S ps P S.n.toNat 0 j = goodP (ps.getD j []) := by
  have hb := of_bd h (ps.getD j [])
  rw [← of_neg h]
  unfold snS
  rw [List.take_zero]
  have h0 : ([] : List Nat).contains j = false := rfl
  rw [h0, Bool.or_false, decide_eq_decide]
  have := h.1
  omega
end Go.Proofs.YtfncdgnhiinmjaaDoor
