/-
  Paths in plain words.
-/
import Derived.Lib.SplitLaws
import Derived.Test.YtjeaoopamebgjaaDoorDiskA
namespace Go.Av
open Go.RowKit

def okCh (c : UInt8) : Bool := !(decide (c < 33) || decide (126 < c))
/-- May it be a name? -/
def nameS (l : Bs) : Bool := l.all okCh && decide (1 ≤ l.length) && decide (l.length ≤ 40) && !(l == [46]) && !(l == [46, 46])
/-- Cut at each '/'. -/
def cutS : Bs → List Bs
  | [] => [[]]
  | c :: r => if c = 47 then [] :: cutS r else match cutS r with | [] => [[c]] | x :: t => (c :: x) :: t
def goodP (p : Bs) : Bool := match p with
  | [] => false
  | c :: r => decide (c = 47) && decide (r.length + 1 ≤ 200) && (cutS r).all nameS && decide ((cutS r).length ≤ 8)
def partsP (p : Bs) : List Bs := if goodP p then cutS (p.drop 1) else []
def topP (p : Bs) : Bs := match partsP p with | [] => [] | x :: _ => x
def nameP (p : Bs) : Bs := match (partsP p).getLast? with | none => [] | some x => x

theorem cutS_ne : ∀ l : Bs, cutS l ≠ []
  | [] => by simp [cutS]
  | c :: r => by
    unfold cutS
    split
    · simp
    · split <;> simp
theorem cutS_len : ∀ l : Bs, (cutS l).length = l.count 47 + 1
  | [] => rfl
  | c :: r => by
    have ih := cutS_len r
    unfold cutS
    by_cases hc : c = 47
    · rw [if_pos hc, List.length_cons, ih, hc, List.count_cons_self]
    · rw [if_neg hc, List.count_cons_of_ne hc, ← ih]
      split
      · rename_i h; exact absurd h (cutS_ne r)
      · rename_i h; rw [h]; rfl

open Go.Lib in
theorem splitK_cut : ∀ (l : Bs) (k : Nat), l.count 47 ≤ k → splitK [47] 0 k l = cutS l
  | [], k, _ => by
    cases k with
    | zero => rfl
    | succ k => rfl
  | c :: r, k, hk => by
    by_cases hc : c = 47
    · subst hc
      rw [List.count_cons_self] at hk
      obtain ⟨k', rfl⟩ : ∃ k', k = k' + 1 := ⟨k - 1, by omega⟩
      have hi : index (47 :: r) [47] = 0 := by simp [index, List.isPrefixOf]
      rw [splitK, hi]
      simp only [show ((0 : Int) == -1) = false from rfl, Bool.false_eq_true, if_false]
      rw [cutS, if_pos rfl]
      have := splitK_cut r k' (by omega)
      simpa using this
    · rw [List.count_cons_of_ne hc] at hk
      have hi : index (c :: r) [47] = if index r [47] == -1 then -1 else index r [47] + 1 := by
        rw [index, if_neg]
        simp [List.isPrefixOf]
        exact fun e => hc e.symm
      have ih := splitK_cut r k hk
      rw [cutS, if_neg hc, ← ih]
      rcases index_spec r [47] with ⟨h1, _⟩ | ⟨i, h1, h2, h3, h4⟩
      · rw [h1] at hi
        simp only [BEq.rfl, if_true] at hi
        cases k with
        | zero => rfl
        | succ k => simp [splitK, hi, h1]
      · have hp : 0 < k := by
          have hc1 : r.count 47 ≠ 0 := by
            intro h0
            have hm := index_spec r [47]
            have hz : Lib.count r [47] = 0 := by rw [count_one]; exact h0
            have h5 := count_hit (s := r) (sub := [47]) (i := i) (by simp) h1
            omega
          omega
        obtain ⟨k', rfl⟩ : ∃ k', k = k' + 1 := ⟨k - 1, by omega⟩
        have hne : (index r [47] == -1) = false := by rw [h1, beq_eq_false_iff_ne]; omega
        rw [hne] at hi
        simp only [Bool.false_eq_true, if_false] at hi
        have hne2 : (index (c :: r) [47] == -1) = false := by rw [hi, h1, beq_eq_false_iff_ne]; omega
        rw [splitK, splitK, hne, hne2]
        simp only [Bool.false_eq_true, if_false, List.length_singleton, Nat.add_zero]
        rw [hi, h1]
        have e1 : ((i : Int) + 1).toNat = i + 1 := by omega
        have e2 : (i : Int).toNat = i := by omega
        rw [e1, e2, List.take_succ_cons, List.drop_succ_cons]
open Go.Lib in
theorem split_cut (s : ByteArray) : (splitB ⟨#[47]⟩ 0 (countB s ⟨#[47]⟩) s).map (fun b => b.data.toList) = cutS s.data.toList := by
  rw [splitB_data]
  exact splitK_cut _ _ (by unfold countB; rw [show (⟨#[47]⟩ : ByteArray).data.toList = [47] from rfl, count_one]; exact Nat.le_refl _)
open Go.Lib in
theorem count_cut (s : ByteArray) : countB s ⟨#[47]⟩ + 1 = (cutS s.data.toList).length := by
  rw [cutS_len]
  unfold countB
  rw [show (⟨#[47]⟩ : ByteArray).data.toList = [47] from rfl, count_one]
theorem goodP_len {p : Bs} (h : goodP p = true) : p.length ≤ 200 := by
  cases p with
  | nil => simp
  | cons c r =>
    unfold goodP at h
    simp only [Bool.and_eq_true, decide_eq_true_eq] at h
    simpa using h.1.1.2
end Go.Av
