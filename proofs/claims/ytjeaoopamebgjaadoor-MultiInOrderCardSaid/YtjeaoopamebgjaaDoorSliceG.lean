/-
  The tail of a slice that is read, elements of any size.
-/
import Derived.Test.YtjeaoopamebgjaaDoorSliceX
namespace Go.Proofs.YtjeaoopamebgjaaDoor
open Go.RowKit Go.Av

theorem slice_runG {P : Program} {t e : TypeId} {i : TypeInfo} (ht : P.underlying t = some (.slice e)) (hi : P.info? e = some i) (g off n c lo : Nat) (h1 : lo ≤ n) (W : World) :
    (Instr.slice t (.slice (some ⟨g, off, none⟩) n c) (some (.int .i64 (lo : Int))) none none).run P W = .ok (.slice (some ⟨g, if c = lo then off else off + lo * i.size, none⟩) (n - lo) (c - lo)) W := by
  simp [Instr.slice, run_underlying ht, Instr.sliceBounds, Instr.sliceBound, asIntOf, h1, sizeOf, typeInfo, hi, Result.andThen, Addr.add]
  split
  · rfl
  · split
    · simp_all
    · rfl
theorem slice_fromG {P : Program} {t e : TypeId} {i : TypeInfo} (ht : P.underlying t = some (.slice e)) (hi : P.info? e = some i) (hz : 0 < i.size) {w : World} {a : Option Addr} {n c : Nat} {xs : List Value} {E : List Nat} (h : ReadRow w i.size (.slice a n c) xs E) (lo : Nat) (h1 : lo ≤ n) :
    ∃ a', (∀ W, (Instr.slice t (.slice a n c) (some (.int .i64 (lo : Int))) none none).run P W = .ok (.slice a' (n - lo) (c - lo)) W) ∧
      ∃ E', ReadRow w i.size (.slice a' (n - lo) (c - lo)) (xs.drop (lo * i.size)) E' ∧ ∀ b ∈ E', b ∈ E := by
  obtain ⟨a', n', c', hv, hl, hn, hc, ha, hr⟩ := h
  cases hv
  have hle : lo * i.size ≤ n * i.size := Nat.mul_le_mul_right _ h1
  have hsub : (n - lo) * i.size = n * i.size - lo * i.size := Nat.sub_mul _ _ _
  cases a with
  | none =>
    have := ha rfl
    subst this
    obtain rfl : n = 0 := by omega
    obtain rfl : lo = 0 := by omega
    have : xs = [] := List.length_eq_zero_iff.1 (by rw [hl]; simp)
    subst this
    exact ⟨none, fun W => (slice_nil ht hi W).2, [], ⟨none, 0, 0, rfl, by simp, Nat.le_refl _, by decide, fun _ => rfl, .inl ⟨by simp, rfl⟩⟩, by simp⟩
  | some x =>
    by_cases hn0 : n = 0
    · subst hn0
      obtain rfl : lo = 0 := by omega
      have : xs = [] := List.length_eq_zero_iff.1 (by rw [hl]; simp)
      subst this
      exact ⟨some x, fun W => by simp [Instr.slice, run_underlying ht, Instr.sliceBounds, Instr.sliceBound, asIntOf, sizeOf, typeInfo, hi, Result.andThen, Addr.add], [], ⟨some x, 0, c, rfl, by simp, Nat.zero_le _, hc, (fun h => by cases h), .inl ⟨by simp, rfl⟩⟩, by simp⟩
    · rcases hr with ⟨h2, _⟩ | ⟨g, off, h2, h3, h4, h5⟩
      · exfalso
        rw [h2] at hl
        have : 0 < n * i.size := Nat.mul_pos (by omega) hz
        simp at hl
        omega
      · cases h2
        refine ⟨_, fun W => slice_runG ht hi g off n c lo h1 W, ?_⟩
        by_cases hlo : n - lo = 0
        · have hd : xs.drop (lo * i.size) = [] := by
            rw [List.drop_eq_nil_iff, hl, show lo = n by omega]
            exact Nat.le_refl _
          rw [hd]
          exact ⟨[], ⟨_, n - lo, _, rfl, by rw [hlo]; simp, by omega, by omega, (fun h => by cases h), .inl ⟨rfl, rfl⟩⟩, by simp⟩
        · rw [if_neg (by omega)]
          refine ⟨E, ⟨_, _, _, rfl, by rw [List.length_drop, hl, hsub], by omega, by omega, (fun h => by cases h), .inr ⟨g, off + lo * i.size, rfl, h3, h4, fun j x hx => ?_⟩⟩, fun _ h => h⟩
          rw [List.getElem?_drop] at hx
          rw [show off + lo * i.size + j = off + (lo * i.size + j) by omega]
          exact h5 _ _ hx
end Go.Proofs.YtjeaoopamebgjaaDoor
