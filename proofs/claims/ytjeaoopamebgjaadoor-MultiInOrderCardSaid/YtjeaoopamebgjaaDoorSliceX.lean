/-
  Parts of a slice that is read.
-/
import Derived.Test.YtjeaoopamebgjaaDoorGenA
namespace Go.Proofs.YtjeaoopamebgjaaDoor
open Go.RowKit Go.Av

theorem slice_run {P : Program} {t e : TypeId} {i : TypeInfo} (ht : P.underlying t = some (.slice e)) (hi : P.info? e = some i) (hz : i.size = 1) (g off n c lo k : Nat) (h1 : lo ≤ k) (hk : k ≤ c) (W : World) :
    (Instr.slice t (.slice (some ⟨g, off, none⟩) n c) (some (.int .i64 (lo : Int))) (some (.int .i64 (k : Int))) none).run P W = .ok (.slice (some ⟨g, if c = lo then off else off + lo, none⟩) (k - lo) (c - lo)) W := by
  simp [Instr.slice, run_underlying ht, Instr.sliceBounds, Instr.sliceBound, asIntOf, hk, h1, sizeOf, typeInfo, hi, Result.andThen, Addr.add, hz]
  split
  · rfl
  · split
    · simp_all
    · rfl
theorem slice_run' {P : Program} {t e : TypeId} {i : TypeInfo} (ht : P.underlying t = some (.slice e)) (hi : P.info? e = some i) (hz : i.size = 1) (g off n c lo : Nat) (h1 : lo ≤ n) (W : World) :
    (Instr.slice t (.slice (some ⟨g, off, none⟩) n c) (some (.int .i64 (lo : Int))) none none).run P W = .ok (.slice (some ⟨g, if c = lo then off else off + lo, none⟩) (n - lo) (c - lo)) W := by
  simp [Instr.slice, run_underlying ht, Instr.sliceBounds, Instr.sliceBound, asIntOf, h1, sizeOf, typeInfo, hi, Result.andThen, Addr.add, hz]
  split
  · rfl
  · split
    · simp_all
    · rfl
theorem slice_nil {P : Program} {t e : TypeId} {i : TypeInfo} (ht : P.underlying t = some (.slice e)) (hi : P.info? e = some i) (W : World) :
    (Instr.slice t (.slice none 0 0) (some (.int .i64 (0 : Nat))) (some (.int .i64 (0 : Nat))) none).run P W = .ok (.slice none 0 0) W ∧
    (Instr.slice t (.slice none 0 0) (some (.int .i64 (0 : Nat))) none none).run P W = .ok (.slice none 0 0) W := by
  constructor <;> simp [Instr.slice, run_underlying ht, Instr.sliceBounds, Instr.sliceBound, asIntOf, sizeOf, typeInfo, hi, Result.andThen, Addr.add]

theorem read_part {w : World} {g off n c lo k : Nat} {l : Bs} {E : List Nat} (h : ReadRow w 1 (.slice (some ⟨g, off, none⟩) n c) (l.map bv) E) (h1 : lo ≤ k) (hk : k ≤ n) :
    ∃ E', ReadRow w 1 (.slice (some ⟨g, if c = lo then off else off + lo, none⟩) (k - lo) (c - lo)) (((l.drop lo).take (k - lo)).map bv) E' ∧ ∀ b ∈ E', b ∈ E := by
  obtain ⟨a', n', c', hv, hl, hn, hc, ha, hr⟩ := h
  cases hv
  have hln : l.length = n := by simpa using hl
  by_cases h0 : k - lo = 0
  · rw [h0, List.take_zero]
    exact ⟨[], ⟨_, 0, _, rfl, rfl, Nat.zero_le _, by omega, (fun h => by cases h), .inl ⟨rfl, rfl⟩⟩, by simp⟩
  · rw [if_neg (by omega)]
    rcases hr with ⟨h2, _⟩ | ⟨g', off', h2, h3, h4, h5⟩
    · have : l = [] := by simpa using h2
      subst this; simp at hln; omega
    · cases h2
      refine ⟨E, ⟨_, _, _, rfl, by simp; omega, by omega, by omega, (fun h => by cases h), .inr ⟨g, off + lo, rfl, h3, h4, fun i x hx => ?_⟩⟩, fun _ h => h⟩
      have hx' : (l.map bv)[lo + i]? = some x := by
        rw [List.getElem?_map, List.getElem?_take] at hx
        split at hx
        · rw [List.getElem?_drop] at hx
          rw [List.getElem?_map]; exact hx
        · cases hx
      rw [show off + lo + i = off + (lo + i) by omega]
      exact h5 _ _ hx'

/-- b[lo:k], read. -/
theorem slice_cut {P : Program} {t e : TypeId} {i : TypeInfo} (ht : P.underlying t = some (.slice e)) (hi : P.info? e = some i) (hz : i.size = 1) {w : World} {a : Option Addr} {n c : Nat} {l : Bs} {E : List Nat} (h : ReadRow w 1 (.slice a n c) (l.map bv) E) (lo k : Nat) (h1 : lo ≤ k) (hk : k ≤ n) :
    ∃ a', (∀ W, (Instr.slice t (.slice a n c) (some (.int .i64 (lo : Int))) (some (.int .i64 (k : Int))) none).run P W = .ok (.slice a' (k - lo) (c - lo)) W) ∧
      ∃ E', ReadRow w 1 (.slice a' (k - lo) (c - lo)) (((l.drop lo).take (k - lo)).map bv) E' ∧ ∀ b ∈ E', b ∈ E := by
  have h0 := h
  obtain ⟨a', n', c', hv, hl, hn, hc, ha, hr⟩ := h
  cases hv
  cases a with
  | none =>
    have := ha rfl
    subst this
    obtain rfl : n = 0 := by omega
    obtain rfl : k = 0 := by omega
    obtain rfl : lo = 0 := by omega
    exact ⟨none, fun W => (slice_nil ht hi W).1, [], ⟨none, 0, 0, rfl, by simp, Nat.le_refl _, by decide, fun _ => rfl, .inl ⟨by simp, rfl⟩⟩, by simp⟩
  | some x =>
    by_cases hn0 : n = 0
    · subst hn0
      obtain rfl : k = 0 := by omega
      obtain rfl : lo = 0 := by omega
      obtain rfl : l = [] := by simpa using hl
      exact ⟨some x, fun W => by simp [Instr.slice, run_underlying ht, Instr.sliceBounds, Instr.sliceBound, asIntOf, sizeOf, typeInfo, hi, Result.andThen, Addr.add], [], ⟨some x, 0, c, rfl, by simp, Nat.zero_le _, hc, (fun h => by cases h), .inl ⟨by simp, rfl⟩⟩, by simp⟩
    · rcases hr with ⟨h2, _⟩ | ⟨g, off, h2, h3, h4, h5⟩
      · rw [h2] at hl; simp at hl; omega
      · cases h2
        exact ⟨_, fun W => slice_run ht hi hz g off n c lo k h1 (by omega) W, read_part h0 h1 hk⟩
/-- b[lo:], read. -/
theorem slice_from {P : Program} {t e : TypeId} {i : TypeInfo} (ht : P.underlying t = some (.slice e)) (hi : P.info? e = some i) (hz : i.size = 1) {w : World} {a : Option Addr} {n c : Nat} {l : Bs} {E : List Nat} (h : ReadRow w 1 (.slice a n c) (l.map bv) E) (lo : Nat) (h1 : lo ≤ n) :
    ∃ a', (∀ W, (Instr.slice t (.slice a n c) (some (.int .i64 (lo : Int))) none none).run P W = .ok (.slice a' (n - lo) (c - lo)) W) ∧
      ∃ E', ReadRow w 1 (.slice a' (n - lo) (c - lo)) ((l.drop lo).map bv) E' ∧ ∀ b ∈ E', b ∈ E := by
  have h0 := h
  obtain ⟨a', n', c', hv, hl, hn, hc, ha, hr⟩ := h
  cases hv
  have hln : l.length = n := by simpa using hl
  have hd : (l.drop lo).take (n - lo) = l.drop lo := List.take_of_length_le (by simp; omega)
  cases a with
  | none =>
    have := ha rfl
    subst this
    obtain rfl : n = 0 := by omega
    obtain rfl : lo = 0 := by omega
    have : l = [] := List.length_eq_zero_iff.1 hln
    subst this
    exact ⟨none, fun W => (slice_nil ht hi W).2, [], ⟨none, 0, 0, rfl, by simp, Nat.le_refl _, by decide, fun _ => rfl, .inl ⟨by simp, rfl⟩⟩, by simp⟩
  | some x =>
    by_cases hn0 : n = 0
    · subst hn0
      obtain rfl : lo = 0 := by omega
      have : l = [] := List.length_eq_zero_iff.1 hln
      subst this
      exact ⟨some x, fun W => by simp [Instr.slice, run_underlying ht, Instr.sliceBounds, Instr.sliceBound, asIntOf, sizeOf, typeInfo, hi, Result.andThen, Addr.add], [], ⟨some x, 0, c, rfl, by simp, Nat.zero_le _, hc, (fun h => by cases h), .inl ⟨by simp, rfl⟩⟩, by simp⟩
    · rcases hr with ⟨h2, _⟩ | ⟨g, off, h2, h3, h4, h5⟩
      · rw [h2] at hl; simp at hl; omega
      · cases h2
        obtain ⟨E', hE, hEE⟩ := read_part h0 h1 (Nat.le_refl n)
        rw [hd] at hE
        exact ⟨_, fun W => slice_run' ht hi hz g off n c lo h1 W, E', hE, hEE⟩
end Go.Proofs.YtjeaoopamebgjaaDoor
