/-
  A reader in plain words; side by side with all else.
-/
import Derived.Test.YtfncdgnhiinmjaaDoorPackC
import Derived.Test.YtfncdgnhiinmjaaDoorSepC
namespace Go.Proofs.YtfncdgnhiinmjaaDoor
open Go.RowKit Go.Av

theorem packI_len (v : Int) : (packI v).length = 8 := rfl
theorem flat_len : ∀ l : List Int, (l.flatMap packI).length = 8 * l.length
  | [] => rfl
  | x :: l => by rw [List.flatMap_cons, List.length_append, packI_len, flat_len l, List.length_cons]; omega
/-! ### a reader, in plain words -/
abbrev Rd := Bs × Bool
def i64R (r : Rd) : Int × Rd := if r.1.length < 8 then (0, [], true) else (rdI r.1, r.1.drop 8, r.2)
def cntR (most : Int) (r : Rd) : Int × Rd := ((cntS r.1 r.2 most).2.2, (cntS r.1 r.2 most).1, (cntS r.1 r.2 most).2.1)
def cntN (most : Int) : Nat → Rd → List Int × Rd
  | 0, r => ([], r)
  | n + 1, r => ((cntR most r).1 :: (cntN most n (cntR most r).2).1, (cntN most n (cntR most r).2).2)
theorem cntN_snoc (most : Int) : ∀ (n : Nat) (r : Rd), cntN most (n + 1) r = ((cntN most n r).1 ++ [(cntR most (cntN most n r).2).1], (cntR most (cntN most n r).2).2)
  | 0, r => rfl
  | n + 1, r => by
    rw [cntN, cntN_snoc most n]
    rfl
theorem cntN_len (most : Int) : ∀ (n : Nat) (r : Rd), (cntN most n r).1.length = n
  | 0, r => rfl
  | n + 1, r => by rw [cntN, List.length_cons, cntN_len most n]
theorem cntR_bd {most : Int} (h : 0 ≤ most) (r : Rd) : 0 ≤ (cntR most r).1 ∧ (cntR most r).1 ≤ most := by
  unfold cntR cntS
  split
  · exact ⟨Int.le_refl _, h⟩
  · split
    · exact ⟨Int.le_refl _, h⟩
    · simp only; omega

theorem i64R_pack (v : Int) (x : Bs) (bad : Bool) (h1 : -9223372036854775808 ≤ v) (h2 : v ≤ 9223372036854775807) : i64R (packI v ++ x, bad) = (v, x, bad) := by
  unfold i64R
  rw [if_neg (by simp [packI_len])]
  simp only [rdI_pack v x h1 h2]
  rw [List.drop_append_of_le_length (by rw [packI_len]; omega), List.drop_of_length_le (by rw [packI_len]; omega)]
  rfl
theorem cntR_pack (most v : Int) (x : Bs) (bad : Bool) (h1 : 0 ≤ v) (h2 : v ≤ most) (h3 : most ≤ 9223372036854775807) : cntR most (packI v ++ x, bad) = (v, x, bad) := by
  unfold cntR cntS
  simp only
  rw [rdI_pack v x (by omega) (by omega), if_neg (by simp [packI_len]), if_neg (by omega)]
  simp only
  rw [List.drop_append_of_le_length (by rw [packI_len]; omega), List.drop_of_length_le (by rw [packI_len]; omega)]
  rfl
theorem cntN_pack (most : Int) (h3 : most ≤ 9223372036854775807) : ∀ (l : List Int) (x : Bs) (bad : Bool), (∀ v ∈ l, 0 ≤ v ∧ v ≤ most) → cntN most l.length (l.flatMap packI ++ x, bad) = (l, x, bad)
  | [], x, bad, _ => rfl
  | v :: l, x, bad, h => by
    have h1 := h v (by simp)
    rw [List.length_cons, cntN, List.flatMap_cons, List.append_assoc, cntR_pack most v _ bad h1.1 h1.2 h3]
    simp only
    rw [cntN_pack most h3 l x bad (fun v hv => h v (by simp [hv]))]
def ThRdr (r : Nat) (d : Rd) : Thing := ⟨fun w D => ReaderAt w r d.1 d.2 D, fun h hs => h.frame hs, fun h => h.lt⟩
section
variable {w0 w : World} {r : Nat} {d : Rd} {R : List Thing} {rows : List (Value × Bs)}
theorem rdrSep_count (h : Sep w0 w (ThRdr r d :: R) rows) (most : Int) (hm : 0 ≤ most) :
    Calls Tryd.prog 31 #[.pointer (some ⟨r, 0, none⟩), .int .i64 most] w fun e w' => e = .returned (.int .i64 (cntR most d).1) ∧ Sep w0 w' (ThRdr r (cntR most d).2 :: R) rows := by
  obtain ⟨D, hP, -, back⟩ := h.use
  refine (rdr_count r d.1 d.2 most hm D w hP).mono ?_
  rintro e w' ⟨rfl, D', h', hu⟩
  exact ⟨rfl, back w' D' (ThRdr r (cntR most d).2) hu h'⟩
theorem rdrSep_i64 (h : Sep w0 w (ThRdr r d :: R) rows) :
    Calls Tryd.prog 32 #[.pointer (some ⟨r, 0, none⟩)] w fun e w' => e = .returned (.int .i64 (i64R d).1) ∧ Sep w0 w' (ThRdr r (i64R d).2 :: R) rows := by
  obtain ⟨D, hP, -, back⟩ := h.use
  refine (rdr_i64 r d.1 d.2 D w hP).mono ?_
  rintro e w' ⟨rfl, D', h', hu⟩
  have e1 : (i64R d).1 = if d.1.length < 8 then 0 else rdI d.1 := by unfold i64R; split <;> rfl
  have e2 : (i64R d).2.1 = if d.1.length < 8 then [] else d.1.drop 8 := by unfold i64R; split <;> rfl
  have e3 : (i64R d).2.2 = if d.1.length < 8 then true else d.2 := by unfold i64R; split <;> rfl
  exact ⟨by rw [e1], back w' D' (ThRdr r (i64R d).2) hu (by show ReaderAt w' r (i64R d).2.1 (i64R d).2.2 D'; rw [e2, e3]; exact h')⟩
theorem rdrSep_end (h : Sep w0 w (ThRdr r d :: R) rows) :
    Calls Tryd.prog 34 #[.pointer (some ⟨r, 0, none⟩)] w fun e w' => e = .returned (.bool (!d.2 && d.1.isEmpty)) ∧ w' = w := by
  obtain ⟨D, hP⟩ := h.fst
  exact rdr_end r d.1 d.2 D w hP

end
end Go.Proofs.YtfncdgnhiinmjaaDoor
