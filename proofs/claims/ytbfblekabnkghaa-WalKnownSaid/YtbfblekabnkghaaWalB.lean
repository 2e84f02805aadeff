/-
  The log's small walks: end, size, read, base.
-/
import Derived.Test.YtbfblekabnkghaaWalA
namespace Go.Proofs.Ytbfblekabnkghaa
open Go.RowKit Go.Av

theorem frames_take_le (l : List Bs) (k : Nat) : (frames (l.take k)).length ≤ (frames l).length := by
  have : (frames l).length = (frames (l.take k)).length + (frames (l.drop k)).length := by
    rw [← List.length_append, ← show frames (l.take k ++ l.drop k) = frames (l.take k) ++ frames (l.drop k) by unfold frames; rw [List.flatMap_append], List.take_append_drop]
  omega
theorem frames_many (l : List Bs) : 12 * l.length ≤ (frames l).length := by
  induction l with
  | nil => simp
  | cons r l ih =>
    have : (frames (r :: l)).length = (12 + r.length) + (frames l).length := by simp [frames, frameS_length]
    simp only [List.length_cons]
    omega
theorem endsS_get (recs : List Bs) (i : Nat) (h : i < recs.length) : (endsS recs)[i]? = some (.int .i64 ((frames (recs.take (i + 1))).length : Int)) := by
  unfold endsS
  rw [List.getElem?_map, List.getElem?_range h]
  rfl

section
variable {w0 w : World} {g d : Nat} {L : LogS} {S : DiskS} {R : List Thing} {rows : List (Value × Bs)}

set_option maxRecDepth 100000 in
theorem end_any (k : Nat) (hk : k ≤ L.recs.length) (h : Sep w0 w (ThLog g d L :: R) rows) :
    Calls Try.prog 34 #[.pointer (some ⟨g, 0, none⟩), .int .i64 k] w fun e w' => e = .returned (.int .i64 ((frames (L.recs.take k)).length : Int)) ∧ w' = w := by
  obtain ⟨D, ⟨vr, ve, Dr, De, T, h1, h2, h3, rfl, h5, h6⟩, hr, back⟩ := h.use
  obtain ⟨a2, n2, c2, rfl, hl2, hn2, hc2, -⟩ := id h3
  rw [endsS_length, Nat.mul_one] at hl2
  subst hl2
  have c5 := cell_of h1 5 rfl
  unfold maxLen at hc2
  match k with
  | 0 =>
    clear h1 h2 h3 h5 h6 hr back h
    go_enter Try.func34, Try.ntmps34
    go_wp2_with fail
    go_ret
    exact ⟨rfl, rfl⟩
  | k + 1 =>
    obtain ⟨y, rfl, hs, hc⟩ := ownCell h3 (endsS_get L.recs k (by omega))
    obtain ⟨m, hm⟩ : ∃ m, m = (frames (L.recs.take (k + 1))).length := ⟨_, rfl⟩
    rw [← hm] at hc ⊢
    have e1 : IntKind.i64.wrap (((k + 1 : Nat) : Int) - 1) = (k : Int) := by rw [IntWalk.i64_in _ (by omega)]; omega
    have hk' : k < L.recs.length := by omega
    have hz : ((k : Int) + 1 == 0) = false := by simp; omega
    have e2 : IntKind.i64.wrap ((k : Int) + 1 - 1) = (k : Int) := by rw [IntWalk.i64_in _ (by omega)]; omega
    clear h1 h2 h3 h5 h6 hr back h hm
    go_enter Try.func34, Try.ntmps34
    go_wp2_with fail
    go_ret
    exact ⟨rfl, rfl⟩

theorem size_log (v : Value) (r : Bs) (E : List Nat) (w : World) (h : ReadRow w 1 v (r.map bv) E) (hr : r.length ≤ 20000) :
    Calls Try.prog 30 #[v] w fun e w' => e = .returned (.int .i64 ((frameS r).length : Int)) ∧ Upd w w' [] [] := by
  go_enter Try.func30, Try.ntmps30
  go_wp2_with fail
  refine (put_any v r E _ h).mono ?_
  rintro e w1 (⟨hno, -⟩ | ⟨_, v1, D1, rfl, ho, hu⟩)
  · omega
  obtain ⟨a, n, c, rfl, hl⟩ := ho.len
  rw [List.length_map, Nat.mul_one] at hl
  subst hl
  have HU := Lib.hid hu
  clear ho hu h
  go_wp2_with fail
  go_ret
  exact ⟨rfl, HU.out.mono (by simp) (by simp)⟩

def readS (S : DiskS) (n : ByteArray) : Bs × Int := if S.ask n = 4 then ([], 0) else (DiskS.read S n, S.ask n)

theorem read_log (name : ByteArray) (hn : name.size ≤ maxLen) (h : Sep w0 w (ThDisk d S :: R) rows) :
    Calls Try.prog 26 #[.pointer (some ⟨d, 0, none⟩), .string name] w fun e w' => ∃ v, e = .returned (.tuple #[v, .int .i64 (readS S name).2]) ∧ Sep w0 w' (ThDisk d S :: R) ((v, (readS S name).1) :: rows) := by
  obtain ⟨k, hk⟩ : ∃ k, S.ask name = k := ⟨_, rfl⟩
  obtain ⟨q, hq⟩ : ∃ q, readS S name = q := ⟨_, rfl⟩
  rw [hq]
  unfold readS at hq
  rw [hk] at hq
  have H := Lib.hid h
  have HQ := Lib.hid hq
  clear h hq
  go_enter Try.func26, Try.ntmps26
  go_wp2_with fail
  refine (SD.read H.out name hn hk rfl).mono ?_
  rintro e w1 ⟨v, rfl, h⟩
  have H1 := Lib.hid h
  clear h hk
  by_cases h4 : k = 4
  · subst h4
    go_wp2_with fail
    go_ret2
    rw [← HQ.out]
    exact ⟨_, rfl, H1.out.drop_row.nil⟩
  · have h4' : (k == 4) = false := by simp [h4]
    go_wp2_with fail
    go_ret2
    rw [← HQ.out, if_neg h4]
    exact ⟨_, rfl, H1.out⟩
end
end Go.Proofs.Ytbfblekabnkghaa
