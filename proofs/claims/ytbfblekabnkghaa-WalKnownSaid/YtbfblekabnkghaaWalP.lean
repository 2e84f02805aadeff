/-
  The log in plain words: a disk with a log's file, and others beside it.
-/
import Derived.Test.YtbfblekabnkghaaWalS
namespace Go.Proofs.Ytbfblekabnkghaa
open Go.RowKit Go.Av

def lfs (x : Bool) (b : Bs) (s : Nat) : List FileS := if x then [⟨nmLog, b, s⟩] else []
/-- A disk: has it a log's file, of which bytes, how many are safe; the other files. -/
def Dk (room lv : Int) (off x : Bool) (b : Bs) (s : Nat) (O : List FileS) (S : DiskS) : Prop :=
  S.room = room ∧ S.off = off ∧ S.lives = lv ∧ ∃ A B, S.fs = A ++ (lfs x b s ++ B) ∧ O = A ++ B ∧ (∀ f ∈ O, f.name ≠ nmLog) ∧ (x = false → b = [] ∧ s = 0)
def lg (lv n : Int) (ls : List Bs) : LogS := { lives := lv, done := false, first := n, recs := ls }
def lgd (lv n : Int) (ls : List Bs) : LogS := { lives := lv, done := true, first := n, recs := ls }

theorem good_log : goodN nmLog = true := by rfl
theorem good_base : goodN nmBase = true := by rfl
theorem good_new : goodN nmNew = true := by rfl
theorem ne_bl : nmBase ≠ nmLog := by decide
theorem ne_nl : nmNew ≠ nmLog := by decide
theorem ne_nb : nmNew ≠ nmBase := by decide

section
variable {room lv n : Int} {x : Bool} {b : Bs} {s : Nat} {O : List FileS} {ls : List Bs} {S : DiskS}

theorem Dk.new (room : Int) : Dk room 1 false false [] 0 [] (DiskS.new room) := ⟨rfl, rfl, rfl, [], [], rfl, rfl, by simp, by simp⟩
theorem Dk.may (h : Dk room lv false x b s O S) (nm : ByteArray) (hg : goodN nm = true) : S.may [nm] = 0 := by simp [DiskS.may, h.2.1, hg]
theorem Dk.offS (h : Dk room lv false x b s O S) : offS (lg lv n ls) S = false := by simp [Go.Proofs.Ytbfblekabnkghaa.offS, lg, h.2.1, h.2.2.1]
theorem Dk.has (h : Dk room lv false x b s O S) : hasN nmLog S.fs = x := by
  obtain ⟨-, -, -, A, B, hf, rfl, hn, -⟩ := h
  rw [hf]
  cases x
  · simp only [lfs, Bool.false_eq_true, if_false, List.nil_append]
    exact hasN_not hn
  · simp [hasN, lfs]
theorem Dk.ask (h : Dk room lv false x b s O S) : S.ask nmLog = if x then 0 else 4 := by
  unfold DiskS.ask
  rw [if_neg (by simp [h.may nmLog good_log]), h.has]
theorem Dk.get (h : Dk room lv false true b s O S) : getN nmLog S.fs = b := by
  obtain ⟨-, -, -, A, B, hf, rfl, hn, -⟩ := h
  rw [hf]
  simp only [lfs, if_true, List.cons_append, List.nil_append]
  exact getN_mid (fun y hy => hn y (List.mem_append.2 (.inl hy))) rfl
theorem Dk.readS (h : Dk room lv false x b s O S) : readS S nmLog = (b, 0) := by
  unfold Go.Proofs.Ytbfblekabnkghaa.readS
  rw [h.ask]
  cases x
  · obtain ⟨-, -, -, A, B, -, -, -, hx⟩ := h
    simp [(hx rfl).1]
  · simp only [if_true, DiskS.read, h.ask, h.get]
    simp
theorem Dk.total (h : Dk room lv false x b s O S) : total S.fs = b.length + total O := by
  obtain ⟨-, -, -, A, B, hf, rfl, hn, hx⟩ := h
  rw [hf]
  cases x
  · simp [lfs, total_app, (hx rfl).1]
  · simp [lfs, total_app, total_cons]; omega
theorem Dk.append (h : Dk room lv false x b s O S) (c : Bs) (hfit : ((b.length + Av.total O + c.length : Nat) : Int) ≤ room) :
    ∃ S', S.append nmLog c = (0, S') ∧ Dk room lv false true (b ++ c) s O S' := by
  unfold DiskS.append
  rw [if_neg (by simp [h.may nmLog good_log]), if_neg (by rw [h.total, h.1]; omega)]
  refine ⟨_, rfl, h.1, h.2.1, h.2.2.1, ?_⟩
  obtain ⟨-, -, -, A, B, hf, rfl, hn, hx⟩ := h
  cases x
  · obtain ⟨rfl, rfl⟩ := hx rfl
    refine ⟨A ++ B, [], ?_, by simp, hn, by simp⟩
    rw [hf]
    simp only [lfs, Bool.false_eq_true, if_false, List.nil_append, if_true, List.append_nil]
    exact putApp_new _ _ _ hn
  · refine ⟨A, B, ?_, rfl, hn, by simp⟩
    rw [hf]
    simp only [lfs, if_true, List.cons_append, List.nil_append]
    exact putApp_mid nmLog c ⟨nmLog, b, s⟩ rfl B A (fun y hy => hn y (List.mem_append.2 (.inl hy)))
theorem Dk.full (h : Dk room lv false x b s O S) (c : Bs) (hfit : room < ((b.length + Av.total O + c.length : Nat) : Int)) : S.append nmLog c = (9, S) := by
  unfold DiskS.append
  rw [if_neg (by simp [h.may nmLog good_log]), if_pos (by rw [h.total, h.1]; omega)]
theorem Dk.upd (h : Dk room lv false true b s O S) (φ : FileS → FileS) {b' : Bs} {s' : Nat} (hφ : φ ⟨nmLog, b, s⟩ = ⟨nmLog, b', s'⟩) : Dk room lv false true b' s' O { S with fs := updN nmLog φ S.fs } := by
  refine ⟨h.1, h.2.1, h.2.2.1, ?_⟩
  obtain ⟨-, -, -, A, B, hf, rfl, hn, hx⟩ := h
  refine ⟨A, B, ?_, rfl, hn, by simp⟩
  show updN nmLog φ S.fs = _
  rw [hf]
  simp only [lfs, if_true, List.cons_append, List.nil_append]
  rw [updN_mid (n := nmLog) (f := ⟨nmLog, b, s⟩) (fun y hy => hn y (List.mem_append.2 (.inl hy))) rfl (fun y hy => hn y (List.mem_append.2 (.inr hy))), hφ]
theorem Dk.sync (h : Dk room lv false x b s O S) : ∃ S', syncS (lg lv n ls) S = (0, lg lv n ls, S') ∧ Dk room lv false x b b.length O S' := by
  unfold syncS
  rw [h.offS]
  unfold DiskS.sync
  rw [h.ask]
  cases x
  · have hx := h.2.2.2
    obtain ⟨A, B, -, -, -, hx⟩ := hx
    obtain ⟨rfl, rfl⟩ := hx rfl
    exact ⟨S, by simp, h⟩
  · exact ⟨_, by simp [lg], h.upd FileS.sync rfl⟩
theorem Dk.cut (h : Dk room lv false true b s O S) (k : Nat) (hk : k ≤ b.length) : ∃ S', S.cut nmLog (k : Int) = (0, S') ∧ Dk room lv false true (b.take k) (min s k) O S' := by
  unfold DiskS.cut
  rw [if_neg (by simp [h.ask]), if_neg (by rw [h.get]; omega)]
  exact ⟨_, rfl, h.upd (FileS.cut (k : Int).toNat) (by simp [FileS.cut])⟩
theorem Dk.crash (h : Dk room lv false x b s O S) (keep : Int) : Dk room lv true x (b.take (s + min keep.toNat (b.length - s))) (if x then s + min keep.toNat (b.length - s) else 0) (O.map (FileS.crash keep)) (S.crash keep) := by
  refine ⟨h.1, rfl, h.2.2.1, ?_⟩
  obtain ⟨-, -, -, A, B, hf, rfl, hn, hx⟩ := h
  refine ⟨A.map (FileS.crash keep), B.map (FileS.crash keep), ?_, by simp, fun f hf => ?_, fun e => ?_⟩
  · show S.fs.map _ = _
    rw [hf]
    cases x <;> simp [lfs, FileS.crash]
  · obtain ⟨y, hy, rfl⟩ := List.mem_map.1 hf
    exact hn y hy
  · subst e; simp [(hx rfl).1]
theorem Dk.on (h : Dk room lv true x b s O S) : Dk room (wrap64 (lv + 1)) false x b s O S.on := by
  obtain ⟨h1, h2, h3, h4⟩ := h
  exact ⟨h1, rfl, by show wrap64 (S.lives + 1) = _; rw [h3], h4⟩

/-! ### what the log's calls do -/
theorem add_ok (h : Dk room lv false x (frames ls) s O S) {r : Bs} (hr : r.length ≤ 20000) (hfit : (((frames ls).length + total O + (12 + r.length) : Nat) : Int) ≤ room) :
    ∃ S', addS (lg lv n ls) S r = (0, lg lv n (ls ++ [r]), S') ∧ Dk room lv false true (frames (ls ++ [r])) s O S' := by
  obtain ⟨S', e, h'⟩ := h.append (frameS r) (by rw [frameS_length]; exact hfit)
  refine ⟨S', ?_, ?_⟩
  · unfold addS
    rw [h.offS, e]
    simp only [Bool.false_eq_true, if_false]
    rw [if_neg (by omega), if_neg (by simp)]
    rfl
  · have : frames (ls ++ [r]) = frames ls ++ frameS r := by simp [frames]
    rw [this]; exact h'
theorem add_big (h : Dk room lv false x (frames ls) s O S) {r : Bs} (hr : 20000 < r.length) : addS (lg lv n ls) S r = (2, lg lv n ls, S) := by
  unfold addS
  rw [h.offS]
  simp only [Bool.false_eq_true, if_false]
  rw [if_pos hr]
theorem add_full (h : Dk room lv false x (frames ls) s O S) {r : Bs} (hr : r.length ≤ 20000) (hfit : room < (((frames ls).length + total O + (12 + r.length) : Nat) : Int)) :
    addS (lg lv n ls) S r = (9, lgd lv n ls, S) := by
  have e := h.full (frameS r) (by rw [frameS_length]; exact hfit)
  unfold addS
  rw [h.offS, e]
  simp only [Bool.false_eq_true, if_false]
  rw [if_neg (by omega), if_pos (by simp)]
  rfl
theorem add_off (S : DiskS) (r : Bs) : addS (lgd lv n ls) S r = (10, lgd lv n ls, S) := by
  unfold addS
  rw [if_pos (by simp [offS, lgd])]
  rfl
theorem at_in (h : Dk room lv false x b s O S) {i : Nat} (hi : i < ls.length) : atS (lg lv n ls) S (n + (i : Int)) = (ls[i], 0, lg lv n ls) := by
  show (if offS (lg lv n ls) S then ([], 10, doneS (lg lv n ls)) else if n + (i : Int) < n ∨ n + (ls.length : Int) ≤ n + (i : Int) then ([], 4, lg lv n ls) else ((ls[(n + (i : Int) - n).toNat]?).getD [], 0, lg lv n ls)) = _
  rw [h.offS, if_neg (by simp), if_neg (by omega), show n + (i : Int) - n = i by omega, Int.toNat_natCast, List.getElem?_eq_getElem hi]
  rfl
theorem at_out (h : Dk room lv false x b s O S) {k : Int} (hk : k < n ∨ n + (ls.length : Int) ≤ k) : atS (lg lv n ls) S k = ([], 4, lg lv n ls) := by
  show (if offS (lg lv n ls) S then ([], 10, doneS (lg lv n ls)) else if k < n ∨ n + (ls.length : Int) ≤ k then ([], 4, lg lv n ls) else ((ls[(k - n).toNat]?).getD [], 0, lg lv n ls)) = _
  rw [h.offS, if_neg (by simp), if_pos hk]

/-- What is opened: the whole records ahead of what is torn. -/
theorem open_torn (h : Dk room lv false x b s O S) (hb : baseS S = (n, 0)) {how : Int} {used : Nat} (hsc : scanS b = (ls, used, how)) (hw : how ≠ 2) (hbt : b.take used = frames ls) (hs : s ≤ b.length) :
    ∃ S', openS S = (0, lg lv n ls, S') ∧ Dk room lv false x (frames ls) (min s used) O S' := by
  have hu := scanS_used b
  rw [hsc] at hu
  simp only at hu
  unfold openS
  rw [hb, h.readS]
  simp only [ne_eq, not_true, if_false]
  unfold openB
  rw [hsc]
  simp only
  rw [if_neg hw]
  by_cases hlt : used < b.length
  · rw [if_pos hlt]
    cases x
    · obtain ⟨A, B, -, -, -, hx⟩ := h.2.2.2
      obtain ⟨rfl, rfl⟩ := hx rfl
      simp at hlt
    · obtain ⟨S', e, h'⟩ := h.cut used (by omega)
      rw [e, if_neg (by simp)]
      rw [hbt] at h'
      refine ⟨S', ?_, h'⟩
      unfold openOk lg
      rw [h'.2.2.1]
  · rw [if_neg hlt]
    have : used = b.length := by omega
    rw [List.take_of_length_le (by omega)] at hbt
    subst hbt
    rw [Nat.min_eq_left (by omega)]
    refine ⟨S, ?_, h⟩
    unfold openOk lg
    rw [h.2.2.1]
end

theorem frames_append (a b : List Bs) : frames (a ++ b) = frames a ++ frames b := by simp [frames]
theorem frames_take (l : List Bs) (j : Nat) : (frames l).take (frames (l.take j)).length = frames (l.take j) := by
  have : frames l = frames (l.take j) ++ frames (l.drop j) := by rw [← frames_append, List.take_append_drop]
  rw [this, List.take_append_of_le_length (Nat.le_refl _), List.take_length]
theorem frames_le (M : Nat) (l : List Bs) (h : ∀ r ∈ l, r.length ≤ M) : (frames l).length ≤ l.length * (12 + M) := by
  induction l with
  | nil => simp [frames]
  | cons r l ih =>
    have h1 := ih (fun q hq => h q (by simp [hq]))
    have h2 := h r (by simp)
    have : (frames (r :: l)).length = (12 + r.length) + (frames l).length := by simp [frames, frameS_length]
    rw [this, List.length_cons, Nat.succ_mul]
    omega
theorem take_push (ls : List Bs) (p : Nat) (h : p < ls.length) : ls.take (p + 1) = ls.take p ++ [ls[p]] := List.take_succ_eq_append_getElem h
end Go.Proofs.Ytbfblekabnkghaa
