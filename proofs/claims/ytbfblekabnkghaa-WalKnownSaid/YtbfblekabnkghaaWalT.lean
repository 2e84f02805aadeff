/-
  A log and its disk: CutTo, Restart, what is opened behind it.
-/
import Derived.Test.YtbfblekabnkghaaWalQ
namespace Go.Proofs.Ytbfblekabnkghaa
open Go.RowKit Go.Av

def baseF (n : Int) : FileS := ⟨nmBase, frameS (packI n), (frameS (packI n)).length⟩
theorem baseF_crash (n keep : Int) : FileS.crash keep (baseF n) = baseF n := by
  simp [FileS.crash, baseF]
theorem base_len (n : Int) : (frameS (packI n)).length = 20 := by rw [frameS_length, packI_length]
theorem total_base (n : Int) : total [baseF n] = 20 := by simp [total, baseF, base_len]

theorem restart_plain {room lv n : Int} {x : Bool} {b : Bs} {s : Nat} {S : DiskS} (h : Dk room lv false x b s [] S) (hr : 64 ≤ room) :
    ∃ k1 k2 S1 S2 S3 S4 S5, missS k1 = 0 ∧ missS k2 = 0 ∧ S.cut nmLog 0 = (k1, S1) ∧ S1.drop nmNew = (k2, S2) ∧ S2.append nmNew (frameS (packI n)) = (0, S3) ∧ S3.sync nmNew = (0, S4) ∧ S4.rename nmNew nmBase = (0, S5) ∧
      Dk room lv false x [] 0 [baseF n] S5 := by
  have h1 : ∃ k1 S1, missS k1 = 0 ∧ S.cut nmLog 0 = (k1, S1) ∧ Dk room lv false x [] 0 [] S1 := by
    cases x
    · have hx := h.2.2.2
      obtain ⟨A, B, -, -, -, hx⟩ := hx
      obtain ⟨rfl, rfl⟩ := hx rfl
      refine ⟨4, S, rfl, ?_, h⟩
      unfold DiskS.cut
      rw [if_pos (by simp [h.ask]), h.ask]
      rfl
    · obtain ⟨S1, e, h'⟩ := h.cut 0 (Nat.zero_le _)
      exact ⟨0, S1, rfl, e, by simpa using h'⟩
  obtain ⟨k1, S1, e0, e1, h1⟩ := h1
  obtain ⟨r1, o1, l1, A, B, f1, hO, -, -⟩ := h1
  obtain rfl : A = [] := by cases A; rfl; cases hO
  obtain rfl : B = [] := by cases B; rfl; cases hO
  rw [List.nil_append, List.append_nil] at f1
  obtain ⟨room1, off1, lives1, fs1⟩ := S1
  simp only at r1 o1 l1 f1
  subst r1 o1 l1 f1
  have m1 : ∀ fs, DiskS.may ⟨room1, false, lives1, fs⟩ [nmNew] = 0 := fun fs => by simp [DiskS.may, good_new]
  have n1 : nmLog ≠ nmNew := ne_nl.symm
  have n2 : nmLog ≠ nmBase := ne_bl.symm
  have n3 : nmNew ≠ nmBase := ne_nb
  refine ⟨k1, 4, _, ⟨room1, false, lives1, lfs x [] 0⟩, ⟨room1, false, lives1, lfs x [] 0 ++ [⟨nmNew, frameS (packI n), 0⟩]⟩, ⟨room1, false, lives1, lfs x [] 0 ++ [⟨nmNew, frameS (packI n), (frameS (packI n)).length⟩]⟩, ⟨room1, false, lives1, lfs x [] 0 ++ [baseF n]⟩, e0, rfl, e1, ?_, ?_, ?_, ?_, ?_⟩
  · unfold DiskS.drop DiskS.ask
    rw [m1]
    cases x <;> simp [lfs, hasN, n1]
    all_goals rfl
  · unfold DiskS.append
    rw [m1, if_neg (by simp), if_neg (by cases x <;> simp [lfs, total, base_len] <;> omega)]
    cases x <;> simp [lfs, putApp, n1]
  · unfold DiskS.sync DiskS.ask
    rw [m1]
    cases x <;> simp [lfs, hasN, n1, updN, FileS.sync]
  · unfold DiskS.rename
    rw [if_neg (by simp [DiskS.may, good_new, good_base])]
    cases x <;> simp [lfs, hasN, renN, delN, n1, n2, baseF]
  · exact ⟨rfl, rfl, rfl, [], [baseF n], rfl, rfl, by simp [baseF, ne_bl], by simp⟩

theorem base_some {room lv n : Int} {x : Bool} {b : Bs} {s : Nat} {S : DiskS} (h : Dk room lv false x b s [baseF n] S) (h1 : 1 ≤ n) (h2 : n ≤ 1099511627776) : baseS S = (n, 0) := by
  have hh : hasN nmBase S.fs = true ∧ getN nmBase S.fs = frameS (packI n) := by
    obtain ⟨-, -, -, A, B, hf, hO, -⟩ := h
    have hn : nmLog ≠ nmBase := ne_bl.symm
    rw [hf]
    cases A with
    | nil =>
      rw [List.nil_append] at hO
      subst hO
      cases x <;> simp [lfs, hasN, getN, baseF, hn]
    | cons a A =>
      rw [List.cons_append] at hO
      injection hO with ha hO
      subst ha
      simp [hasN, getN, baseF]
  have ha : S.ask nmBase = 0 := by
    unfold DiskS.ask
    rw [if_neg (by simp [h.may nmBase good_base]), if_pos hh.1]
  have hsc : scanS (frameS (packI n)) = ([packI n], 20, 0) := by
    have := scanS_frame (packI n) [] (by rw [packI_length]; omega)
    rw [List.append_nil, scanS_nil, packI_length] at this
    exact this
  have hrd : rdI (packI n) = n := by
    have := rdI_pack n [] (by omega) (by omega)
    rwa [List.append_nil] at this
  unfold baseS
  rw [ha, if_neg (by decide), if_neg (by decide)]
  unfold DiskS.read
  rw [ha, if_pos rfl, hh.2]
  unfold baseB
  rw [hsc]
  simp only [List.length_singleton, List.headD_cons, and_self, if_true]
  unfold baseR
  rw [packI_length, hrd, if_pos ⟨rfl, h1, h2⟩]

section
variable {w0 w : World} {g d : Nat} {room lv n : Int} {x off : Bool} {ls : List Bs} {b : Bs} {s : Nat} {O : List FileS} {R : List Thing} {rows : List (Value × Bs)}

theorem Wl.cutTo (h : Wl w0 w g d room lv n x ls s O R rows) {k : Int} (i : Nat) (hk : k = n + (i : Int)) (hi : i ≤ ls.length) :
    Calls Try.prog 23 #[.pointer (some ⟨g, 0, none⟩), .int .i64 k] w (fun e w' => ∃ s', e = .returned (.int .i64 0) ∧ Wl w0 w' g d room lv n x (ls.take i) s' O R rows) := by
  have hsm := h.small
  have hfm := frames_many ls
  obtain ⟨S, hD, h1, h2, h3, hS⟩ := h
  subst hk
  refine (cutTo_any _ h2 h3 (by show (frames ls).length ≤ _; omega) hS).mono fun e w' hp => ?_
  have hno : ¬ (n + (i : Int) < n ∨ n + (ls.length : Int) < n + (i : Int)) := by omega
  by_cases hii : i = ls.length
  · have e1 : cutS (lg lv n ls) S (n + (i : Int)) = (0, lg lv n ls, S) := by
      show (if offS (lg lv n ls) S then _ else if n + (i : Int) < n ∨ n + (ls.length : Int) < n + (i : Int) then _ else if n + (i : Int) = n + (ls.length : Int) then _ else _) = _
      rw [hD.offS, if_neg (by simp), if_neg hno, if_pos (by omega)]
    rw [e1] at hp
    subst hii
    rw [List.take_length]
    exact ⟨s, hp.1, S, hD, h1, h2, h3, hp.2⟩
  · have hx : x = true := by
      cases x
      · obtain ⟨A, B, -, -, -, hx⟩ := hD.2.2.2
        have := (hx rfl).1
        rw [this] at hfm
        simp at hfm
        omega
      · rfl
    subst hx
    obtain ⟨S', e2, hD'⟩ := hD.cut (frames (ls.take i)).length (frames_take_le ls i)
    have e1 : cutS (lg lv n ls) S (n + (i : Int)) = (0, lg lv n (ls.take i), S') := by
      show (if offS (lg lv n ls) S then _ else if n + (i : Int) < n ∨ n + (ls.length : Int) < n + (i : Int) then _ else if n + (i : Int) = n + (ls.length : Int) then _ else
        if (S.cut nmLog ((frames (ls.take (n + (i : Int) - n).toNat)).length : Int)).1 ≠ 0 then _ else (0, lg lv n (ls.take (n + (i : Int) - n).toNat), (S.cut nmLog ((frames (ls.take (n + (i : Int) - n).toNat)).length : Int)).2)) = _
      rw [hD.offS, if_neg (by simp), if_neg hno, if_neg (by omega), show n + (i : Int) - n = i by omega, Int.toNat_natCast, e2, if_neg (by simp)]
    rw [e1] at hp
    rw [frames_take] at hD'
    exact ⟨_, hp.1, S', hD', fun r hr => h1 r (List.mem_of_mem_take hr), h2, h3, hp.2⟩

theorem Wl.restart (h : Wl w0 w g d room lv n x ls s [] R rows) (m : Int) (h1 : 1 ≤ m) (h2 : m ≤ 1099511627776) (hr : 64 ≤ room) :
    Calls Try.prog 24 #[.pointer (some ⟨g, 0, none⟩), .int .i64 m] w (fun e w' => e = .returned (.int .i64 0) ∧ Wl w0 w' g d room lv m x [] 0 [baseF m] R rows) := by
  obtain ⟨S, hD, _, _, _, hS⟩ := h
  obtain ⟨k1, k2, S1, S2, S3, S4, S5, a1, a2, e1, e2, e3, e4, e5, hD5⟩ := restart_plain (n := m) hD hr
  exact (restart_ok m hD.offS h1 h2 a1 a2 e1 e2 e3 e4 e5 hS).mono fun e w' ⟨he, hS'⟩ => ⟨he, S5, hD5, by simp, h1, h2, hS'⟩
theorem Wl.restartNo (h : Wl w0 w g d room lv n x ls s O R rows) (m : Int) (hm : m < 1 ∨ 1099511627776 < m) :
    Calls Try.prog 24 #[.pointer (some ⟨g, 0, none⟩), .int .i64 m] w (fun e w' => e = .returned (.int .i64 1) ∧ Wl w0 w' g d room lv n x ls s O R rows) := by
  obtain ⟨S, hD, h1, h2, h3, hS⟩ := h
  exact (restart_no m hD.offS hm hS).mono fun e w' ⟨he, hS'⟩ => ⟨he, S, hD, h1, h2, h3, hS'⟩
theorem Wl.cutNo (h : Wl w0 w g d room lv n x ls s O R rows) {k : Int} (hk : k < n ∨ n + (ls.length : Int) < k) :
    Calls Try.prog 23 #[.pointer (some ⟨g, 0, none⟩), .int .i64 k] w (fun e w' => e = .returned (.int .i64 1) ∧ Wl w0 w' g d room lv n x ls s O R rows) := by
  have hsm := h.small
  obtain ⟨S, hD, h1, h2, h3, hS⟩ := h
  refine (cutTo_any _ h2 h3 (by show (frames ls).length ≤ _; omega) hS).mono fun e w' hp => ?_
  have e1 : cutS (lg lv n ls) S k = (1, lg lv n ls, S) := by
    show (if offS (lg lv n ls) S then _ else if k < n ∨ n + (ls.length : Int) < k then _ else _) = _
    rw [hD.offS, if_neg (by simp), if_pos hk]
  rw [e1] at hp
  exact ⟨hp.1, S, hD, h1, h2, h3, hp.2⟩
end
end Go.Proofs.Ytbfblekabnkghaa
