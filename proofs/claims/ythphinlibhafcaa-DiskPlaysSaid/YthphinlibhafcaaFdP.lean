/-
  The two disks side by side, in plain words.
-/
import Derived.Test.YthphinlibhafcaaFdH
import Derived.Test.YthphinlibhafcaaDiskN
namespace Go.Proofs.Ythphinlibhafcaa
open Go.RowKit Go.Av Go.Sort

def nmL (f : FileS) : List UInt8 := f.name.data.toList
def SortF (l : List FileS) : Prop := l.Pairwise (fun a b => nmL a < nmL b)
structure DRel (S T : DiskS) : Prop where
  room : T.room = S.room
  off : T.off = S.off
  lives : T.lives = S.lives
  perm : T.fs.Perm S.fs
  sort : SortF T.fs

theorem named_perm {l l' : List FileS} (h : l'.Perm l) (hN : Named l) : Named l' := by
  unfold Named at hN ⊢
  exact ((h.map (fun f : FileS => f.name)).nodup_iff).2 hN
theorem hasN_perm {l l' : List FileS} (h : l'.Perm l) (s : ByteArray) : hasN s l' = hasN s l := by
  unfold hasN
  exact h.any_eq
theorem hasN_iff {s : ByteArray} {l : List FileS} : hasN s l = true ↔ ∃ f ∈ l, f.name = s := by
  unfold hasN
  simp
theorem getN_mem {l : List FileS} {f : FileS} {s : ByteArray} (hN : Named l) (hf : f ∈ l) (hs : f.name = s) : getN s l = f.b := by
  obtain ⟨l1, l2, rfl⟩ := List.append_of_mem hf
  subst hs
  exact getN_mid (hN.before) rfl
theorem getN_perm {l l' : List FileS} (h : l'.Perm l) (hN : Named l) (s : ByteArray) (hh : hasN s l = true) : getN s l' = getN s l := by
  obtain ⟨f, hf, hs⟩ := hasN_iff.1 hh
  rw [getN_mem hN hf hs, getN_mem (named_perm h hN) (h.mem_iff.2 hf) hs]
theorem total_perm' {l l' : List FileS} (h : l'.Perm l) : total l' = total l := total_perm h
theorem updN_perm {l l' : List FileS} (h : l'.Perm l) (s : ByteArray) (φ : FileS → FileS) : (updN s φ l').Perm (updN s φ l) := h.map _
theorem delN_perm {l l' : List FileS} (h : l'.Perm l) (s : ByteArray) : (delN s l').Perm (delN s l) := h.filter _
theorem updN_sort {l : List FileS} (h : SortF l) (s : ByteArray) {φ : FileS → FileS} (hφ : ∀ f, (φ f).name = f.name) : SortF (updN s φ l) := by
  unfold SortF updN
  rw [List.pairwise_map]
  refine h.imp fun {a b} hab => ?_
  have e : ∀ f : FileS, nmL (if f.name = s then φ f else f) = nmL f := fun f => by
    split
    · unfold nmL; rw [hφ]
    · rfl
  rw [e, e]
  exact hab
theorem SortF.ne {l : List FileS} (h : SortF l) : Named l := by
  unfold Named
  rw [List.nodup_iff_pairwise_ne, List.pairwise_map]
  refine h.imp fun {a b} hab e => ?_
  unfold nmL at hab
  rw [e] at hab
  exact absurd hab (List.lt_irrefl _)
theorem Laid.perm {f : FileS} {l l' : List FileS} (h : Laid f l l') : l'.Perm (f :: l) := by
  obtain ⟨p, hp, h1, h2, rfl⟩ := h
  refine List.perm_middle.trans ?_
  rw [List.take_append_drop]
theorem Laid.sort {f : FileS} {l l' : List FileS} (h : Laid f l l') (hs : SortF l) (hn : ∀ g ∈ l, g.name ≠ f.name) : SortF l' := by
  obtain ⟨p, hp, h1, h2, rfl⟩ := h
  unfold SortF
  rw [List.pairwise_append]
  have hsplit : SortF (l.take p ++ l.drop p) := by rw [List.take_append_drop]; exact hs
  obtain ⟨s1, s2, s3⟩ := List.pairwise_append.1 hsplit
  have hlow : ∀ a ∈ l.take p, nmL a < nmL f := fun a ha => by
    obtain ⟨j, hj, rfl⟩ := List.mem_iff_getElem.1 ha
    rw [List.length_take] at hj
    rw [List.getElem_take]
    exact h1 j (by omega) (by omega)
  have hhigh : ∀ b ∈ l.drop p, nmL f < nmL b := fun b hb => by
    have hlt : p < l.length := by
      rcases Nat.lt_or_ge p l.length with h | h
      · exact h
      · rw [List.drop_of_length_le h] at hb; cases hb
    have h3 := h2 hlt
    have hfirst : nmL f < nmL l[p] := by
      rcases List.le_total (nmL l[p]) (nmL f) with hle | hle
      · exfalso
        by_cases he : nmL l[p] = nmL f
        · refine hn _ (List.getElem_mem hlt) ?_
          unfold nmL at he
          generalize l[p].name = a at he ⊢
          generalize f.name = b at he ⊢
          cases a
          cases b
          simpa using he
        · by_cases hlt2 : nmL l[p] < nmL f
          · exact h3 hlt2
          · exact he (List.le_antisymm hle (List.not_lt.1 hlt2))
      · by_cases hlt2 : nmL f < nmL l[p]
        · exact hlt2
        · exfalso
          have he := List.le_antisymm hle (List.not_lt.1 hlt2)
          refine hn _ (List.getElem_mem hlt) ?_
          unfold nmL at he
          generalize l[p].name = a at he ⊢
          generalize f.name = b at he ⊢
          cases a
          cases b
          simpa using he.symm
    rw [List.drop_eq_getElem_cons hlt] at hb s2
    rcases List.mem_cons.1 hb with rfl | hb
    · exact hfirst
    · exact List.lt_trans hfirst ((List.pairwise_cons.1 s2).1 b hb)
  refine ⟨s1, List.pairwise_cons.2 ⟨hhigh, s2⟩, fun a ha b hb => ?_⟩
  rcases List.mem_cons.1 hb with rfl | hb
  · exact hlow a ha
  · exact s3 a ha b hb
theorem delN_no (s : ByteArray) (l : List FileS) : ∀ g ∈ delN s l, g.name ≠ s := by
  intro g hg
  unfold delN at hg
  have := (List.mem_filter.1 hg).2
  simpa using this
theorem SortF.sub {l l' : List FileS} (h : SortF l) (hs : l'.Sublist l) : SortF l' := h.sublist hs
theorem putApp_upd {s : ByteArray} {b : Bs} {l : List FileS} (hN : Named l) (h : hasN s l = true) : putApp s b l = updN s (fun f => { f with b := f.b ++ b }) l := by
  obtain ⟨f, hf, hs⟩ := hasN_iff.1 h
  obtain ⟨l1, l2, rfl⟩ := List.append_of_mem hf
  subst hs
  rw [putApp_mid _ b f rfl l2 l1 hN.before, updN_mid hN.before rfl hN.behind]

section
variable {S T : DiskS}
theorem DRel.may (h : DRel S T) (l : List ByteArray) : T.may l = S.may l := by unfold DiskS.may; rw [h.off]
theorem DRel.ask (h : DRel S T) (s : ByteArray) : T.ask s = S.ask s := by unfold DiskS.ask; rw [h.may, hasN_perm h.perm]
theorem DRel.sync (h : DRel S T) (s : ByteArray) : (T.sync s).1 = (S.sync s).1 ∧ DRel (S.sync s).2 (T.sync s).2 := by
  unfold DiskS.sync
  rw [h.ask]
  split
  · exact ⟨rfl, ⟨h.room, h.off, h.lives, updN_perm h.perm _ _, updN_sort h.sort _ (fun _ => rfl)⟩⟩
  · exact ⟨rfl, h⟩
theorem DRel.cut (h : DRel S T) (hN : Named S.fs) (s : ByteArray) (n : Int) : (T.cut s n).1 = (S.cut s n).1 ∧ DRel (S.cut s n).2 (T.cut s n).2 := by
  unfold DiskS.cut
  rw [h.ask]
  by_cases h0 : S.ask s = 0
  · rw [getN_perm h.perm hN s (ask_has h0)]
    simp only [h0, ne_eq, not_true_eq_false, if_false]
    split
    · exact ⟨rfl, h⟩
    · exact ⟨rfl, ⟨h.room, h.off, h.lives, updN_perm h.perm _ _, updN_sort h.sort _ (fun _ => rfl)⟩⟩
  · rw [if_pos h0, if_pos h0]
    exact ⟨rfl, h⟩
theorem DRel.drop (h : DRel S T) (s : ByteArray) : (T.drop s).1 = (S.drop s).1 ∧ DRel (S.drop s).2 (T.drop s).2 := by
  unfold DiskS.drop
  rw [h.ask]
  split
  · exact ⟨rfl, ⟨h.room, h.off, h.lives, delN_perm h.perm _, h.sort.sub (del_sub _ _)⟩⟩
  · exact ⟨rfl, h⟩
theorem DRel.crash (h : DRel S T) (k : Int) : DRel (S.crash k) (T.crash k) := by
  refine ⟨h.room, rfl, h.lives, h.perm.map _, ?_⟩
  unfold SortF DiskS.crash
  rw [List.pairwise_map]
  exact h.sort
theorem DRel.on (h : DRel S T) : DRel S.on T.on := ⟨h.room, rfl, by unfold DiskS.on; rw [h.lives], h.perm, h.sort⟩
theorem DRel.append (h : DRel S T) (hN : Named S.fs) (s : ByteArray) (b : Bs) : (T.append s b).1 = (S.append s b).1 ∧ ∀ T', AppR T s b T' → DRel (S.append s b).2 T' := by
  have e : (T.append s b).1 = (S.append s b).1 := by
    unfold DiskS.append
    rw [h.may, h.room, total_perm h.perm]
    split
    · rfl
    · split <;> rfl
  refine ⟨e, fun T' hT => ?_⟩
  obtain ⟨a1, a2⟩ := hT
  by_cases h0 : (T.append s b).1 = 0
  · have hS : (S.append s b).2 = { S with fs := putApp s b S.fs } := by
      rw [e] at h0
      unfold DiskS.append at h0 ⊢
      split
      · rename_i hm; rw [if_pos hm] at h0; exact absurd h0 hm
      · rename_i hm
        rw [if_neg hm] at h0
        split
        · rename_i hf; rw [if_pos hf] at h0; cases h0
        · rfl
    rw [hS]
    obtain ⟨b1, b2⟩ := a2 h0
    cases hh : hasN s T.fs with
    | true =>
      have hT : (T.append s b).2 = { T with fs := putApp s b T.fs } := by
        unfold DiskS.append at h0 ⊢
        split
        · rename_i hm; rw [if_pos hm] at h0; exact absurd h0 hm
        · rename_i hm
          rw [if_neg hm] at h0
          split
          · rename_i hf; rw [if_pos hf] at h0; cases h0
          · rfl
      rw [b1 hh, hT]
      have hh' : hasN s S.fs = true := by rw [← hasN_perm h.perm]; exact hh
      refine ⟨h.room, h.off, h.lives, ?_, ?_⟩
      · show (putApp s b T.fs).Perm (putApp s b S.fs)
        rw [putApp_upd hN hh', putApp_upd (named_perm h.perm hN) hh]
        exact updN_perm h.perm _ _
      · show SortF (putApp s b T.fs)
        rw [putApp_upd (named_perm h.perm hN) hh]
        exact updN_sort h.sort _ (fun _ => rfl)
    | false =>
      obtain ⟨l', hL, rfl⟩ := b2 hh
      have hno : ∀ g ∈ T.fs, g.name ≠ s := fun g hg e => by
        have := hasN_iff.2 ⟨g, hg, e⟩
        rw [hh] at this; cases this
      refine ⟨h.room, h.off, h.lives, ?_, hL.sort h.sort hno⟩
      show l'.Perm (putApp s b S.fs)
      rw [putApp_new s b S.fs (fun x hx => hno x (h.perm.mem_iff.2 hx))]
      exact (hL.perm.trans (h.perm.cons _)).trans (List.perm_append_singleton _ _).symm
  · rw [a1 h0]
    have hS : (S.append s b).2 = S := by
      rw [e] at h0
      unfold DiskS.append at h0 ⊢
      split
      · rfl
      · rename_i hm
        rw [if_neg hm] at h0
        split
        · rfl
        · rename_i hf; rw [if_neg hf] at h0; exact absurd rfl h0
    rw [hS]
    exact h
theorem renN_perm {l : List FileS} {f : FileS} {s to : ByteArray} (hN : Named l) (hf : f ∈ l) (hs : f.name = s) : (renN s to l).Perm ({ f with name := to } :: delN to (delN s l)) := by
  obtain ⟨l1, l2, rfl⟩ := List.append_of_mem hf
  have hfind : (l1 ++ f :: l2).find? (fun g => decide (g.name = s)) = some f := find_mid (fun x hx => by rw [← hs]; exact hN.before x hx) hs
  have hd : delN s (l1 ++ f :: l2) = l1 ++ l2 := delN_mid (fun x hx => by rw [← hs]; exact hN.before x hx) hs (fun x hx => by rw [← hs]; exact hN.behind x hx)
  have hN2 : Named (l1 ++ l2) := by rw [← hd]; exact named_sub hN (del_sub _ _)
  unfold renN
  rw [hfind]
  dsimp only
  rw [hd]
  split
  · rename_i hh
    obtain ⟨g, hg, hgn⟩ := hasN_iff.1 hh
    obtain ⟨k1, k2, hk⟩ := List.append_of_mem hg
    rw [hk] at hN2 ⊢
    subst hgn
    rw [updN_mid hN2.before rfl hN2.behind, delN_mid hN2.before rfl hN2.behind]
    exact List.perm_middle
  · rename_i hh
    rw [not_del to (by simpa using hh)]
    exact List.perm_append_singleton _ _
theorem DRel.rename (h : DRel S T) (hN : Named S.fs) (s to : ByteArray) : (T.rename s to).1 = (S.rename s to).1 ∧ ∀ T', RenR T s to T' → DRel (S.rename s to).2 T' := by
  have e : (T.rename s to).1 = (S.rename s to).1 := by
    unfold DiskS.rename
    rw [h.may, hasN_perm h.perm]
    split
    · rfl
    · split <;> rfl
  refine ⟨e, fun T' hT => ?_⟩
  obtain ⟨a1, a2⟩ := hT
  by_cases h0 : (T.rename s to).1 = 0
  · obtain ⟨b1, b2⟩ := a2 h0
    have hS : (S.rename s to).2 = { S with fs := renN s to S.fs } ∧ hasN s S.fs = true := by
      rw [e] at h0
      unfold DiskS.rename at h0 ⊢
      split
      · rename_i hm; rw [if_pos hm] at h0; exact absurd h0 hm
      · rename_i hm
        rw [if_neg hm] at h0
        split
        · rename_i hh; exact ⟨rfl, hh⟩
        · rename_i hh; rw [if_neg hh] at h0; cases h0
    rw [hS.1]
    have hNT := named_perm h.perm hN
    obtain ⟨f, hf, hfn⟩ := hasN_iff.1 hS.2
    have hfT := h.perm.mem_iff.2 hf
    by_cases hst : s = to
    · rw [b1 hst]
      refine ⟨h.room, h.off, h.lives, ?_, h.sort⟩
      show T.fs.Perm (renN s to S.fs)
      refine (h.perm.trans ?_).trans (renN_perm hN hf hfn).symm
      subst hst
      obtain ⟨l1, l2, hl⟩ := List.append_of_mem hf
      rw [hl] at hN ⊢
      rw [delN_mid (fun x hx => by rw [← hfn]; exact hN.before x hx) hfn (fun x hx => by rw [← hfn]; exact hN.behind x hx)]
      have hN3 : ∀ x ∈ l1 ++ l2, x.name ≠ s := fun x hx => by
        rw [← hfn]
        rcases List.mem_append.1 hx with hx | hx
        · exact hN.before x hx
        · exact hN.behind x hx
      rw [delN_not hN3]
      have : ({ f with name := s } : FileS) = f := by rw [← hfn]
      rw [this]
      exact List.perm_middle
    · obtain ⟨g, hg, hgn, l', hL, rfl⟩ := b2 hst
      have hgf : g = f := by
        obtain ⟨l1, l2, hl⟩ := List.append_of_mem hfT
        rw [hl] at hg hNT
        rcases List.mem_append.1 hg with hx | hx
        · exact absurd (hgn.trans hfn.symm) (hNT.before g hx)
        · rcases List.mem_cons.1 hx with rfl | hx
          · rfl
          · exact absurd (hgn.trans hfn.symm) (hNT.behind g hx)
      subst hgf
      refine ⟨h.room, h.off, h.lives, ?_, hL.sort ((h.sort.sub (del_sub _ _)).sub (del_sub _ _)) (fun x hx => delN_no to _ x hx)⟩
      exact (hL.perm.trans ((delN_perm (delN_perm h.perm s) to).cons _)).trans (renN_perm hN hf hfn).symm
  · rw [a1 h0]
    have hS : (S.rename s to).2 = S := by
      rw [e] at h0
      unfold DiskS.rename at h0 ⊢
      split
      · rfl
      · rename_i hm
        rw [if_neg hm] at h0
        split
        · rename_i hh; rw [if_pos hh] at h0; exact absurd rfl h0
        · rfl
    rw [hS]
    exact h
theorem DRel.read (h : DRel S T) (hN : Named S.fs) (s : ByteArray) (h0 : S.ask s = 0) : getN s T.fs = getN s S.fs := getN_perm h.perm hN s (ask_has h0)
theorem DRel.names (h : DRel S T) : DiskS.names S = if S.off then [] else T.fs.map nmL := by
  unfold DiskS.names
  split
  · rfl
  · have h1 : (S.fs.map fun f => f.name.data.toList).mergeSort (fun x y => decide (x ≤ y)) = (T.fs.map nmL).mergeSort (fun x y => decide (x ≤ y)) := mergeSort_of_perm (h.perm.symm.map nmL)
    rw [h1]
    apply List.mergeSort_of_pairwise
    rw [List.pairwise_map]
    exact h.sort.imp fun {a b} hab => decide_eq_true (List.le_of_lt hab)
theorem drel_new (room : Int) : DRel (DiskS.new room) (DiskS.new room) := ⟨rfl, rfl, rfl, List.Perm.refl _, List.Pairwise.nil⟩
end
end Go.Proofs.Ythphinlibhafcaa
