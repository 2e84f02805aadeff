/-
  A disk's files moved, and crashed: the plain part.
-/
import Derived.Test.YthphinlibhafcaaDiskB
namespace Go.Av
open Go.RowKit Go.MapKept

/-- The map alone has turned: the files are the same ones (some gone), under other names. -/
theorem DiskI.remap {w w' : World} {d m : Nat} {S : DiskS} {gs gs' : List FileG} (h : DiskI w d S m gs) (hu : Upd w w' [m] [m]) (hm : MapIs w' .string m (gs'.map FileG.ent))
    (hsub : ∀ x ∈ gs', ∃ y ∈ gs, x.f = y.f ∧ x.v = y.v ∧ x.D = y.D ∧ x.b = y.b ∧ x.safe = y.safe) (hnd : (DiskD d m gs').Nodup) (hfit : (total (gs'.map FileG.toFileS) : Int) ≤ S.room) :
    DiskI w' d { S with fs := gs'.map FileG.toFileS } m gs' ∧ Upd w w' (DiskD d m gs) (DiskD d m gs') := by
  obtain ⟨hdm, hdd⟩ := h.dom_ne
  have hlt := h.lt
  have hkeep : ∀ b ∈ DiskD d m gs, b ≠ m → w'.heap[b]? = w.heap[b]? := fun b hb hne => hu.keep b (hlt b hb) (by simpa using hne)
  have hin : ∀ y ∈ gs, ∀ b ∈ y.dom, b ∈ DiskD d m gs := fun y hy b hb => by
    simp only [DiskD, List.mem_cons, List.mem_flatMap]; exact .inr (.inr ⟨y, hy, hb⟩)
  refine ⟨⟨?_, hm, fun x hx => ?_, rfl, hnd, h.lo, h.hi, hfit⟩, ?_⟩
  · obtain ⟨T, hd⟩ := h.hd
    exact ⟨T, by rw [hkeep d (by simp [DiskD]) hdm]; exact hd⟩
  · obtain ⟨y, hy, e1, e2, e3, e4, e5⟩ := hsub x hx
    have hy' := (h.hf y hy).frame (fun b hb => hkeep b (hin y hy b hb) (by rintro rfl; exact (hdd y hy).2 hb))
    obtain ⟨⟨T, q1⟩, q2, q3⟩ := hy'
    exact ⟨⟨T, by rw [e1, e2, e5]; exact q1⟩, by rw [e2, e3, e4]; exact q2, by rw [e4, e5]; exact q3⟩
  · refine hu.mono (fun b hb => by simp at hb; simp [DiskD, hb]) (fun b hb => .inr ?_)
    simp only [DiskD, List.mem_cons, List.mem_flatMap] at hb
    rcases hb with rfl | rfl | ⟨x, hx, hb⟩
    · simp [DiskD]
    · simp [DiskD]
    · obtain ⟨y, hy, e1, _, e3, _⟩ := hsub x hx
      exact hin y hy b (by simpa [FileG.dom, e1, e3] using hb)

theorem disk_nd_perm {d m : Nat} {gs : List FileG} {l1 l2 k1 k2 : List FileG} {g g' : FileG} {mid : List FileG} (h : (DiskD d m gs).Nodup) (e1 : gs = l1 ++ g :: l2) (e2 : l1 ++ l2 = k1 ++ (mid ++ k2)) (hg : g'.dom = g.dom) :
    (DiskD d m (k1 ++ g' :: k2)).Nodup := by
  subst e1
  have p1 : (l1 ++ g :: l2).flatMap FileG.dom |>.Perm (g.dom ++ (l1 ++ l2).flatMap FileG.dom) := by
    have := (List.perm_middle (a := g) (l₁ := l1) (l₂ := l2)).flatMap_right FileG.dom
    simpa using this
  have p2 : (k1 ++ g' :: k2).flatMap FileG.dom |>.Perm (g.dom ++ (k1 ++ k2).flatMap FileG.dom) := by
    have := (List.perm_middle (a := g') (l₁ := k1) (l₂ := k2)).flatMap_right FileG.dom
    simpa [hg] using this
  have s : (k1 ++ k2).flatMap FileG.dom |>.Sublist ((l1 ++ l2).flatMap FileG.dom) := by
    rw [e2]
    simp only [List.flatMap_append]
    exact List.Sublist.append (List.Sublist.refl _) (List.sublist_append_right _ _)
  have h1 : (d :: m :: (g.dom ++ (l1 ++ l2).flatMap FileG.dom)).Nodup := ((p1.cons m).cons d).nodup_iff.1 h
  have s2 : (d :: m :: (g.dom ++ (k1 ++ k2).flatMap FileG.dom)).Sublist (d :: m :: (g.dom ++ (l1 ++ l2).flatMap FileG.dom)) :=
    ((List.Sublist.append (List.Sublist.refl _) s).cons_cons m).cons_cons d
  exact ((p2.cons m).cons d).nodup_iff.2 (s2.nodup h1)

theorem total_perm {l l' : List FileS} (h : l.Perm l') : total l = total l' := (h.map _).sum_nat
theorem renN_old {o n : ByteArray} {l1 l2 k1 k2 : List FileS} {f f2 : FileS} (hn : Named (l1 ++ f :: l2)) (hf : f.name = o) (hk : l1 ++ l2 = k1 ++ f2 :: k2) (hf2 : f2.name = n) (hnk : Named (k1 ++ f2 :: k2)) :
    renN o n (l1 ++ f :: l2) = k1 ++ { f with name := n } :: k2 := by
  subst hf; subst hf2
  unfold renN
  rw [find_mid hn.before rfl]
  simp only []
  rw [delN_mid hn.before rfl hn.behind, hk, hasN_mid rfl, if_pos rfl, updN_mid hnk.before rfl hnk.behind]
theorem renN_new {o n : ByteArray} {l1 l2 : List FileS} {f : FileS} (hn : Named (l1 ++ f :: l2)) (hf : f.name = o) (hno : ∀ x ∈ l1 ++ l2, x.name ≠ n) :
    renN o n (l1 ++ f :: l2) = (l1 ++ l2) ++ [{ f with name := n }] := by
  subst hf
  unfold renN
  rw [find_mid hn.before rfl]
  simp only []
  rw [delN_mid hn.before rfl hn.behind, hasN_not hno]
  simp

/-! ### a crash -/
def inN (n : ByteArray) (l : List ByteArray) : Bool := l.any fun x => decide (x = n)
theorem inN_iff {n : ByteArray} {l : List ByteArray} : inN n l = true ↔ n ∈ l := by simp [inN]
/-- The files, those of 'left' still as they were. -/
def mix (keep : Int) (left : List ByteArray) (fs : List FileS) : List FileS := fs.map fun (f : FileS) => if inN f.name left then f else f.crash keep
theorem mix_nil (keep : Int) (fs : List FileS) : mix keep [] fs = fs.map (FileS.crash keep) := by simp [mix, inN]
theorem mix_all (keep : Int) (fs : List FileS) : mix keep (fs.map (·.name)) fs = fs := by
  unfold mix
  conv => rhs; rw [← List.map_id fs]
  exact List.map_congr_left (fun x hx => if_pos (inN_iff.2 (List.mem_map.2 ⟨x, hx, rfl⟩)))
theorem mix_step (keep : Int) {l1 l2 : List ByteArray} {n : ByteArray} (hn : (l1 ++ n :: l2).Nodup) (fs : List FileS) : updN n (FileS.crash keep) (mix keep (l1 ++ n :: l2) fs) = mix keep (l1 ++ l2) fs := by
  unfold updN mix
  rw [List.map_map]
  refine List.map_congr_left (fun x _ => ?_)
  simp only [Function.comp_apply]
  have hnn : n ∉ l1 ++ l2 := by
    simp only [List.nodup_append, List.nodup_cons, List.mem_cons] at hn
    intro h
    rcases List.mem_append.1 h with h | h
    · exact hn.2.2 n h n (.inl rfl) rfl
    · exact hn.2.1.1 h
  by_cases hx : x.name = n
  · have h1 : inN x.name (l1 ++ n :: l2) = true := inN_iff.2 (by simp [hx])
    have h2 : ¬ inN x.name (l1 ++ l2) = true := fun h => hnn (by rw [← hx]; exact inN_iff.1 h)
    rw [if_pos h1, if_pos hx, if_neg h2]
  · have : (inN x.name (l1 ++ n :: l2) = true) ↔ (inN x.name (l1 ++ l2) = true) := by rw [inN_iff, inN_iff]; simp [hx]
    by_cases h1 : inN x.name (l1 ++ l2) = true
    · rw [if_pos (this.2 h1), if_neg hx, if_pos h1]
    · rw [if_neg (fun h => h1 (this.1 h)), if_neg h1, if_neg (by simpa [FileS.crash] using hx)]

theorem nodup_mid_names {l1 l2 : List FileG} {g : FileG} (h : ((l1 ++ g :: l2).map (·.name)).Nodup) : ((l1 ++ l2).map (·.name)).Nodup := by
  simp only [List.map_append, List.map_cons, List.nodup_append, List.nodup_cons, List.mem_cons] at h ⊢
  exact ⟨h.1, h.2.1.2, fun a ha b hb => h.2.2 a ha b (.inr hb)⟩
end Go.Av
