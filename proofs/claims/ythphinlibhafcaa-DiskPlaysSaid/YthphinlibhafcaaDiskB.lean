/-
  A disk's calls, as functions of what it holds.
-/
import Derived.Test.YthphinlibhafcaaDiskA
namespace Go.Av
open Go.RowKit Go.MapKept

def hasN (n : ByteArray) (fs : List FileS) : Bool := fs.any fun f => decide (f.name = n)
def getN (n : ByteArray) (fs : List FileS) : Bs := ((fs.find? fun f => decide (f.name = n)).map (·.b)).getD []
def updN (n : ByteArray) (φ : FileS → FileS) (fs : List FileS) : List FileS := fs.map fun f => if f.name = n then φ f else f
def delN (n : ByteArray) (fs : List FileS) : List FileS := fs.filter fun f => !decide (f.name = n)

def DiskS.ask (S : DiskS) (n : ByteArray) : Int := if S.may [n] ≠ 0 then S.may [n] else if hasN n S.fs then 0 else 4
def FileS.sync (f : FileS) : FileS := { f with safe := f.b.length }
def FileS.cut (k : Nat) (f : FileS) : FileS := { f with b := f.b.take k, safe := min f.safe k }
def FileS.crash (keep : Int) (f : FileS) : FileS := { f with b := f.b.take (f.safe + min keep.toNat (f.b.length - f.safe)), safe := f.safe + min keep.toNat (f.b.length - f.safe) }
def DiskS.sync (S : DiskS) (n : ByteArray) : Int × DiskS := if S.ask n = 0 then (0, { S with fs := updN n FileS.sync S.fs }) else (S.ask n, S)
def DiskS.cut (S : DiskS) (n : ByteArray) (k : Int) : Int × DiskS :=
  if S.ask n ≠ 0 then (S.ask n, S) else if k < 0 ∨ ((getN n S.fs).length : Int) < k then (1, S) else (0, { S with fs := updN n (FileS.cut k.toNat) S.fs })
def DiskS.drop (S : DiskS) (n : ByteArray) : Int × DiskS := if S.ask n = 0 then (0, { S with fs := delN n S.fs }) else (S.ask n, S)
def renN (o n : ByteArray) (fs : List FileS) : List FileS :=
  match fs.find? fun f => decide (f.name = o) with
  | none => fs
  | some f => if hasN n (delN o fs) then updN n (fun _ => { f with name := n }) (delN o fs) else delN o fs ++ [{ f with name := n }]
def DiskS.rename (S : DiskS) (o n : ByteArray) : Int × DiskS :=
  if S.may [o, n] ≠ 0 then (S.may [o, n], S) else if hasN o S.fs then (0, { S with fs := renN o n S.fs }) else (4, S)
def DiskS.crash (S : DiskS) (keep : Int) : DiskS := { S with off := true, fs := S.fs.map (FileS.crash keep) }
def DiskS.on (S : DiskS) : DiskS := { S with off := false, lives := wrap64 (S.lives + 1) }
def DiskS.new (room : Int) : DiskS := { room := room, off := false, lives := 1, fs := [] }

/-! ### at a file that is there -/
section
variable {n : ByteArray} {l1 l2 : List FileS} {f : FileS}
theorem hasN_mid (hf : f.name = n) : hasN n (l1 ++ f :: l2) = true := by simp [hasN, hf]
theorem hasN_not {fs : List FileS} (h : ∀ x ∈ fs, x.name ≠ n) : hasN n fs = false := by
  simp only [hasN, List.any_eq_false, decide_eq_true_eq]; exact h
theorem getN_mid (h1 : ∀ x ∈ l1, x.name ≠ n) (hf : f.name = n) : getN n (l1 ++ f :: l2) = f.b := by
  have : (l1 ++ f :: l2).find? (fun f => decide (f.name = n)) = some f := by
    rw [List.find?_append, List.find?_eq_none.2 (by simpa using h1)]
    simp [hf]
  simp [getN, this]
theorem find_mid (h1 : ∀ x ∈ l1, x.name ≠ n) (hf : f.name = n) : (l1 ++ f :: l2).find? (fun f => decide (f.name = n)) = some f := by
  rw [List.find?_append, List.find?_eq_none.2 (by simpa using h1)]
  simp [hf]
theorem updN_not {fs : List FileS} {φ : FileS → FileS} (h : ∀ x ∈ fs, x.name ≠ n) : updN n φ fs = fs := by
  unfold updN
  conv => rhs; rw [← List.map_id fs]
  exact List.map_congr_left (fun x hx => if_neg (h x hx))
theorem updN_mid {φ : FileS → FileS} (h1 : ∀ x ∈ l1, x.name ≠ n) (hf : f.name = n) (h2 : ∀ x ∈ l2, x.name ≠ n) : updN n φ (l1 ++ f :: l2) = l1 ++ φ f :: l2 := by
  have e1 := updN_not (φ := φ) h1
  have e2 := updN_not (φ := φ) h2
  simp only [updN] at e1 e2 ⊢
  rw [List.map_append, List.map_cons, e1, e2, if_pos hf]
theorem delN_not {fs : List FileS} (h : ∀ x ∈ fs, x.name ≠ n) : delN n fs = fs := List.filter_eq_self.2 (by simpa using h)
theorem delN_mid (h1 : ∀ x ∈ l1, x.name ≠ n) (hf : f.name = n) (h2 : ∀ x ∈ l2, x.name ≠ n) : delN n (l1 ++ f :: l2) = l1 ++ l2 := by
  have e1 := delN_not h1
  have e2 := delN_not h2
  simp only [delN] at e1 e2 ⊢
  rw [List.filter_append, List.filter_cons, e1, e2]
  simp [hf]
end

/-- Names are told once. -/
def Named (fs : List FileS) : Prop := (fs.map (·.name)).Nodup
theorem Named.before {l1 l2 : List FileS} {f : FileS} (h : Named (l1 ++ f :: l2)) : ∀ x ∈ l1, x.name ≠ f.name := by
  simp only [Named, List.map_append, List.map_cons, List.nodup_append] at h
  exact fun x hx he => h.2.2 x.name (List.mem_map.2 ⟨x, hx, rfl⟩) f.name (by simp) he
theorem Named.behind {l1 l2 : List FileS} {f : FileS} (h : Named (l1 ++ f :: l2)) : ∀ x ∈ l2, x.name ≠ f.name := by
  simp only [Named, List.map_append, List.map_cons, List.nodup_append, List.nodup_cons, List.mem_map, not_exists, not_and] at h
  exact fun x hx => h.2.1.1 x hx
theorem DiskI.named {w : World} {d m : Nat} {S : DiskS} {gs : List FileG} (h : DiskI w d S m gs) : Named S.fs := by
  rw [← h.hS]
  simpa [Named, Function.comp_def] using h.names

theorem DiskI.ask_mid {w : World} {d m : Nat} {S : DiskS} {l1 l2 : List FileG} {g : FileG} (h : DiskI w d S m (l1 ++ g :: l2)) (h0 : S.may [g.name] = 0) : S.ask g.name = 0 := by
  simp [DiskS.ask, h0, ← h.hS, hasN]
theorem DiskI.ask_not {w : World} {d m : Nat} {S : DiskS} {gs : List FileG} (h : DiskI w d S m gs) {n : ByteArray} (h0 : S.may [n] = 0) (hn : ∀ g ∈ gs, g.name ≠ n) : S.ask n = 4 := by
  have : hasN n S.fs = false := hasN_not (by rw [← h.hS]; intro x hx; obtain ⟨y, hy, rfl⟩ := List.mem_map.1 hx; exact hn y hy)
  simp [DiskS.ask, h0, this]

/-- A file's fields have turned, its name and its place have not. -/
theorem DiskI.turned {w w' : World} {d m : Nat} {S : DiskS} {l1 l2 : List FileG} {g g' : FileG} {φ : FileS → FileS} (h : DiskI w d S m (l1 ++ g :: l2)) (hu : Upd w w' g.dom g'.dom) (hf : FileAt w' g') (hp : g'.f = g.f)
    (hnd : g'.dom.Nodup) (hφ : g'.toFileS = φ g.toFileS) (hn : g'.name = g.name) (hle : g'.b.length ≤ g.b.length) :
    DiskI w' d { S with fs := updN g.name φ S.fs } m (l1 ++ g' :: l2) ∧ Upd w w' (DiskD d m (l1 ++ g :: l2)) (DiskD d m (l1 ++ g' :: l2)) := by
  have hnm := h.named
  have hS := h.hS
  rw [List.map_append, List.map_cons] at hS
  rw [← hS] at hnm
  have e : updN g.name φ S.fs = (l1 ++ g' :: l2).map FileG.toFileS := by
    rw [← hS, updN_mid hnm.before rfl hnm.behind, List.map_append, List.map_cons, hφ]
  refine h.replace hu hf hn hp hnd (by rw [e]) ?_
  have hfit := h.fits
  rw [← hS, total_app, total_cons] at hfit
  rw [e, List.map_append, List.map_cons, total_app, total_cons]
  omega

theorem DiskI.dom_ne {w : World} {d m : Nat} {S : DiskS} {gs : List FileG} (h : DiskI w d S m gs) : d ≠ m ∧ ∀ g ∈ gs, d ∉ g.dom ∧ m ∉ g.dom := by
  have := h.nd
  simp only [DiskD, List.nodup_cons, List.mem_cons, List.mem_flatMap, not_or, not_exists, not_and] at this
  exact ⟨this.1.1, fun g hg => ⟨this.1.2 g hg, this.2.1 g hg⟩⟩

/-- A file has gone. -/
theorem DiskI.gone {w w' : World} {d m : Nat} {S : DiskS} {l1 l2 : List FileG} {g : FileG} (h : DiskI w d S m (l1 ++ g :: l2)) (hu : Upd w w' [m] [m]) (hm : MapIs w' .string m ((l1 ++ l2).map FileG.ent)) :
    DiskI w' d { S with fs := delN g.name S.fs } m (l1 ++ l2) ∧ Upd w w' (DiskD d m (l1 ++ g :: l2)) (DiskD d m (l1 ++ l2)) := by
  have hnm := h.named
  have hS := h.hS
  rw [List.map_append, List.map_cons] at hS
  rw [← hS] at hnm
  have e : delN g.name S.fs = (l1 ++ l2).map FileG.toFileS := by
    rw [← hS, delN_mid hnm.before rfl hnm.behind, List.map_append]
  obtain ⟨hdm, hdd⟩ := h.dom_ne
  have hlt := h.lt
  have hkeep : ∀ b ∈ DiskD d m (l1 ++ g :: l2), b ≠ m → w'.heap[b]? = w.heap[b]? := fun b hb hne => hu.keep b (hlt b hb) (by simpa using hne)
  refine ⟨⟨?_, hm, fun x hx => ?_, e.symm, ?_, h.lo, h.hi, ?_⟩, ?_⟩
  · obtain ⟨T, hd⟩ := h.hd
    exact ⟨T, by rw [hkeep d (by simp [DiskD]) hdm]; exact hd⟩
  · have hx' : x ∈ l1 ++ g :: l2 := by simp at hx ⊢; rcases hx with h | h <;> simp [h]
    refine (h.hf x hx').frame (fun b hb => hkeep b ?_ ?_)
    · simp only [DiskD, List.mem_cons, List.mem_flatMap]; exact .inr (.inr ⟨x, hx', hb⟩)
    · rintro rfl; exact (hdd x hx').2 hb
  · have := h.nd
    rw [DiskD_mid] at this
    have hsub : (DiskD d m (l1 ++ l2)).Sublist ((d :: m :: l1.flatMap FileG.dom) ++ g.dom ++ l2.flatMap FileG.dom) := by
      have e2 : DiskD d m (l1 ++ l2) = (d :: m :: l1.flatMap FileG.dom) ++ l2.flatMap FileG.dom := by simp [DiskD]
      rw [e2]
      exact (List.sublist_append_left _ _).append (List.Sublist.refl _)
    exact hsub.nodup this
  · have hfit := h.fits
    rw [← hS, total_app, total_cons] at hfit
    rw [e, List.map_append, total_app]
    show _ ≤ S.room
    omega
  · refine hu.mono (fun b hb => by simp at hb; simp [DiskD, hb]) (fun b hb => .inr ?_)
    simp only [DiskD, List.mem_cons, List.mem_flatMap, List.mem_append] at hb ⊢
    rcases hb with hb | hb | ⟨x, hx, hb⟩
    · exact .inl hb
    · exact .inr (.inl hb)
    · exact .inr (.inr ⟨x, by rcases hx with h | h <;> simp [h], hb⟩)

end Go.Av
