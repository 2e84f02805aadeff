/-
  A disk: what it holds, as data; what its blocks are.
-/
import Derived.Test.YtjeaoopamebgjaaDoorMaps
namespace Go.Av
open Go.RowKit Go.MapKept

abbrev Bs := List UInt8
def bv (c : UInt8) : Value := .int .u8 (c.toNat : Int)
theorem bv_one {l : Bs} : ∀ u ∈ l.map bv, u.oneCell' = true := by
  intro u hu
  obtain ⟨c, _, rfl⟩ := List.mem_map.1 hu
  rfl

theorem size_list (s : ByteArray) : s.data.toList.length = s.size := by rw [Array.length_toList]; rfl

structure FileS where
  name : ByteArray
  b : Bs
  safe : Nat

structure DiskS where
  room : Int
  off : Bool
  lives : Int
  fs : List FileS

def okc (c : UInt8) : Bool := decide (33 ≤ (c.toNat : Int)) && decide ((c.toNat : Int) ≤ 126)
def goodN (s : ByteArray) : Bool := s.data.toList.all okc && (decide (1 ≤ (s.size : Int)) && decide ((s.size : Int) ≤ 20))

def total (fs : List FileS) : Nat := (fs.map fun f => f.b.length).sum

def DiskS.may (S : DiskS) (l : List ByteArray) : Int := if S.off then 10 else if l.all goodN then 0 else 1

structure FileG extends FileS where
  f : Nat
  v : Value
  D : List Nat

def FileG.dom (g : FileG) : List Nat := g.f :: g.D
def FileG.ent (g : FileG) : Value × Value := (.string g.name, .pointer (some ⟨g.f, 0, none⟩))
def FileAt (w : World) (g : FileG) : Prop := (∃ T, w.heap[g.f]? = some (.cells #[g.v, .int .i64 g.safe] T (0, 0))) ∧ OwnRow w 1 g.v (g.b.map bv) g.D ∧ g.safe ≤ g.b.length
def DiskD (d m : Nat) (gs : List FileG) : List Nat := d :: m :: gs.flatMap FileG.dom

/-- A disk, its blocks told. -/
structure DiskI (w : World) (d : Nat) (S : DiskS) (m : Nat) (gs : List FileG) : Prop where
  hd : ∃ T, w.heap[d]? = some (.cells #[.int .i64 S.room, .bool S.off, .int .i64 S.lives, .map (some m)] T (0, 0))
  hm : MapIs w .string m (gs.map FileG.ent)
  hf : ∀ g ∈ gs, FileAt w g
  hS : gs.map FileG.toFileS = S.fs
  nd : (DiskD d m gs).Nodup
  lo : 64 ≤ S.room
  hi : S.room ≤ 1048576
  fits : (total S.fs : Int) ≤ S.room

def DiskAt (w : World) (d : Nat) (S : DiskS) (D : List Nat) : Prop := ∃ m gs, DiskI w d S m gs ∧ D = DiskD d m gs

theorem FileAt.frame {w w' : World} {g : FileG} (h : FileAt w g) (hs : Same w w' g.dom) : FileAt w' g := by
  obtain ⟨⟨T, h1⟩, h2, h3⟩ := h
  exact ⟨⟨T, by rw [hs _ (by simp [FileG.dom])]; exact h1⟩, h2.frame (fun b hb => hs b (by simp [FileG.dom, hb])), h3⟩
theorem FileAt.lt {w : World} {g : FileG} (h : FileAt w g) : ∀ b ∈ g.dom, b < w.heap.size := by
  obtain ⟨⟨T, h1⟩, h2, h3⟩ := h
  intro b hb
  rcases List.mem_cons.1 hb with rfl | hb
  · exact lt_of_heap h1
  · exact h2.lt b hb
theorem DiskI.frame {w w' : World} {d m : Nat} {S : DiskS} {gs : List FileG} (h : DiskI w d S m gs) (hs : Same w w' (DiskD d m gs)) : DiskI w' d S m gs := by
  obtain ⟨⟨T, h1⟩, h2, h3, h4⟩ := h
  exact ⟨⟨T, by rw [hs _ (by simp [DiskD])]; exact h1⟩, h2.frame (hs _ (by simp [DiskD])), fun g hg => (h3 g hg).frame (fun b hb => hs b (by simp only [DiskD, List.mem_cons, List.mem_flatMap]; exact .inr (.inr ⟨g, hg, hb⟩))), h4, by assumption, by assumption, by assumption, by assumption⟩
theorem DiskI.lt {w : World} {d m : Nat} {S : DiskS} {gs : List FileG} (h : DiskI w d S m gs) : ∀ b ∈ DiskD d m gs, b < w.heap.size := by
  obtain ⟨⟨T, h1⟩, h2, h3, h4⟩ := h
  intro b hb
  simp only [DiskD, List.mem_cons, List.mem_flatMap] at hb
  rcases hb with rfl | rfl | ⟨g, hg, hb⟩
  · exact lt_of_heap h1
  · exact h2.lt
  · exact (h3 g hg).lt b hb
/-- Nothing of the disk has turned where only other blocks have. -/
theorem DiskI.upd0 {w w' : World} {d m : Nat} {S : DiskS} {gs : List FileG} {D' : List Nat} (h : DiskI w d S m gs) (hu : Upd w w' [] D') : DiskI w' d S m gs := h.frame (hu.same h.lt (by simp))
theorem DiskAt.frame {w w' : World} {d : Nat} {S : DiskS} {D : List Nat} (h : DiskAt w d S D) (hs : Same w w' D) : DiskAt w' d S D := by
  obtain ⟨m, gs, h, rfl⟩ := h
  exact ⟨m, gs, h.frame hs, rfl⟩
theorem DiskAt.lt {w : World} {d : Nat} {S : DiskS} {D : List Nat} (h : DiskAt w d S D) : ∀ b ∈ D, b < w.heap.size := by
  obtain ⟨m, gs, h, rfl⟩ := h
  exact h.lt
theorem DiskAt.nd {w : World} {d : Nat} {S : DiskS} {D : List Nat} (h : DiskAt w d S D) : D.Nodup := by
  obtain ⟨m, gs, h, rfl⟩ := h
  exact h.nd


theorem nodup_swap {A B X X' : List Nat} {N : Nat} (h : (A ++ X ++ B).Nodup) (hX : X'.Nodup) (hnew : ∀ b ∈ X', b ∈ X ∨ N ≤ b) (hlt : ∀ b ∈ A ++ X ++ B, b < N) : (A ++ X' ++ B).Nodup := by
  simp only [List.nodup_append, List.mem_append] at h ⊢
  obtain ⟨⟨h1, h2, h3⟩, h4, h5⟩ := h
  refine ⟨⟨h1, hX, fun a ha b hb => ?_⟩, h4, fun a ha b hb => ?_⟩
  · rcases hnew b hb with h | h
    · exact h3 a ha b h
    · have := hlt a (by simp [ha]); omega
  · rcases ha with ha | ha
    · exact h5 a (.inl ha) b hb
    · rcases hnew a ha with h | h
      · exact h5 a (.inr h) b hb
      · have := hlt b (by simp [hb]); omega

theorem DiskD_mid (d m : Nat) (l1 : List FileG) (g : FileG) (l2 : List FileG) : DiskD d m (l1 ++ g :: l2) = (d :: m :: l1.flatMap FileG.dom) ++ g.dom ++ l2.flatMap FileG.dom := by
  simp [DiskD]

/-- One file has turned. -/
theorem DiskI.replace {w w' : World} {d m : Nat} {S S' : DiskS} {l1 l2 : List FileG} {g g' : FileG} (h : DiskI w d S m (l1 ++ g :: l2)) (hu : Upd w w' g.dom g'.dom) (hf : FileAt w' g') (hn : g'.name = g.name) (hp : g'.f = g.f)
    (hnd : g'.dom.Nodup) (hS : S' = { S with fs := (l1 ++ g' :: l2).map FileG.toFileS }) (hfit : (total S'.fs : Int) ≤ S.room) :
    DiskI w' d S' m (l1 ++ g' :: l2) ∧ Upd w w' (DiskD d m (l1 ++ g :: l2)) (DiskD d m (l1 ++ g' :: l2)) := by
  have hlt := h.lt
  have hndo := h.nd
  rw [DiskD_mid] at hlt hndo
  have hU : Upd w w' (DiskD d m (l1 ++ g :: l2)) (DiskD d m (l1 ++ g' :: l2)) := by
    rw [DiskD_mid, DiskD_mid]
    refine hu.mono (fun b hb => by simp [hb]) (fun b hb => ?_)
    simp only [List.mem_append] at hb ⊢
    rcases hb with (hb | hb) | hb
    · exact .inr (.inl (.inl hb))
    · exact .inl hb
    · exact .inr (.inr hb)
  refine ⟨?_, hU⟩
  have hndo' := hndo
  simp only [List.nodup_append, List.mem_append] at hndo
  obtain ⟨⟨n1, n2, n3⟩, n4, n5⟩ := hndo
  have keepA : ∀ b ∈ (d :: m :: l1.flatMap FileG.dom), w'.heap[b]? = w.heap[b]? := fun b hb => hu.keep b (hlt b (by simp only [List.mem_append]; exact .inl (.inl hb))) (fun hg => n3 b hb b hg rfl)
  have keepB : ∀ b ∈ l2.flatMap FileG.dom, w'.heap[b]? = w.heap[b]? := fun b hb => hu.keep b (hlt b (by simp only [List.mem_append]; exact .inr hb)) (fun hg => n5 b (.inr hg) b hb rfl)
  subst hS
  refine ⟨?_, ?_, ?_, rfl, ?_, h.lo, h.hi, hfit⟩
  · obtain ⟨T, hd⟩ := h.hd
    exact ⟨T, by rw [keepA d (by simp)]; exact hd⟩
  · have hm := h.hm.frame (keepA m (by simp))
    simpa [FileG.ent, hn, hp] using hm
  · intro x hx
    simp only [List.mem_append, List.mem_cons] at hx
    rcases hx with hx | rfl | hx
    · exact (h.hf x (by simp [hx])).frame (fun b hb => keepA b (by simp only [List.mem_cons, List.mem_flatMap]; exact .inr (.inr ⟨x, hx, hb⟩)))
    · exact hf
    · exact (h.hf x (by simp [hx])).frame (fun b hb => keepB b (List.mem_flatMap.2 ⟨x, hx, hb⟩))
  · rw [DiskD_mid]
    exact nodup_swap hndo' hnd (fun b hb => by rcases hu.new b hb with h | h; exact .inl h; exact .inr h.1) hlt

theorem DiskI.names {w : World} {d m : Nat} {S : DiskS} {gs : List FileG} (h : DiskI w d S m gs) : (gs.map (·.name)).Nodup := by
  have := h.hm.nodup
  simp only [List.map_map] at this
  exact (List.pairwise_map.1 this).imp (fun hne he => hne (by simp [FileG.ent, he])) |> List.pairwise_map.2

def putApp (n : ByteArray) (b : Bs) : List FileS → List FileS
  | [] => [⟨n, b, 0⟩]
  | f :: r => if f.name = n then { f with b := f.b ++ b } :: r else f :: putApp n b r

theorem putApp_mid (n : ByteArray) (b : Bs) (f : FileS) (hf : f.name = n) (l2 : List FileS) : ∀ (l1 : List FileS), (∀ x ∈ l1, x.name ≠ n) → putApp n b (l1 ++ f :: l2) = l1 ++ { f with b := f.b ++ b } :: l2
  | [], _ => by simp [putApp, hf]
  | x :: l1, h => by
    have := h x (by simp)
    simp [putApp, this, putApp_mid n b f hf l2 l1 (fun y hy => h y (by simp [hy]))]
theorem putApp_new (n : ByteArray) (b : Bs) : ∀ (l : List FileS), (∀ x ∈ l, x.name ≠ n) → putApp n b l = l ++ [⟨n, b, 0⟩]
  | [], _ => rfl
  | x :: l, h => by
    have := h x (by simp)
    simp [putApp, this, putApp_new n b l (fun y hy => h y (by simp [hy]))]
theorem total_app (l1 l2 : List FileS) : total (l1 ++ l2) = total l1 + total l2 := by simp [total]
theorem total_cons (f : FileS) (l : List FileS) : total (f :: l) = f.b.length + total l := by simp [total]
theorem total_putApp (n : ByteArray) (b : Bs) : ∀ l : List FileS, total (putApp n b l) = total l + b.length
  | [] => by simp [putApp, total]
  | f :: r => by
    unfold putApp
    split
    · simp [total_cons]; omega
    · simp [total_cons, total_putApp n b r]; omega

def DiskS.append (S : DiskS) (n : ByteArray) (b : Bs) : Int × DiskS :=
  if S.may [n] ≠ 0 then (S.may [n], S)
  else if S.room - (total S.fs : Int) < (b.length : Int) then (9, S)
  else (0, { S with fs := putApp n b S.fs })

/-- A file more. -/
theorem DiskI.more {w w' : World} {d m : Nat} {S S' : DiskS} {gs : List FileG} {g : FileG} (h : DiskI w d S m gs) (hu : Upd w w' [m] (m :: g.dom)) (hm : MapIs w' .string m ((gs ++ [g]).map FileG.ent)) (hf : FileAt w' g)
    (hnd : g.dom.Nodup) (hnew : ∀ b ∈ g.dom, w.heap.size ≤ b) (hS : S' = { S with fs := (gs ++ [g]).map FileG.toFileS }) (hfit : (total S'.fs : Int) ≤ S.room) :
    DiskI w' d S' m (gs ++ [g]) ∧ Upd w w' (DiskD d m gs) (DiskD d m (gs ++ [g])) := by
  have hlt := h.lt
  have hndo := h.nd
  subst hS
  have hkeep : ∀ b ∈ DiskD d m gs, b ≠ m → w'.heap[b]? = w.heap[b]? := fun b hb hne => hu.keep b (hlt b hb) (by simpa using hne)
  refine ⟨⟨?_, hm, ?_, rfl, ?_, h.lo, h.hi, hfit⟩, ?_⟩
  · obtain ⟨T, hd⟩ := h.hd
    have hne : d ≠ m := by
      simp only [DiskD, List.nodup_cons, List.mem_cons, not_or] at hndo
      exact hndo.1.1
    exact ⟨T, by rw [hkeep d (by simp [DiskD]) hne]; exact hd⟩
  · intro x hx
    simp only [List.mem_append, List.mem_singleton] at hx
    rcases hx with hx | rfl
    · refine (h.hf x hx).frame (fun b hb => hkeep b ?_ ?_)
      · simp only [DiskD, List.mem_cons, List.mem_flatMap]; exact .inr (.inr ⟨x, hx, hb⟩)
      · rintro rfl
        simp only [DiskD, List.nodup_cons, List.mem_cons, List.mem_flatMap, not_exists, not_and] at hndo
        exact hndo.2.1 x hx hb
    · exact hf
  · have : DiskD d m (gs ++ [g]) = DiskD d m gs ++ g.dom := by simp [DiskD]
    rw [this, List.nodup_append]
    exact ⟨hndo, hnd, fun a ha b hb => by have := hlt a ha; have := hnew b hb; omega⟩
  · refine hu.mono (fun b hb => by simp at hb; simp [DiskD, hb]) (fun b hb => ?_)
    have : DiskD d m (gs ++ [g]) = DiskD d m gs ++ g.dom := by simp [DiskD]
    rw [this, List.mem_append] at hb
    rcases hb with hb | hb
    · exact .inr hb
    · exact .inl (by simp [hb])

theorem file_nd {w : World} {d m : Nat} {S : DiskS} {l1 l2 : List FileG} {g : FileG} (h : DiskI w d S m (l1 ++ g :: l2)) : g.dom.Nodup := by
  have := h.nd
  rw [DiskD_mid] at this
  exact (List.nodup_append.1 (List.nodup_append.1 this).1).2.1
theorem names_before {w : World} {d m : Nat} {S : DiskS} {l1 l2 : List FileG} {g : FileG} (h : DiskI w d S m (l1 ++ g :: l2)) : ∀ x ∈ l1.map FileG.toFileS, x.name ≠ g.name := by
  have := h.names
  simp only [List.map_append, List.map_cons, List.nodup_append] at this
  intro x hx he
  obtain ⟨y, hy, rfl⟩ := List.mem_map.1 hx
  exact this.2.2 y.name (List.mem_map.2 ⟨y, hy, rfl⟩) g.name (by simp) he

/-- A file's slice has turned, then its cell. -/
theorem file_turned {w w3 : World} {g : FileG} {b' : Bs} {v' : Value} {D' : List Nat} {T : TypeId} (hf : w.heap[g.f]? = some (.cells #[g.v, .int .i64 g.safe] T (0, 0))) (hnd : g.dom.Nodup)
    (hown : OwnRow w3 1 v' (b'.map bv) D') (hu : Upd w w3 g.D D') (hs : g.safe ≤ b'.length) :
    FileAt (w3.setCell ⟨g.f, 0, none⟩ v') { g with b := b', v := v', D := D' } ∧ Upd w (w3.setCell ⟨g.f, 0, none⟩ v') g.dom (g.f :: D') ∧ (g.f :: D').Nodup := by
  have hgl := lt_of_heap hf
  have hgn : g.f ∉ g.D := (List.nodup_cons.1 hnd).1
  have hnew : g.f ∉ D' := fun h => by rcases hu.new g.f h with h | h; exact hgn h; omega
  have h3 : w3.heap[g.f]? = some (.cells #[g.v, .int .i64 g.safe] T (0, 0)) := (hu.keep g.f hgl hgn).trans hf
  refine ⟨⟨⟨T, ?_⟩, hown.frame (fun b hb => heap_setCell_other _ _ _ _ (fun e => hnew (by rw [← show b = g.f from e]; exact hb))), hs⟩, ?_, ?_⟩
  · exact heap_setCell_same w3 g.f 0 _ T v' h3
  · exact (hu.mono (fun b hb => by simp [FileG.dom, hb]) (fun b hb => by
      rcases List.mem_cons.1 hb with rfl | hb
      · exact .inr (by simp [FileG.dom])
      · exact .inl hb)).trans (Upd.set1 _ _ _ _ (by simp))
  · exact List.nodup_cons.2 ⟨hnew, hown.nodup⟩
end Go.Av
