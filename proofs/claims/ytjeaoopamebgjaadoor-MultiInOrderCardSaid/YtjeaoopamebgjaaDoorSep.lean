/-
  Several objects side by side in memory, and rows of bytes that are read: each call turns some of them, the others stay.
-/
import Derived.Test.YtjeaoopamebgjaaDoorDiskA
namespace Go.Av
open Go.RowKit

/-- An object: what it says of its blocks. -/
structure Thing where
  P : World → List Nat → Prop
  frame : ∀ {w w' : World} {D : List Nat}, P w D → Same w w' D → P w' D
  lt : ∀ {w : World} {D : List Nat}, P w D → ∀ b ∈ D, b < w.heap.size

def Apart (A B : List Nat) : Prop := ∀ x ∈ A, x ∉ B
theorem Apart.symm {A B : List Nat} (h : Apart A B) : Apart B A := fun x hx ha => h x ha hx

/-- The objects Ts lie in blocks that are each one's own. -/
inductive Lie (w : World) : List Thing → List Nat → Prop
  | nil : Lie w [] []
  | cons {T : Thing} {D : List Nat} {Ts : List Thing} {E : List Nat} : T.P w D → Apart D E → Lie w Ts E → Lie w (T :: Ts) (D ++ E)

theorem Lie.lt {w : World} {Ts : List Thing} {E : List Nat} (h : Lie w Ts E) : ∀ b ∈ E, b < w.heap.size := by
  induction h with
  | nil => simp
  | @cons T _ _ _ h1 _ _ ih =>
    intro b hb
    rcases List.mem_append.1 hb with hb | hb
    · exact T.lt h1 b hb
    · exact ih b hb
theorem Lie.frame {w w' : World} {Ts : List Thing} {E : List Nat} (h : Lie w Ts E) (hs : Same w w' E) : Lie w' Ts E := by
  induction h with
  | nil => exact .nil
  | @cons T _ _ _ h1 h2 _ ih => exact .cons (T.frame h1 (fun b hb => hs b (by simp [hb]))) h2 (ih (fun b hb => hs b (by simp [hb])))

def RowsIn (w : World) (D : List Nat) (rows : List (Value × Bs)) : Prop := ∀ r ∈ rows, ∃ E, ReadRow w 1 r.1 (r.2.map bv) E ∧ ∀ x ∈ E, x ∉ D

theorem RowsIn.upd {w w' : World} {D D' : List Nat} {rows : List (Value × Bs)} (hr : RowsIn w D rows) (hu : Upd w w' D D') : RowsIn w' D' rows := by
  intro r h
  obtain ⟨E, h1, h2⟩ := hr r h
  refine ⟨E, h1.frame (hu.same h1.lt h2), fun x hx hd => ?_⟩
  rcases hu.new x hd with h | h
  · exact h2 x hx h
  · have := h1.lt x hx; omega
theorem RowsIn.sub {w : World} {D D' : List Nat} {rows : List (Value × Bs)} (hr : RowsIn w D rows) (h : ∀ x ∈ D', x ∈ D) : RowsIn w D' rows := by
  intro r hh
  obtain ⟨E, h1, h2⟩ := hr r hh
  exact ⟨E, h1, fun x hx hd => h2 x hx (h x hd)⟩

/-- Since w0 nothing old has turned; the objects lie side by side; the rows can be read and are none of theirs. -/
def Sep (w0 w : World) (Ts : List Thing) (rows : List (Value × Bs)) : Prop := ∃ D, Lie w Ts D ∧ Upd w0 w [] D ∧ RowsIn w D rows

theorem Sep.below {w0 w : World} {Ts : List Thing} {rows : List (Value × Bs)} (h : Sep w0 w Ts rows) : Below w0.heap.size w0 w := by
  obtain ⟨D, _, hu, _⟩ := h
  exact hu.below

/-- Blocks of the own part turn, the others stay: the way back. -/
theorem Lie.turn {w w' : World} {Ts Ts' R : List Thing} {D D' E : List Nat} (_h : Lie w Ts D) (h' : Lie w' Ts' D') (hR : Lie w R E) (ha : Apart D E) (hu : Upd w w' D D') : Lie w' R E ∧ Apart D' E ∧ Upd w w' (D ++ E) (D' ++ E) := by
  refine ⟨hR.frame (hu.same hR.lt ha.symm), fun x hx he => ?_, hu.mono (fun b hb => by simp [hb]) (fun b hb => ?_)⟩
  · rcases hu.new x hx with h | h
    · exact ha x h he
    · have := hR.lt x he; omega
  · rcases List.mem_append.1 hb with hb | hb
    · exact .inl hb
    · exact .inr (by simp [hb])

theorem Lie.append {w : World} {A B : List Thing} {D E : List Nat} (hA : Lie w A D) (hB : Lie w B E) (ha : Apart D E) : Lie w (A ++ B) (D ++ E) := by
  induction hA with
  | nil => exact hB
  | cons h1 h2 _ ih =>
    rw [List.cons_append, List.append_assoc]
    refine .cons h1 (fun x hx he => ?_) (ih (fun x hx he => ha x (by simp [hx]) he))
    rcases List.mem_append.1 he with he | he
    · exact h2 x hx he
    · exact ha x (by simp [hx]) he
theorem Lie.split {w : World} {A B : List Thing} {F : List Nat} (h : Lie w (A ++ B) F) : ∃ D E, F = D ++ E ∧ Lie w A D ∧ Lie w B E ∧ Apart D E := by
  induction A generalizing F with
  | nil => exact ⟨[], F, rfl, .nil, h, fun x hx => by cases hx⟩
  | cons T A ih =>
    cases h with
    | cons h1 h2 h3 =>
      obtain ⟨D, E, rfl, hA, hB, ha⟩ := ih h3
      refine ⟨_ ++ D, E, (List.append_assoc _ _ _).symm, .cons h1 (fun x hx he => h2 x hx (by simp [he])) hA, hB, fun x hx he => ?_⟩
      rcases List.mem_append.1 hx with hx | hx
      · exact h2 x hx (by simp [he])
      · exact ha x hx he

/-- The first object, taken up; and laid back. -/
theorem Sep.use {w0 w : World} {T : Thing} {R : List Thing} {rows : List (Value × Bs)} (h : Sep w0 w (T :: R) rows) :
    ∃ D, T.P w D ∧ RowsIn w D rows ∧ ∀ (w' : World) (D' : List Nat) (T' : Thing), Upd w w' D D' → T'.P w' D' → Sep w0 w' (T' :: R) rows := by
  obtain ⟨F, hl, hu, hr⟩ := h
  cases hl with
  | @cons _ D _ E h1 h2 h3 =>
    refine ⟨D, h1, hr.sub (by intro x hx; simp [hx]), fun w' D' T' hu' hP => ?_⟩
    have h1' : Lie w [T] D := by simpa using Lie.cons h1 (E := []) (fun x hx he => by cases he) Lie.nil
    have hP' : Lie w' [T'] D' := by simpa using Lie.cons hP (E := []) (fun x hx he => by cases he) Lie.nil
    obtain ⟨a1, a2, a3⟩ := h1'.turn hP' h3 h2 hu'
    exact ⟨D' ++ E, .cons hP a2 a1, hu.trans a3, hr.upd a3⟩
/-- The first two. -/
theorem Sep.use2 {w0 w : World} {T U : Thing} {R : List Thing} {rows : List (Value × Bs)} (h : Sep w0 w (T :: U :: R) rows) :
    ∃ D E, T.P w D ∧ U.P w E ∧ Apart D E ∧ RowsIn w (D ++ E) rows ∧ ∀ (w' : World) (D' E' : List Nat) (T' U' : Thing), Upd w w' (D ++ E) (D' ++ E') → T'.P w' D' → U'.P w' E' → Apart D' E' → Sep w0 w' (T' :: U' :: R) rows := by
  obtain ⟨F, hl, hu, hr⟩ := h
  cases hl with
  | @cons _ D _ E' h1 h2 h3 =>
    cases h3 with
    | @cons _ E _ G k1 k2 k3 =>
      have hDE : Apart D E := fun x hx he => h2 x hx (by simp [he])
      refine ⟨D, E, h1, k1, hDE, hr.sub (by intro x hx; simp only [List.mem_append] at hx ⊢; rcases hx with h | h <;> simp [h]), fun w' D' E' T' U' hu' hP hQ hA => ?_⟩
      have mk : ∀ {w : World} {T U : Thing} {D E : List Nat}, T.P w D → U.P w E → Apart D E → Lie w [T, U] (D ++ E) := fun a b c => by
        have := Lie.cons a (E := _ ++ []) (by simpa using c) (Lie.cons b (E := []) (fun x hx he => by cases he) Lie.nil)
        simpa using this
      obtain ⟨a1, a2, a3⟩ := (mk h1 k1 hDE).turn (mk hP hQ hA) k3 (fun x hx he => by
        rcases List.mem_append.1 hx with hx | hx
        · exact h2 x hx (by simp [he])
        · exact k2 x hx he) hu'
      rw [List.append_assoc, List.append_assoc] at a3
      exact ⟨D' ++ (E' ++ G), .cons hP (fun x hx he => by
        rcases List.mem_append.1 he with he | he
        · exact hA x hx he
        · exact a2 x (by simp [hx]) he) (.cons hQ (fun x hx he => a2 x (by simp [hx]) he) a1), hu.trans a3, hr.upd a3⟩
/-- Objects in another order, some left out. -/
theorem Sep.swap {w0 w : World} {T U : Thing} {R : List Thing} {rows : List (Value × Bs)} (h : Sep w0 w (T :: U :: R) rows) : Sep w0 w (U :: T :: R) rows := by
  obtain ⟨F, hl, hu, hr⟩ := h
  cases hl with
  | @cons _ D _ E' h1 h2 h3 =>
    cases h3 with
    | @cons _ E _ G k1 k2 k3 =>
      have hp : ∀ x, x ∈ E ++ (D ++ G) ↔ x ∈ D ++ (E ++ G) := fun x => by simp only [List.mem_append]; exact ⟨fun h => by rcases h with h | h | h <;> simp [h], fun h => by rcases h with h | h | h <;> simp [h]⟩
      refine ⟨E ++ (D ++ G), .cons k1 (fun x hx he => ?_) (.cons h1 (fun x hx he => h2 x hx (by simp [he])) k3), hu.mono (by simp) (fun b hb => .inl ((hp b).1 hb)), hr.sub (fun x hx => (hp x).1 hx)⟩
      rcases List.mem_append.1 he with he | he
      · exact h2 x he (by simp [hx])
      · exact k2 x hx he
/-- The third ahead. -/
theorem Sep.third {w0 w : World} {T U V : Thing} {R : List Thing} {rows : List (Value × Bs)} (h : Sep w0 w (T :: U :: V :: R) rows) : Sep w0 w (V :: T :: U :: R) rows := by
  obtain ⟨F, hl, hu, hr⟩ := h
  cases hl with
  | @cons _ D _ _ h1 h2 h3 =>
    cases h3 with
    | @cons _ E _ _ k1 k2 k3 =>
      cases k3 with
      | @cons _ H _ G j1 j2 j3 =>
        have hp : ∀ x, x ∈ H ++ (D ++ (E ++ G)) → x ∈ D ++ (E ++ (H ++ G)) := fun x h => by
          simp only [List.mem_append] at h ⊢
          rcases h with h | h | h | h <;> simp [h]
        refine ⟨H ++ (D ++ (E ++ G)), .cons j1 (fun x hx he => ?_) (.cons h1 (fun x hx he => h2 x hx ?_) (.cons k1 (fun x hx he => k2 x hx (by simp [he])) j3)), hu.mono (by simp) (fun b hb => .inl (hp b hb)), hr.sub hp⟩
        · simp only [List.mem_append] at he
          rcases he with he | he | he
          · exact h2 x he (by simp [hx])
          · exact k2 x he (by simp [hx])
          · exact j2 x hx he
        · simp only [List.mem_append] at he ⊢
          rcases he with he | he <;> simp [he]
theorem Sep.drop {w0 w : World} {T : Thing} {R : List Thing} {rows : List (Value × Bs)} (h : Sep w0 w (T :: R) rows) : Sep w0 w R rows := by
  obtain ⟨F, hl, hu, hr⟩ := h
  cases hl with
  | @cons _ D _ E h1 h2 h3 => exact ⟨E, h3, hu.mono (by simp) (fun b hb => .inl (by simp [hb])), hr.sub (fun x hx => by simp [hx])⟩
/-- A new object. -/
theorem Sep.add {w0 w w' : World} {T : Thing} {D' : List Nat} {R : List Thing} {rows : List (Value × Bs)} (h : Sep w0 w R rows) (hu : Upd w w' [] D') (hT : T.P w' D') : Sep w0 w' (T :: R) rows := by
  obtain ⟨F, hl, hu0, hr⟩ := h
  have hn : Apart D' F := fun x hx he => by
    rcases hu.new x hx with h | h
    · cases h
    · have := hl.lt x he; omega
  have hU : Upd w w' F (D' ++ F) := hu.mono (by simp) (fun b hb => by
    rcases List.mem_append.1 hb with hb | hb
    · exact .inl hb
    · exact .inr hb)
  exact ⟨D' ++ F, .cons hT hn (hl.frame (hu.same hl.lt (by simp))), hu0.trans hU, hr.upd hU⟩
/-- Nothing of the objects has turned. -/
theorem Sep.keep {w0 w w' : World} {D' : List Nat} {R : List Thing} {rows : List (Value × Bs)} (h : Sep w0 w R rows) (hu : Upd w w' [] D') : Sep w0 w' R rows := by
  obtain ⟨F, hl, hu0, hr⟩ := h
  have hU : Upd w w' F F := hu.mono (by simp) (fun b hb => .inr hb)
  exact ⟨F, hl.frame (hu.same hl.lt (by simp)), hu0.trans hU, hr.upd hU⟩
theorem Sep.alloc {w0 w : World} {R : List Thing} {rows : List (Value × Bs)} (h : Sep w0 w R rows) (o : Obj) : Sep w0 (w.alloc o) R rows := h.keep (Upd.alloc0 w o [])
theorem Sep.drew {w0 w : World} {R : List Thing} {rows : List (Value × Bs)} (h : Sep w0 w R rows) : Sep w0 w.drew R rows := h.keep (Upd.refl w []).drew
theorem Sep.drewN {w0 w : World} {R : List Thing} {rows : List (Value × Bs)} (h : Sep w0 w R rows) (n : Nat) : Sep w0 (w.drewN n) R rows := h.keep ((Upd.refl w []).drewN n)
/-- A row more. -/
theorem Sep.row {w0 w w' : World} {R : List Thing} {rows : List (Value × Bs)} {v : Value} {b : Bs} {E D' : List Nat} (h : Sep w0 w R rows) (hu : Upd w w' [] D') (hr : ReadRow w' 1 v (b.map bv) E) (hE : ∀ x ∈ E, x ∈ D') : Sep w0 w' R ((v, b) :: rows) := by
  have hk := h.keep hu
  obtain ⟨F, hl, hu0, hr0⟩ := h
  obtain ⟨F', hl', hu0', hr0'⟩ := hk
  have hU : Upd w w' F F := hu.mono (by simp) (fun b hb => .inr hb)
  refine ⟨F, hl.frame (hu.same hl.lt (by simp)), hu0.trans hU, fun r hh => ?_⟩
  rcases List.mem_cons.1 hh with rfl | hh
  · refine ⟨E, hr, fun x hx hd => ?_⟩
    have := hl.lt x hd
    rcases hu.new x (hE x hx) with h | h
    · cases h
    · omega
  · exact (hr0.upd hU) r hh
/-- A row that was read already, by another name. -/
theorem Sep.also {w0 w : World} {R : List Thing} {rows rows' : List (Value × Bs)} (h : Sep w0 w R rows) (hr : ∀ r ∈ rows', r ∈ rows) : Sep w0 w R rows' := by
  obtain ⟨F, hl, hu0, hr0⟩ := h
  exact ⟨F, hl, hu0, fun r hh => hr0 r (hr r hh)⟩
/-- A row, of w0 itself. -/
theorem Sep.old {w0 w : World} {R : List Thing} {rows : List (Value × Bs)} {v : Value} {b : Bs} {E : List Nat} (h : Sep w0 w R rows) (hr : ReadRow w0 1 v (b.map bv) E) : Sep w0 w R ((v, b) :: rows) := by
  obtain ⟨F, hl, hu0, hr0⟩ := h
  refine ⟨F, hl, hu0, fun r hh => ?_⟩
  rcases List.mem_cons.1 hh with rfl | hh
  · refine ⟨E, hr.frame (hu0.same hr.lt (by simp)), fun x hx hd => ?_⟩
    rcases hu0.new x hd with h | h
    · cases h
    · have := hr.lt x hx; omega
  · exact hr0 r hh
theorem Sep.get {w0 w : World} {R : List Thing} {rows : List (Value × Bs)} {v : Value} {b : Bs} (h : Sep w0 w R rows) (hm : (v, b) ∈ rows) : ∃ E, ReadRow w 1 v (b.map bv) E := by
  obtain ⟨F, hl, hu0, hr0⟩ := h
  obtain ⟨E, h1, _⟩ := hr0 _ hm
  exact ⟨E, h1⟩
theorem Sep.drop_row {w0 w : World} {R : List Thing} {r : Value × Bs} {rows : List (Value × Bs)} (h : Sep w0 w R (r :: rows)) : Sep w0 w R rows := h.also (fun x hx => by simp [hx])
theorem Sep.nil {w0 w : World} {R : List Thing} {rows : List (Value × Bs)} (h : Sep w0 w R rows) : Sep w0 w R ((.slice none 0 0, []) :: rows) :=
  h.row (D' := []) (Upd.refl w []) (E := []) ⟨none, 0, 0, rfl, by simp, Nat.le_refl _, by decide, fun _ => rfl, .inl ⟨by simp, rfl⟩⟩ (by simp)
theorem Sep.start (w : World) : Sep w w [] [] := ⟨[], .nil, Upd.refl _ _, fun r h => by cases h⟩
theorem Sep.startRows {w : World} {rows : List (Value × Bs)} (h : ∀ r ∈ rows, ∃ E, ReadRow w 1 r.1 (r.2.map bv) E) : Sep w w [] rows := ⟨[], .nil, Upd.refl _ _, fun r hr => by
  obtain ⟨E, hE⟩ := h r hr
  exact ⟨E, hE, by simp⟩⟩
theorem Sep.cell {w0 w : World} {R : List Thing} {rows : List (Value × Bs)} (h : Sep w0 w R rows) {a : Addr} {v : Value} (hc : w0.cell? a = some v) : w.cell? a = some v := by
  have hb := h.below
  have hlt : a.block < w0.heap.size := by
    cases hh : w0.heap[a.block]? with
    | none => rw [World.cell?, hh] at hc; cases hc
    | some o => exact lt_of_heap hh
  rw [World.cell?_of_block (hb.block _ hlt)]; exact hc

def ThDisk (d : Nat) (S : DiskS) : Thing := ⟨fun w D => DiskAt w d S D, fun h hs => h.frame hs, fun h => h.lt⟩
end Go.Av
