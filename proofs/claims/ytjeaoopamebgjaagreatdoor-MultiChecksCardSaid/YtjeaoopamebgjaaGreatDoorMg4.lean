/-
  Texts of this claim, laid together.
-/
import Derived.Test.YtjeaoopamebgjaaGreatDoorMg3
import Derived.Deep.MidRow
import Derived.Sort.Walk0
import Derived.Deep.Slices
import Derived.Great.Walk
import Derived.Test.YtjeaoopamebgjaaGreatDoorProg
set_option linter.unusedVariables false
set_option linter.unusedSimpArgs false

/-
  The walk by what lies in memory: a load, a store, a making, told by the list of things alone; the world itself is never spelled.
-/
namespace Go.Av
open Go.RowKit
/-- One thing of a list in the place of another. -/
inductive Rep (T T' : Thing) : List Thing → List Thing → Prop
  | here {R : List Thing} : Rep T T' (T :: R) (T' :: R)
  | there {U : Thing} {R R' : List Thing} : Rep T T' R R' → Rep T T' (U :: R) (U :: R')
theorem Rep.out {T T' : Thing} {A B : List Thing} (h : Rep T T' A B) : ∃ X, A.Perm (T :: X) ∧ (T' :: X).Perm B := by
  induction h with
  | here => exact ⟨_, .refl _, .refl _⟩
  | there _ ih =>
    obtain ⟨X, h1, h2⟩ := ih
    exact ⟨_ :: X, (h1.cons _).trans (.swap _ _ _), (List.Perm.swap _ _ _).trans (h2.cons _)⟩
theorem Rep.mem {T T' : Thing} {A B : List Thing} (h : Rep T T' A B) : T ∈ A := by
  induction h with
  | here => exact List.mem_cons_self ..
  | there _ ih => exact List.mem_cons_of_mem _ ih
section
variable {w0 w : World} {Ts Ts' R : List Thing} {rows : List (Value × Bs)}
theorem Sep.rep {T T' : Thing} (h : Sep w0 w Ts rows) (hr : Rep T T' Ts Ts') {w' : World} (hu : ∀ D, T.P w D → ∃ D', T'.P w' D' ∧ Upd w w' D D') : Sep w0 w' Ts' rows := by
  obtain ⟨X, h1, h2⟩ := hr.out
  exact ((h.perm h1).to hu).perm h2
theorem Sep.mem {T : Thing} (h : Sep w0 w Ts rows) (hm : T ∈ Ts) : ∃ D, T.P w D := h.has hm
/-- Some of the things, in whatever order. -/
theorem sel_perm : ∀ (idx : List Nat) (A B : List Thing), idx.map (A[·]?) = B.map some → idx.Nodup → ∃ X, A.Perm (B ++ X)
  | [], A, B, h, _ => by
    cases B with
    | nil => exact ⟨A, .refl _⟩
    | cons b B => cases h
  | i :: idx, A, B, h, hn => by
    cases B with
    | nil => cases h
    | cons b B =>
      simp only [List.map_cons, List.cons.injEq] at h
      obtain ⟨hi, hr⟩ := h
      rw [List.nodup_cons] at hn
      have hlt : i < A.length := (List.getElem?_eq_some_iff.1 hi).1
      have hrr : (idx.map fun j => if j < i then j else j - 1).map ((A.eraseIdx i)[·]?) = B.map some := by
        rw [← hr, List.map_map]
        apply List.map_congr_left
        intro j hj
        have hne : j ≠ i := fun e => hn.1 (e ▸ hj)
        simp only [Function.comp]
        rw [List.getElem?_eraseIdx]
        by_cases hji : j < i
        · rw [if_pos hji, if_pos hji]
        · rw [if_neg hji, if_neg (by omega)]
          congr 1; omega
      have hnn : (idx.map fun j => if j < i then j else j - 1).Nodup := by
        have h1 : idx.Pairwise (fun j k => j ≠ k ∧ j ≠ i ∧ k ≠ i) := List.Pairwise.imp_of_mem (fun hj hk hjk => ⟨hjk, fun e => hn.1 (e ▸ hj), fun e => hn.1 (e ▸ hk)⟩) hn.2
        refine List.pairwise_map.2 (List.Pairwise.imp ?_ h1)
        intro j k ⟨h1, h2, h3⟩
        split <;> split <;> omega
      obtain ⟨X, hX⟩ := sel_perm _ _ _ hrr hnn
      exact ⟨X, (perm_pick hi rfl).symm.trans (hX.cons b)⟩
theorem Lie.left {w : World} {A B : List Thing} {D : List Nat} (h : Lie w (A ++ B) D) : ∃ E, Lie w A E ∧ ∀ b ∈ E, b ∈ D := by
  obtain ⟨D1, E1, rfl, hA, hB, _⟩ := h.split
  exact ⟨D1, hA, fun b hb => by simp [hb]⟩
theorem Sep.take {A B : List Thing} (h : Sep w0 w (A ++ B) rows) : Sep w0 w A rows := by
  obtain ⟨D, hl, hu, hr⟩ := h
  obtain ⟨E, hE, hsub⟩ := hl.left
  exact ⟨E, hE, hu.mono (by simp) (fun b hb => .inl (hsub b hb)), hr.sub hsub⟩
/-- The things at these places, in this order; all others are let go. -/
theorem Sep.sel {B : List Thing} (h : Sep w0 w Ts rows) (idx : List Nat) (hB : idx.map (Ts[·]?) = B.map some) (hn : idx.Nodup := by decide) : Sep w0 w B rows := by
  obtain ⟨X, hX⟩ := sel_perm idx Ts B hB hn
  exact (h.perm hX).take
theorem Sep.up1 {x0 x1 : Thing} {R : List Thing} (hh : Sep w0 w (x0 :: x1 :: R) rows) : Sep w0 w (x1 :: x0 :: R) rows := hh.pick 1 rfl rfl
theorem Sep.cut1 {x0 x1 : Thing} {R : List Thing} (hh : Sep w0 w (x0 :: x1 :: R) rows) : Sep w0 w (x0 :: R) rows := (hh.pick 1 rfl rfl).drop
theorem Sep.up2 {x0 x1 x2 : Thing} {R : List Thing} (hh : Sep w0 w (x0 :: x1 :: x2 :: R) rows) : Sep w0 w (x2 :: x0 :: x1 :: R) rows := hh.pick 2 rfl rfl
theorem Sep.cut2 {x0 x1 x2 : Thing} {R : List Thing} (hh : Sep w0 w (x0 :: x1 :: x2 :: R) rows) : Sep w0 w (x0 :: x1 :: R) rows := (hh.pick 2 rfl rfl).drop
theorem Sep.up3 {x0 x1 x2 x3 : Thing} {R : List Thing} (hh : Sep w0 w (x0 :: x1 :: x2 :: x3 :: R) rows) : Sep w0 w (x3 :: x0 :: x1 :: x2 :: R) rows := hh.pick 3 rfl rfl
theorem Sep.cut3 {x0 x1 x2 x3 : Thing} {R : List Thing} (hh : Sep w0 w (x0 :: x1 :: x2 :: x3 :: R) rows) : Sep w0 w (x0 :: x1 :: x2 :: R) rows := (hh.pick 3 rfl rfl).drop
theorem Sep.up4 {x0 x1 x2 x3 x4 : Thing} {R : List Thing} (hh : Sep w0 w (x0 :: x1 :: x2 :: x3 :: x4 :: R) rows) : Sep w0 w (x4 :: x0 :: x1 :: x2 :: x3 :: R) rows := hh.pick 4 rfl rfl
theorem Sep.cut4 {x0 x1 x2 x3 x4 : Thing} {R : List Thing} (hh : Sep w0 w (x0 :: x1 :: x2 :: x3 :: x4 :: R) rows) : Sep w0 w (x0 :: x1 :: x2 :: x3 :: R) rows := (hh.pick 4 rfl rfl).drop
theorem Sep.up5 {x0 x1 x2 x3 x4 x5 : Thing} {R : List Thing} (hh : Sep w0 w (x0 :: x1 :: x2 :: x3 :: x4 :: x5 :: R) rows) : Sep w0 w (x5 :: x0 :: x1 :: x2 :: x3 :: x4 :: R) rows := hh.pick 5 rfl rfl
theorem Sep.cut5 {x0 x1 x2 x3 x4 x5 : Thing} {R : List Thing} (hh : Sep w0 w (x0 :: x1 :: x2 :: x3 :: x4 :: x5 :: R) rows) : Sep w0 w (x0 :: x1 :: x2 :: x3 :: x4 :: R) rows := (hh.pick 5 rfl rfl).drop
theorem Sep.up6 {x0 x1 x2 x3 x4 x5 x6 : Thing} {R : List Thing} (hh : Sep w0 w (x0 :: x1 :: x2 :: x3 :: x4 :: x5 :: x6 :: R) rows) : Sep w0 w (x6 :: x0 :: x1 :: x2 :: x3 :: x4 :: x5 :: R) rows := hh.pick 6 rfl rfl
theorem Sep.cut6 {x0 x1 x2 x3 x4 x5 x6 : Thing} {R : List Thing} (hh : Sep w0 w (x0 :: x1 :: x2 :: x3 :: x4 :: x5 :: x6 :: R) rows) : Sep w0 w (x0 :: x1 :: x2 :: x3 :: x4 :: x5 :: R) rows := (hh.pick 6 rfl rfl).drop
theorem Sep.up7 {x0 x1 x2 x3 x4 x5 x6 x7 : Thing} {R : List Thing} (hh : Sep w0 w (x0 :: x1 :: x2 :: x3 :: x4 :: x5 :: x6 :: x7 :: R) rows) : Sep w0 w (x7 :: x0 :: x1 :: x2 :: x3 :: x4 :: x5 :: x6 :: R) rows := hh.pick 7 rfl rfl
theorem Sep.cut7 {x0 x1 x2 x3 x4 x5 x6 x7 : Thing} {R : List Thing} (hh : Sep w0 w (x0 :: x1 :: x2 :: x3 :: x4 :: x5 :: x6 :: x7 :: R) rows) : Sep w0 w (x0 :: x1 :: x2 :: x3 :: x4 :: x5 :: x6 :: R) rows := (hh.pick 7 rfl rfl).drop
theorem Sep.up8 {x0 x1 x2 x3 x4 x5 x6 x7 x8 : Thing} {R : List Thing} (hh : Sep w0 w (x0 :: x1 :: x2 :: x3 :: x4 :: x5 :: x6 :: x7 :: x8 :: R) rows) : Sep w0 w (x8 :: x0 :: x1 :: x2 :: x3 :: x4 :: x5 :: x6 :: x7 :: R) rows := hh.pick 8 rfl rfl
theorem Sep.cut8 {x0 x1 x2 x3 x4 x5 x6 x7 x8 : Thing} {R : List Thing} (hh : Sep w0 w (x0 :: x1 :: x2 :: x3 :: x4 :: x5 :: x6 :: x7 :: x8 :: R) rows) : Sep w0 w (x0 :: x1 :: x2 :: x3 :: x4 :: x5 :: x6 :: x7 :: R) rows := (hh.pick 8 rfl rfl).drop
theorem Sep.up9 {x0 x1 x2 x3 x4 x5 x6 x7 x8 x9 : Thing} {R : List Thing} (hh : Sep w0 w (x0 :: x1 :: x2 :: x3 :: x4 :: x5 :: x6 :: x7 :: x8 :: x9 :: R) rows) : Sep w0 w (x9 :: x0 :: x1 :: x2 :: x3 :: x4 :: x5 :: x6 :: x7 :: x8 :: R) rows := hh.pick 9 rfl rfl
theorem Sep.cut9 {x0 x1 x2 x3 x4 x5 x6 x7 x8 x9 : Thing} {R : List Thing} (hh : Sep w0 w (x0 :: x1 :: x2 :: x3 :: x4 :: x5 :: x6 :: x7 :: x8 :: x9 :: R) rows) : Sep w0 w (x0 :: x1 :: x2 :: x3 :: x4 :: x5 :: x6 :: x7 :: x8 :: R) rows := (hh.pick 9 rfl rfl).drop
theorem Sep.up10 {x0 x1 x2 x3 x4 x5 x6 x7 x8 x9 x10 : Thing} {R : List Thing} (hh : Sep w0 w (x0 :: x1 :: x2 :: x3 :: x4 :: x5 :: x6 :: x7 :: x8 :: x9 :: x10 :: R) rows) : Sep w0 w (x10 :: x0 :: x1 :: x2 :: x3 :: x4 :: x5 :: x6 :: x7 :: x8 :: x9 :: R) rows := hh.pick 10 rfl rfl
theorem Sep.cut10 {x0 x1 x2 x3 x4 x5 x6 x7 x8 x9 x10 : Thing} {R : List Thing} (hh : Sep w0 w (x0 :: x1 :: x2 :: x3 :: x4 :: x5 :: x6 :: x7 :: x8 :: x9 :: x10 :: R) rows) : Sep w0 w (x0 :: x1 :: x2 :: x3 :: x4 :: x5 :: x6 :: x7 :: x8 :: x9 :: R) rows := (hh.pick 10 rfl rfl).drop
theorem Sep.up11 {x0 x1 x2 x3 x4 x5 x6 x7 x8 x9 x10 x11 : Thing} {R : List Thing} (hh : Sep w0 w (x0 :: x1 :: x2 :: x3 :: x4 :: x5 :: x6 :: x7 :: x8 :: x9 :: x10 :: x11 :: R) rows) : Sep w0 w (x11 :: x0 :: x1 :: x2 :: x3 :: x4 :: x5 :: x6 :: x7 :: x8 :: x9 :: x10 :: R) rows := hh.pick 11 rfl rfl
theorem Sep.cut11 {x0 x1 x2 x3 x4 x5 x6 x7 x8 x9 x10 x11 : Thing} {R : List Thing} (hh : Sep w0 w (x0 :: x1 :: x2 :: x3 :: x4 :: x5 :: x6 :: x7 :: x8 :: x9 :: x10 :: x11 :: R) rows) : Sep w0 w (x0 :: x1 :: x2 :: x3 :: x4 :: x5 :: x6 :: x7 :: x8 :: x9 :: x10 :: R) rows := (hh.pick 11 rfl rfl).drop
theorem Sep.up12 {x0 x1 x2 x3 x4 x5 x6 x7 x8 x9 x10 x11 x12 : Thing} {R : List Thing} (hh : Sep w0 w (x0 :: x1 :: x2 :: x3 :: x4 :: x5 :: x6 :: x7 :: x8 :: x9 :: x10 :: x11 :: x12 :: R) rows) : Sep w0 w (x12 :: x0 :: x1 :: x2 :: x3 :: x4 :: x5 :: x6 :: x7 :: x8 :: x9 :: x10 :: x11 :: R) rows := hh.pick 12 rfl rfl
theorem Sep.cut12 {x0 x1 x2 x3 x4 x5 x6 x7 x8 x9 x10 x11 x12 : Thing} {R : List Thing} (hh : Sep w0 w (x0 :: x1 :: x2 :: x3 :: x4 :: x5 :: x6 :: x7 :: x8 :: x9 :: x10 :: x11 :: x12 :: R) rows) : Sep w0 w (x0 :: x1 :: x2 :: x3 :: x4 :: x5 :: x6 :: x7 :: x8 :: x9 :: x10 :: x11 :: R) rows := (hh.pick 12 rfl rfl).drop
theorem Sep.up13 {x0 x1 x2 x3 x4 x5 x6 x7 x8 x9 x10 x11 x12 x13 : Thing} {R : List Thing} (hh : Sep w0 w (x0 :: x1 :: x2 :: x3 :: x4 :: x5 :: x6 :: x7 :: x8 :: x9 :: x10 :: x11 :: x12 :: x13 :: R) rows) : Sep w0 w (x13 :: x0 :: x1 :: x2 :: x3 :: x4 :: x5 :: x6 :: x7 :: x8 :: x9 :: x10 :: x11 :: x12 :: R) rows := hh.pick 13 rfl rfl
theorem Sep.cut13 {x0 x1 x2 x3 x4 x5 x6 x7 x8 x9 x10 x11 x12 x13 : Thing} {R : List Thing} (hh : Sep w0 w (x0 :: x1 :: x2 :: x3 :: x4 :: x5 :: x6 :: x7 :: x8 :: x9 :: x10 :: x11 :: x12 :: x13 :: R) rows) : Sep w0 w (x0 :: x1 :: x2 :: x3 :: x4 :: x5 :: x6 :: x7 :: x8 :: x9 :: x10 :: x11 :: x12 :: R) rows := (hh.pick 13 rfl rfl).drop
theorem Sep.up14 {x0 x1 x2 x3 x4 x5 x6 x7 x8 x9 x10 x11 x12 x13 x14 : Thing} {R : List Thing} (hh : Sep w0 w (x0 :: x1 :: x2 :: x3 :: x4 :: x5 :: x6 :: x7 :: x8 :: x9 :: x10 :: x11 :: x12 :: x13 :: x14 :: R) rows) : Sep w0 w (x14 :: x0 :: x1 :: x2 :: x3 :: x4 :: x5 :: x6 :: x7 :: x8 :: x9 :: x10 :: x11 :: x12 :: x13 :: R) rows := hh.pick 14 rfl rfl
theorem Sep.cut14 {x0 x1 x2 x3 x4 x5 x6 x7 x8 x9 x10 x11 x12 x13 x14 : Thing} {R : List Thing} (hh : Sep w0 w (x0 :: x1 :: x2 :: x3 :: x4 :: x5 :: x6 :: x7 :: x8 :: x9 :: x10 :: x11 :: x12 :: x13 :: x14 :: R) rows) : Sep w0 w (x0 :: x1 :: x2 :: x3 :: x4 :: x5 :: x6 :: x7 :: x8 :: x9 :: x10 :: x11 :: x12 :: x13 :: R) rows := (hh.pick 14 rfl rfl).drop
theorem Sep.back2x {a b n t m l : Thing} {R : List Thing} (h : Sep w0 w (a :: b :: n :: t :: m :: l :: R) rows) : Sep w0 w (n :: t :: m :: l :: a :: b :: R) rows := h.perm (List.perm_append_comm (l₁ := [a, b]) (l₂ := [n, t, m, l]) |>.append_right R)
theorem Sep.back3x {a b c n t m l : Thing} {R : List Thing} (h : Sep w0 w (a :: b :: c :: n :: t :: m :: l :: R) rows) : Sep w0 w (n :: t :: m :: l :: a :: b :: c :: R) rows := h.perm (List.perm_append_comm (l₁ := [a, b, c]) (l₂ := [n, t, m, l]) |>.append_right R)
theorem Sep.back4x {a b c d n t m l : Thing} {R : List Thing} (h : Sep w0 w (a :: b :: c :: d :: n :: t :: m :: l :: R) rows) : Sep w0 w (n :: t :: m :: l :: a :: b :: c :: d :: R) rows := h.perm (List.perm_append_comm (l₁ := [a, b, c, d]) (l₂ := [n, t, m, l]) |>.append_right R)
theorem Sep.back5x {a b c d e n t m l : Thing} {R : List Thing} (h : Sep w0 w (a :: b :: c :: d :: e :: n :: t :: m :: l :: R) rows) : Sep w0 w (n :: t :: m :: l :: a :: b :: c :: d :: e :: R) rows := h.perm (List.perm_append_comm (l₁ := [a, b, c, d, e]) (l₂ := [n, t, m, l]) |>.append_right R)
/-- Of the first n things those at these places, in this order; then all behind the first n. -/
theorem Sep.pm {A B : List Thing} (h : Sep w0 w A rows) (n : Nat) (idx : List Nat) (h1 : idx.map ((A.take n)[·]?) = (B.take idx.length).map some) (h2 : B.drop idx.length = A.drop n) (hn : idx.Nodup := by decide) : Sep w0 w B rows := by
  obtain ⟨X, hX⟩ := sel_perm idx (A.take n) (B.take idx.length) h1 hn
  have e : A.Perm (B ++ X) := by
    have h3 : (A.take n ++ A.drop n).Perm ((B.take idx.length ++ X) ++ A.drop n) := hX.append_right _
    rw [List.take_append_drop, ← h2] at h3
    refine h3.trans ?_
    conv => rhs; rw [← List.take_append_drop idx.length B]
    rw [List.append_assoc, List.append_assoc]
    exact List.Perm.append_left _ List.perm_append_comm
  exact (h.perm e).take
/-- The things at these places ahead, all others (X) behind. -/
theorem Sep.front {A B : List Thing} (h : Sep w0 w Ts rows) (hp : Ts.Perm (A ++ B)) : Sep w0 w (A ++ B) rows := h.perm hp
end
/-! ### cells written, one behind the other -/
def setMany (cs : Array Value) : Nat → List Value → Array Value
  | _, [] => cs
  | i, v :: r => setMany (cs.setIfInBounds i v) (i + 1) r
theorem setMany_eq : ∀ (vs : List Value) (cs : Array Value) (i : Nat), i + vs.length ≤ cs.size → setMany cs i vs = (cs.toList.take i ++ vs ++ cs.toList.drop (i + vs.length)).toArray
  | [], cs, i, _ => by simp [setMany]
  | v :: r, cs, i, h => by
    simp only [List.length_cons] at h
    unfold setMany
    rw [setMany_eq r _ _ (by simp; omega)]
    congr 1
    have e := list_seg_step cs.toList i v r (by simp at h ⊢; omega)
    simpa [Array.toList_setIfInBounds, Nat.add_assoc] using e
/-- Is a type's value one cell? -/
def scalarB (P : Program) (ty : TypeId) : Bool := match P.underlying ty with
  | some (.struct _) | some (.array _ _) => false
  | some _ => true
  | none => false
def structB (P : Program) (ty : TypeId) (n : Nat) : Bool := (match P.underlying ty with
  | some (.struct _) | some (.array _ _) => true
  | _ => false) && (match P.info? ty with | some i => i.size == n | none => false)
/-- A struct type of so many cells. -/
structure StructN (P : Program) (ty : TypeId) (n : Nat) : Prop where
  is : structB P ty n = true
def sizeB (P : Program) (ty : TypeId) (n : Nat) : Bool := match P.info? ty with | some i => i.size == n | none => false
def zeroB (P : Program) (ty : TypeId) (zs : Array Value) : Prop := ((P.info? ty).bind (·.zero)).map Value.cells = some zs
section
variable {P : Program} {w : World}
theorem run_load_scalar {ty : TypeId} {A : Addr} {v : Value} (hs : scalarB P ty = true) (hc : w.cell? A = some v) : (Instr.loadAt ty (.pointer (some A))).run P w = .ok v w := by
  unfold scalarB at hs
  cases hu : P.underlying ty with
  | none => simp [hu] at hs
  | some d =>
    have hagg : (isAgg ty).run P w = .ok false w := by
      unfold isAgg
      rw [Sem.run_bind, run_underlying hu w]
      rw [hu] at hs
      cases d <;> simp_all
    simp [Instr.loadAt, Instr.sureAddr, Sem.run_bind, loadVar, hagg, hc]
theorem run_load_struct {ty : TypeId} {b i : Nat} {cs : Array Value} {T : TypeId} {fr : Nat × Nat} {n : Nat} (hs : structB P ty n = true) (hb : w.heap[b]? = some (.cells cs T fr)) (hn : i + n ≤ cs.size) :
    (Instr.loadAt ty (.pointer (some ⟨b, i, none⟩))).run P w = .ok (.agg ((cs.toList.drop i).take n).toArray) w := by
  unfold structB at hs
  rw [Bool.and_eq_true] at hs
  obtain ⟨h1, h2⟩ := hs
  have hlen : ((cs.toList.drop i).take n).length = n := by simp; omega
  cases hi : P.info? ty with
  | none => simp [hi] at h2
  | some ii =>
    simp only [hi, beq_iff_eq] at h2
    cases hu : P.underlying ty with
    | none => simp [hu] at h1
    | some d =>
      refine run_loadAt_mid w b i ty _ d (fun j v hv => ?_) hu (by rw [hu] at h1; cases d <;> simp_all) (by rw [hi, hlen]; simpa using h2)
      rw [cell_of_row w b (i + j) cs T fr hb]
      rw [List.getElem?_take] at hv
      split at hv
      · rw [List.getElem?_drop] at hv; simpa using hv
      · cases hv
theorem run_store_cells {ty : TypeId} {b i : Nat} {cs : Array Value} {T : TypeId} {v : Value} (hs : sizeB P ty v.cells.size = true) (hb : w.heap[b]? = some (.cells cs T (0, 0))) (hn : i + v.cells.size ≤ cs.size) (h1 : v.cells.all (·.oneCell') = true) :
    (Instr.storeAt ty (.pointer (some ⟨b, i, none⟩)) v).run P w = .ok () (w.setCells b i v.cells.toList) := by
  unfold sizeB at hs
  cases hi : P.info? ty with
  | none => simp [hi] at hs
  | some ii =>
    simp only [hi, beq_iff_eq] at hs
    have := run_storeCells_cells (P := P) b i v.cells.toList 0 w (fun j hj => by
        rw [Nat.add_zero, cell_of_row w b (i + j) cs T (0, 0) hb]
        simp at hj
        rw [Array.getElem?_eq_getElem (by omega)]; rfl) (fun j hj => by rw [Nat.add_zero]; exact frz_of hb _)
      (fun v hv => (Array.all_eq_true_iff_forall_mem.1 h1) v (by simpa using hv))
    simp only [Nat.add_zero] at this
    simp [Instr.storeAt, Instr.sureAddr, Sem.run_bind, storeVar, sizeOf, typeInfo, hi, hs, this]
theorem run_alloc_zero {ty : TypeId} {zs : Array Value} (hz : zeroB P ty zs) : (Instr.alloc ty true (.tuple #[])).run P w = .ok (.pointer (some ⟨w.heap.size, 0, none⟩)) (w.alloc (.cells zs ty)) := by
  unfold zeroB at hz
  cases hi : P.info? ty with
  | none => simp [hi] at hz
  | some ii =>
    simp only [hi, Option.bind_some] at hz
    cases hzz : ii.zero with
    | none => simp [hzz] at hz
    | some z =>
      simp only [hzz, Option.map_some, Option.some.injEq] at hz
      subst hz
      simp [Instr.alloc, Sem.run_bind, zeroValue, typeInfo, hi, hzz, newVar, newRow]
end
theorem drop_cell {cs : Array Value} {i : Nat} {v : Value} {tl : List Value} (h : cs.toList.drop i = v :: tl) : cs[i]? = some v := by
  have h1 : (cs.toList.drop i)[0]? = some v := by rw [h]; rfl
  rw [List.getElem?_drop] at h1
  simpa using h1
/-! ### the steps -/
section
variable {P : Program} {ops : Array Oper} {Q : Exit → Act → World → Prop} {a : Act} {w w0 : World} {rest : List Oper} {Ts Ts' : List Thing} {rows : List (Value × Bs)}
  {dst : Option Tmp} {ty tyy : TypeId} {x y : Operand} {pos : String} {aft : Array Edge} {g : Option (Nat × Bool)} {b i : Nat} {cs : Array Value} {T : TypeId} {v : Value}
theorem wpList_ran {o : Oper} {w' : World} (hw : Region.wanted o (yielded ops a.tmps) = true) (hr : (execOp a.eval o).run P w = .ok (.value v) w') (k : wpList P ops Q rest (a.put o.dst v) w') : wpList P ops Q (o :: rest) a w := by
  unfold wpList
  rw [if_pos hw]
  refine .inl ?_
  unfold Oper.wp
  rw [hr, Oper.upon_value]
  exact k
theorem wpList_did {o : Oper} {w' : World} (hw : Region.wanted o (yielded ops a.tmps) = true) (hr : (execOp a.eval o).run P w = .ok .skip w') (k : wpList P ops Q rest (a.put o.dst undef) w') : wpList P ops Q (o :: rest) a w := by
  unfold wpList
  rw [if_pos hw]
  refine .inl ?_
  unfold Oper.wp
  rw [hr, Oper.upon_skip]
  exact k
theorem run_val {s : Sem Value} {w' : World} (h : s.run P w = .ok v w') : (do pure (Next.value (← s)) : Sem Next).run P w = .ok (.value v) w' := by
  simp [Sem.run_bind, h]
theorem sx_load (H : Hid (Sep w0 w Ts rows)) (hx : a.eval x = .pointer (some ⟨b, i, none⟩)) (hw : Region.wanted ⟨dst, .load ty x, tyy, pos, aft, g⟩ (yielded ops a.tmps) = true) (hs : scalarB P ty = true) (hm : ThCell b (.cells cs T (0, 0)) ∈ Ts)
    {tl : List Value} (hv : cs.toList.drop i = v :: tl) (k : wpList P ops Q rest (a.put dst v) w) : wpList P ops Q (⟨dst, .load ty x, tyy, pos, aft, g⟩ :: rest) a w := by
  refine wpList_ran hw ?_ k
  unfold execOp
  dsimp only
  rw [hx]
  exact run_val (run_load_scalar hs (cell_of (Sep.block H hm) i (drop_cell hv)))
theorem sx_loadS (H : Hid (Sep w0 w Ts rows)) (hx : a.eval x = .pointer (some ⟨b, i, none⟩)) (hw : Region.wanted ⟨dst, .load ty x, tyy, pos, aft, g⟩ (yielded ops a.tmps) = true) {n : Nat} (hs : StructN P ty n) (hm : ThCell b (.cells cs T (0, 0)) ∈ Ts)
    (hn : Nat.ble (i + n) cs.size = true) (k : wpList P ops Q rest (a.put dst (.agg ((cs.toList.drop i).take n).toArray)) w) : wpList P ops Q (⟨dst, .load ty x, tyy, pos, aft, g⟩ :: rest) a w := by
  refine wpList_ran hw ?_ k
  unfold execOp
  dsimp only
  rw [hx]
  exact run_val (run_load_struct hs.1 (Sep.block H hm) (Nat.le_of_ble_eq_true hn))
theorem sx_storeS (H : Hid (Sep w0 w Ts rows)) (hx : a.eval x = .pointer (some ⟨b, i, none⟩)) {vs : List Value} (hy : a.eval y = .agg vs.toArray) (hw : Region.wanted ⟨dst, .store ty x y, tyy, pos, aft, g⟩ (yielded ops a.tmps) = true) (hs : sizeB P ty vs.length = true)
    (hr : Rep (ThCell b (.cells cs T (0, 0))) (ThCell b (.cells (setMany cs i vs) T (0, 0))) Ts Ts') (hn : Nat.ble (i + vs.length) cs.size = true) (h1 : vs.all (·.oneCell') = true)
    (k : ∀ w', Hid (Sep w0 w' Ts' rows) → wpList P ops Q rest (a.put dst undef) w') : wpList P ops Q (⟨dst, .store ty x y, tyy, pos, aft, g⟩ :: rest) a w := by
  have hn := Nat.le_of_ble_eq_true hn
  have e : (Value.agg vs.toArray).cells = vs.toArray := rfl
  refine wpList_did hw ?_ (k (w.setCells b i vs) ?_)
  · unfold execOp
    dsimp only
    have := run_store_cells (P := P) (w := w) (ty := ty) (b := b) (i := i) (cs := cs) (T := T) (v := .agg vs.toArray) (by rw [e]; simpa using hs) (Sep.block H hr.mem) (by rw [e]; simpa using hn) (by rw [e]; simpa using h1)
    rw [e] at this
    rw [hx, hy, Sem.run_bind, this]
    rfl
  · refine Sep.rep H hr fun D hP => ?_
    obtain ⟨hb, rfl⟩ := hP
    obtain ⟨h1, h2, h3⟩ := rest_setCells b vs i w
    refine ⟨[b], ⟨?_, rfl⟩, ⟨h1, h2, h3, by rw [size_setCells]; exact Nat.le_refl _, fun k _ hn => heap_setCells_other b k (fun e => hn (by simp [e])) _ i w, fun k hk => .inl hk⟩⟩
    rw [heap_setCells_same b T _ i w cs hb hn, setMany_eq _ _ _ hn]
theorem sx_store1 (H : Hid (Sep w0 w Ts rows)) (hx : a.eval x = .pointer (some ⟨b, i, none⟩)) (hy : a.eval y = v) (hc : v.cells = #[v]) (hw : Region.wanted ⟨dst, .store ty x y, tyy, pos, aft, g⟩ (yielded ops a.tmps) = true) (hs : sizeB P ty 1 = true)
    (hr : Rep (ThCell b (.cells cs T (0, 0))) (ThCell b (.cells (cs.setIfInBounds i v) T (0, 0))) Ts Ts') (hn : Nat.ble (i + 1) cs.size = true) (h1 : v.oneCell' = true)
    (k : ∀ w', Hid (Sep w0 w' Ts' rows) → wpList P ops Q rest (a.put dst undef) w') : wpList P ops Q (⟨dst, .store ty x y, tyy, pos, aft, g⟩ :: rest) a w := by
  have hn := Nat.le_of_ble_eq_true hn
  refine wpList_did hw ?_ (k (w.setCells b i [v]) ?_)
  · unfold execOp
    dsimp only
    have := run_store_cells (P := P) (w := w) (ty := ty) (b := b) (i := i) (cs := cs) (T := T) (v := v) (by rw [hc]; simpa using hs) (Sep.block H hr.mem) (by rw [hc]; simpa using hn) (by rw [hc]; simpa using h1)
    rw [hc] at this
    rw [hx, hy, Sem.run_bind, this]
    rfl
  · refine Sep.rep H hr fun D hP => ?_
    obtain ⟨hb, rfl⟩ := hP
    obtain ⟨h1, h2, h3⟩ := rest_setCells b [v] i w
    refine ⟨[b], ⟨?_, rfl⟩, ⟨h1, h2, h3, by rw [size_setCells]; exact Nat.le_refl _, fun k _ hn => heap_setCells_other b k (fun e => hn (by simp [e])) _ i w, fun k hk => .inl hk⟩⟩
    have hn' : i + [v].length ≤ cs.size := hn
    rw [heap_setCells_same b T [v] i w cs hb hn', ← setMany_eq [v] cs i hn']
    rfl
theorem sx_alloc (H : Hid (Sep w0 w Ts rows)) (hw : Region.wanted ⟨dst, .alloc ty, tyy, pos, aft, g⟩ (yielded ops a.tmps) = true) {zs : Array Value} (hz : zeroB P ty zs)
    (k : ∀ w' b, Hid (Sep w0 w' (ThCell b (.cells zs ty (0, 0)) :: Ts) rows) → wpList P ops Q rest (a.put dst (.pointer (some ⟨b, 0, none⟩))) w') : wpList P ops Q (⟨dst, .alloc ty, tyy, pos, aft, g⟩ :: rest) a w := by
  refine wpList_ran hw ?_ (k (w.alloc (.cells zs ty)) w.heap.size ((Lib.hid (H.out.newCell _))))
  unfold execOp
  exact run_val (run_alloc_zero hz)
theorem sx_boxS (H : Hid (Sep w0 w Ts rows)) {zs : Array Value} (hy : a.eval y = .agg zs) (hw : Region.wanted ⟨dst, .box ty y, tyy, pos, aft, g⟩ (yielded ops a.tmps) = true)
    (k : ∀ w' b, Hid (Sep w0 w' (ThCell b (.cells zs ty (0, 0)) :: Ts) rows) → wpList P ops Q rest (a.put dst (.pointer (some ⟨b, 0, none⟩))) w') : wpList P ops Q (⟨dst, .box ty y, tyy, pos, aft, g⟩ :: rest) a w := by
  refine wpList_ran hw ?_ (k (w.alloc (.cells zs ty)) w.heap.size ((Lib.hid (H.out.newCell _))))
  unfold execOp
  dsimp only
  rw [hy]
  simp [Instr.box, newVar, newRow, Value.cells]
theorem sx_box1 (H : Hid (Sep w0 w Ts rows)) (hy : a.eval y = v) (hc : v.cells = #[v]) (hw : Region.wanted ⟨dst, .box ty y, tyy, pos, aft, g⟩ (yielded ops a.tmps) = true)
    (k : ∀ w' b, Hid (Sep w0 w' (ThCell b (.cells #[v] ty (0, 0)) :: Ts) rows) → wpList P ops Q rest (a.put dst (.pointer (some ⟨b, 0, none⟩))) w') : wpList P ops Q (⟨dst, .box ty y, tyy, pos, aft, g⟩ :: rest) a w := by
  refine wpList_ran hw ?_ (k (w.alloc (.cells #[v] ty)) w.heap.size ((Lib.hid (H.out.newCell _))))
  unfold execOp
  dsimp only
  rw [hy]
  simp [Instr.box, newVar, newRow, hc]
theorem sx_makeMap (d : TypeDesc) (H : Hid (Sep w0 w Ts rows)) (hw : Region.wanted ⟨dst, .makeMap ty none, tyy, pos, aft, g⟩ (yielded ops a.tmps) = true)
    (k : ∀ w' m, Hid (Sep w0 w' (ThMap d m [] :: Ts) rows) → wpList P ops Q rest (a.put dst (.map (some m))) w') : wpList P ops Q (⟨dst, .makeMap ty none, tyy, pos, aft, g⟩ :: rest) a w := by
  refine wpList_ran hw ?_ (k (w.alloc (.map #[] 0)) w.heap.size ((Lib.hid (H.out.newMap d))))
  unfold execOp
  simp [Instr.makeMap, newObj, Sem.run]
/-- Any operation that yields a value and leaves the world: its law over the things. -/
theorem sx_read {o : Oper} (hw : Region.wanted o (yielded ops a.tmps) = true) (hr : (execOp a.eval o).run P w = .ok (.value v) w) (k : wpList P ops Q rest (a.put o.dst v) w) : wpList P ops Q (o :: rest) a w := wpList_ran hw hr k
end
/-! ### the end -/
section
variable {P : Program} {fn : Func} {R : Ending → World → Prop} {w w0 : World} {tmps : Array Value} {Ts : List Thing} {rows : List (Value × Bs)}
theorem sx_ret {p : Tmp} {ty : TypeId} {b : Nat} {cs : Array Value} {T : TypeId} (H : Hid (Sep w0 w Ts rows)) (hr : fn.results = #[.cell p ty]) (hp : tmps.getD p undef = .pointer (some ⟨b, 0, none⟩)) (hm : ThCell b (.cells cs T (0, 0)) ∈ Ts)
    (hs : structB P ty cs.size = true) (k : R (.returned (.agg cs)) w) : bodyPost P fn R .ret ⟨tmps, []⟩ w := by
  refine bodyPost_ret (v := .agg cs) ?_ rfl k
  have e : (asAddr (tmps.getD p undef)).run P w = .ok ⟨b, 0, none⟩ w := by rw [hp]; rfl
  rw [results_cell1 hr, e]
  simp only [Result.andThen]
  have := run_load_struct (i := 0) hs (Sep.block H hm) (by omega)
  simp only [Instr.loadAt, Instr.sureAddr, Sem.run_bind, Sem.run_pure, Result.andThen_ok] at this
  simp only [List.drop_zero] at this
  rw [List.take_of_length_le (by simp), Array.toArray_toList] at this
  exact this
end
end Go.Av
namespace Go.Av
open Go.RowKit
/-! ### regions that draw their order, where the reads come first and leave the world -/
section
variable {P : Program} {ops : Array Oper} {Q : Exit → Act → World → Prop} {md : Region.Mode} {S : World → Prop} {a a' A : Act} {w w0 : World} {Ts : List Thing} {rows : List (Value × Bs)}
  {dst : Option Tmp} {ty tyy : TypeId} {x : Operand} {pos : String} {aft : Array Edge} {g : Option (Nat × Bool)} {b i k : Nat} {cs : Array Value} {T : TypeId} {v : Value} {r : List (Nat × Bool)}
theorem yield_load (H : Hid (Sep w0 w Ts rows)) (ho : ops[k]? = some ⟨dst, .load ty x, tyy, pos, aft, g⟩) (hx : a.eval x = .pointer (some ⟨b, i, none⟩)) (hw : Region.wanted ⟨dst, .load ty x, tyy, pos, aft, g⟩ (yielded ops a.tmps) = true)
    (hs : scalarB P ty = true) (hm : ThCell b (.cells cs T (0, 0)) ∈ Ts) {tl : List Value} (hv : cs.toList.drop i = v :: tl) (ha : a' = a.put dst v) (hr : YieldAll P ops (fun W => W = w) r a' A) : YieldAll P ops (fun W => W = w) ((k, true) :: r) a A := by
  refine yieldL ho hw (fun W hW => ?_) ha hr
  subst hW
  unfold execOp
  dsimp only
  rw [hx]
  exact run_val (run_load_scalar hs (cell_of (Sep.block H hm) i (drop_cell hv)))
theorem yield_loadS (H : Hid (Sep w0 w Ts rows)) {n : Nat} (ho : ops[k]? = some ⟨dst, .load ty x, tyy, pos, aft, g⟩) (hx : a.eval x = .pointer (some ⟨b, i, none⟩)) (hw : Region.wanted ⟨dst, .load ty x, tyy, pos, aft, g⟩ (yielded ops a.tmps) = true)
    (hs : StructN P ty n) (hm : ThCell b (.cells cs T (0, 0)) ∈ Ts) (hn : Nat.ble (i + n) cs.size = true) (ha : a' = a.put dst (.agg ((cs.toList.drop i).take n).toArray)) (hr : YieldAll P ops (fun W => W = w) r a' A) : YieldAll P ops (fun W => W = w) ((k, true) :: r) a A := by
  refine yieldL ho hw (fun W hW => ?_) ha hr
  subst hW
  unfold execOp
  dsimp only
  rw [hx]
  exact run_val (run_load_struct hs.1 (Sep.block H hm) (Nat.le_of_ble_eq_true hn))
/-- One operation, the only one that may come up, not ahead of number N: S is asked no more. -/
theorem wpAnyM_last {N i : Nat} {o : Oper} {fuel : Nat} {listed : Array Bool} {a : Act} {w : World} (hN : Nat.ble N i = true) (hr : Region.ready md ops listed = [i]) (ho : ops[i]? = some o)
    (h : ∀ K : Act → World → Prop, (∀ a' w', wpAnyM P md ops Q S N fuel (listed.setIfInBounds i true) a' w' → K a' w') → wpList P ops (Exit.then K Q) [o] a w) : wpAnyM P md ops Q S N (fuel + 1) listed a w := by
  have hN := Nat.le_of_ble_eq_true hN
  refine ⟨fun h0 => (by rw [hr] at h0; cases h0), fun j hj => ?_⟩
  rw [hr] at hj
  obtain rfl : j = i := by simpa using hj
  have h := h (fun a' w' => (j < N → S w → S w') ∧ wpAnyM P md ops Q S N fuel (listed.setIfInBounds j true) a' w') (fun a' w' h2 => ⟨fun hlt => by omega, h2⟩)
  unfold wpList at h
  unfold wpOp
  simp only [ho]
  by_cases hw : Region.wanted o (yielded ops a.tmps) = true
  · rw [if_pos hw] at h ⊢
    rcases h with h | ⟨h1, h2⟩
    · refine .inl ?_
      unfold Oper.wp at h ⊢
      generalize (execOp a.eval o).run P w = r at h ⊢
      cases r with
      | ok n w' =>
        cases n <;> simp only [Oper.upon, wpList, Exit.then] at h ⊢
        case value => exact h
        case skip => exact h
        case defer => exact h
        case enter =>
          refine Calls.mono h fun e w'' he => ?_
          cases e with
          | returned v => exact he
          | panicked c => exact he
          | outgrown => exact he
        case row => exact h
      | halt x w' => cases x <;> simp only [Oper.upon, Exit.then] at h ⊢ <;> exact h
    · exact .inr ⟨h1, h2⟩
  · rw [if_neg hw] at h ⊢
    exact h
end
end Go.Av

/-
  Rows of elements of K cells each, in plain words.
-/
namespace Go.Av
open Go.RowKit
section
variable {α : Type} {f : α → List Value} {K : Nat}
theorem flatG_len (hf : ∀ x, (f x).length = K) (l : List α) : (l.flatMap f).length = l.length * K := by
  induction l with
  | nil => simp
  | cons e l ih => rw [List.flatMap_cons, List.length_append, ih, hf, List.length_cons, Nat.add_mul]; omega
theorem flatG_at (hf : ∀ x, (f x).length = K) : ∀ (l : List α) {p : Nat} (hp : p < l.length) {j : Nat}, j < K → (l.flatMap f)[p * K + j]? = (f l[p])[j]?
  | [], p, hp, _, _ => by simp at hp
  | e :: l, 0, _, j, hj => by
    rw [List.flatMap_cons, Nat.zero_mul, Nat.zero_add, List.getElem?_append_left (by rw [hf]; exact hj)]
    rfl
  | e :: l, p + 1, hp, j, hj => by
    have hp' : p < l.length := by simpa using hp
    rw [List.flatMap_cons, List.getElem?_append_right (by rw [hf, Nat.add_mul]; omega), hf, show (p + 1) * K + j - K = p * K + j by rw [Nat.add_mul]; omega, flatG_at hf l hp' hj]
    rfl
theorem flatG_take (hf : ∀ x, (f x).length = K) (hK : 0 < K) : ∀ (l : List α) (p : Nat), (l.flatMap f).take (p * K) = (l.take p).flatMap f
  | [], p => by simp
  | e :: l, 0 => by simp
  | e :: l, p + 1 => by
    rw [List.flatMap_cons, List.take_succ_cons, List.flatMap_cons, ← flatG_take hf hK l p, List.take_append, hf, List.take_of_length_le (by rw [hf, Nat.add_mul]; omega), show (p + 1) * K - K = p * K by rw [Nat.add_mul]; omega]
theorem flatG_drop (hf : ∀ x, (f x).length = K) (hK : 0 < K) : ∀ (l : List α) (p : Nat), (l.flatMap f).drop (p * K) = (l.drop p).flatMap f
  | [], p => by simp
  | e :: l, 0 => by simp
  | e :: l, p + 1 => by
    rw [List.flatMap_cons, List.drop_succ_cons, ← flatG_drop hf hK l p, List.drop_append, hf, List.drop_of_length_le (by rw [hf, Nat.add_mul]; omega), List.nil_append, show (p + 1) * K - K = p * K by rw [Nat.add_mul]; omega]
theorem flatG_set (hf : ∀ x, (f x).length = K) : ∀ (l : List α) {p : Nat} (hp : p < l.length) {j : Nat} (x' : α) (v : Value), j < K → f x' = (f l[p]).set j v → (l.set p x').flatMap f = (l.flatMap f).set (p * K + j) v
  | [], p, hp, _, _, _, _, _ => by simp at hp
  | e :: l, 0, _, j, x', v, hj, he => by
    rw [List.set_cons_zero, List.flatMap_cons, List.flatMap_cons, Nat.zero_mul, Nat.zero_add, List.set_append, if_pos (by rw [hf]; exact hj), he]
    rfl
  | e :: l, p + 1, hp, j, x', v, hj, he => by
    have hp' : p < l.length := by simpa using hp
    rw [List.set_cons_succ, List.flatMap_cons, List.flatMap_cons, List.set_append, if_neg (by rw [hf, Nat.add_mul]; omega), hf, show (p + 1) * K + j - K = p * K + j by rw [Nat.add_mul]; omega, flatG_set hf l hp' x' v hj he]
theorem flatG_one (h1 : ∀ x, ∀ u ∈ f x, u.oneCell' = true) (l : List α) : ∀ u ∈ l.flatMap f, u.oneCell' = true := by
  intro u hu
  obtain ⟨e, -, he⟩ := List.mem_flatMap.1 hu
  exact h1 e u he
end
theorem strK_eq (a b : ByteArray) : (a.toList == b.toList) = (a.data.toList == b.data.toList) := by rw [Lib.toList_data, Lib.toList_data]
theorem ownCellK {w : World} {size : Nat} {a : Option Addr} {n c : Nat} {xs : List Value} {D : List Nat} (h : OwnRow w size (.slice a n c) xs D) {i : Nat} {x : Value} (hx : xs[i]? = some x) :
    ∃ y : Addr, a = some y ∧ y.spot = none ∧ w.cell? (y.add i) = some x := by
  obtain ⟨a', n', c', hv, hl, hn, hc, ha, hr⟩ := h
  cases hv
  rcases hr with ⟨hc0, _⟩ | ⟨g, off, cur, T, h1, h2, h3, h4, h5⟩
  · have : i < xs.length := (List.getElem?_eq_some_iff.1 hx).1
    rw [hl] at this
    have : n = 0 := by omega
    subst this
    omega
  · refine ⟨⟨g, off, none⟩, h1, rfl, ?_⟩
    rw [Addr.add_lit, cell_of_row w g (off + i) cur T _ h3]
    rw [← h5, List.getElem?_take] at hx
    split at hx
    · rw [List.getElem?_drop] at hx; simpa using hx
    · cases hx
theorem Sep.rowSetK {w0 w : World} {R : List Thing} {rows : List (Value × Bs)} {size : Nat} {y : Addr} {n c : Nat} {xs : List Value} (h : Sep w0 w (ThRow size (.slice (some y) n c) xs :: R) rows) {i : Nat} (hi : i < n * size) (v : Value) :
    w.frozen? (y.add i) = false ∧ y.spot = none ∧ (∃ u, w.cell? (y.add i) = some u) ∧ Sep w0 (w.setCell (y.add i) v) (ThRow size (.slice (some y) n c) (xs.set i v) :: R) rows := by
  obtain ⟨D, hP, _, back⟩ := h.use
  obtain ⟨a', n', c', hv, hl, hn, hc, ha, hr⟩ := hP
  cases hv
  have hnc : n * size ≤ c * size := Nat.mul_le_mul_right _ hn
  rcases hr with ⟨hc0, _⟩ | ⟨g, off, cur, T, h1, h2, h3, h4, h5⟩
  · subst hc0
    obtain rfl : n = 0 := by omega
    omega
  · cases h1
    subst h2
    rw [Addr.add_lit]
    have hsz : off + i < cur.size := by omega
    refine ⟨frz_of h3 _, rfl, ⟨cur[off + i], by rw [cell_of_row w g (off + i) cur T _ h3]; exact Array.getElem?_eq_getElem hsz⟩, ?_⟩
    refine back _ [g] (ThRow size (.slice (some ⟨g, off, none⟩) n c) (xs.set i v)) (Upd.set1 _ _ _ _ (by simp)) ⟨_, n, c, rfl, by simpa using hl, hn, hc, ha, .inr ⟨g, off, _, T, rfl, rfl, heap_setCell_same w g (off + i) cur T v h3, by simpa using h4, ?_⟩⟩
    rw [← h5, Array.toList_setIfInBounds]
    apply List.ext_getElem?
    intro k
    simp only [List.getElem?_take, List.getElem?_drop, List.getElem?_set, List.length_take, List.length_drop, Array.length_toList, Array.getElem?_toList]
    have hm : i < min (n * size) (cur.size - off) := by omega
    by_cases hki : i = k
    · subst hki
      simp [hi, hsz, hm]
    · have : ¬ off + i = off + k := by omega
      simp [hki]
theorem spotK_of {w : World} {x : Addr} {v : Value} (h : w.cell? x = some v) : x.spot = none := by
  cases hs : x.spot with
  | none => rfl
  | some _ =>
    unfold World.cell? at h
    split at h <;> simp [hs] at h
theorem addK_field {w : World} {x : Addr} {k : Nat} {v : Value} (h : w.cell? (x.add k) = some v) (j : Nat) : x.add (k + j) = ⟨(x.add k).block, (x.add k).off + j, none⟩ := by
  have h1 := spotK_of h
  rw [← Go.Deep.add_add]
  generalize x.add k = y at h1 ⊢
  obtain ⟨b, o, sp⟩ := y
  simp only at h1
  subst h1
  exact Addr.add_lit b o j
theorem ReadRow.takeK {w : World} {size : Nat} {a : Option Addr} {n c : Nat} {xs : List Value} {D : List Nat} (h : ReadRow w size (.slice a n c) xs D) {k : Nat} (hk : k ≤ n) : ReadRow w size (.slice a k c) (xs.take (k * size)) D := by
  obtain ⟨a', n', c', hv, hl, hn, hc, ha, hr⟩ := h
  cases hv
  have hle : k * size ≤ n * size := Nat.mul_le_mul_right _ hk
  refine ⟨a, k, c, rfl, by rw [List.length_take, hl]; omega, by omega, hc, ha, ?_⟩
  rcases hr with ⟨rfl, h2⟩ | ⟨g, off, h1, h2, h3, h4⟩
  · exact .inl ⟨by simp, h2⟩
  · refine .inr ⟨g, off, h1, h2, h3, fun i x hx => h4 i x ?_⟩
    rw [List.getElem?_take] at hx
    split at hx
    · exact hx
    · cases hx
/-- A new row of one element. -/
theorem one_new (w : World) (K : Nat) (hK : 0 < K) (cs : Array Value) (hc : cs.size = K) (T : TypeId) : ReadRow (w.alloc (.cells cs T (0, 0))) K (.slice (some ⟨w.heap.size, 0, none⟩) 1 1) cs.toList [w.heap.size] :=
  ⟨_, 1, 1, rfl, by simp [hc], Nat.le_refl _, by decide, by simp, .inr ⟨w.heap.size, 0, rfl, rfl, by simp, fun i x hx => by
    have hh : (w.alloc (.cells cs T (0, 0))).heap[w.heap.size]? = some (.cells cs T (0, 0)) := heap_alloc_new w _
    rw [cell_of_row _ _ _ _ _ _ hh]
    simpa using hx⟩⟩
end Go.Av

/-
  The walk by things: slices made, read, appended to.
-/
namespace Go.Av
open Go.RowKit
/-- A thing out of a list. -/
inductive Rem (T : Thing) : List Thing → List Thing → Prop
  | here {R : List Thing} : Rem T (T :: R) R
  | there {U : Thing} {R R' : List Thing} : Rem T R R' → Rem T (U :: R) (U :: R')
theorem Rem.perm {T : Thing} {A B : List Thing} (h : Rem T A B) : A.Perm (T :: B) := by
  induction h with
  | here => exact .refl _
  | there _ ih => exact (ih.cons _).trans (.swap _ _ _)
section
variable {w0 w : World} {R Ts : List Thing} {rows : List (Value × Bs)} {P : Program}
/-- A new row of the pool's, which others made. -/
theorem Sep.poolRead {K : Nat} {v : Value} {xs : List Value} {w' : World} {E : List Nat} {Q : List PRow} (h : Sep w0 w (ThPool w0 Q :: R) rows) (hr : ReadRow w' K v xs E) (hE : ∀ b ∈ E, w.heap.size ≤ b) (hu : Upd w w' [] []) : Sep w0 w' (ThPool w0 ((K, v, xs) :: Q) :: R) rows := by
  obtain ⟨D, hP, _, back⟩ := h.use
  refine back w' (E ++ D) (ThPool w0 ((K, v, xs) :: Q)) ?_ ⟨fun b hb => ?_, fun r hr' => ?_⟩
  · refine ⟨hu.os, hu.tape, hu.output, hu.size, fun b hb hn => hu.keep b hb (by simp), fun b hb => ?_⟩
    · rcases List.mem_append.1 hb with hb | hb
      · exact .inr ⟨hE b hb, hr.lt b hb⟩
      · exact .inl hb
  · rcases List.mem_append.1 hb with hb | hb
    · exact hr.lt b hb
    · exact Nat.lt_of_lt_of_le (hP.1 b hb) hu.size
  · rcases List.mem_cons.1 hr' with rfl | hr'
    · exact .inl ⟨E, hr, fun b hb => by simp [hb]⟩
    · rcases hP.2 r hr' with ⟨F, h1, h2⟩ | h1
      · exact .inl ⟨F, h1.frame (hu.same h1.lt (by simp)), fun b hb => by simp [h2 b hb]⟩
      · exact .inr h1
theorem row_load {α : Type} {f : α → List Value} {K n c off g i : Nat} {l : List α} {E : List Nat} {ty : TypeId} (h : ReadRow w K (.slice (some ⟨g, off, none⟩) n c) (l.flatMap f) E) (hf : ∀ x, (f x).length = K) (hs : StructN P ty K) (hi : i < l.length) :
    (Instr.loadAt ty (.pointer (some ⟨g, off + i * K, none⟩))).run P w = .ok (.agg (f l[i]).toArray) w := by
  obtain ⟨a', n', c', hv, hl, hn, hc, ha, hr⟩ := h
  cases hv
  have h1 := hs.1
  unfold structB at h1
  rw [Bool.and_eq_true] at h1
  obtain ⟨h1, h2⟩ := h1
  cases hi0 : P.info? ty with
  | none => simp [hi0] at h2
  | some ii =>
    simp only [hi0, beq_iff_eq] at h2
    cases hu : P.underlying ty with
    | none => simp [hu] at h1
    | some d =>
      refine run_loadAt_mid w g (off + i * K) ty _ d (fun j v hv => ?_) hu (by rw [hu] at h1; cases d <;> simp_all) (by rw [hi0, hf]; simpa using h2)
      have hj : j < K := by rw [← hf l[i]]; exact (List.getElem?_eq_some_iff.1 hv).1
      have hq := flatG_at hf l hi hj
      rw [hv] at hq
      rcases hr with ⟨h0, _⟩ | ⟨g', off', e, rfl, hlt, hcell⟩
      · rw [h0] at hq; cases hq
      · injection e with e
        injection e with e1 e2
        subst e1 e2
        rw [Nat.add_assoc]
        exact hcell _ _ hq
theorem row_load1 {n c off g i : Nat} {xs : List Value} {v : Value} {E : List Nat} {ty : TypeId} (h : ReadRow w 1 (.slice (some ⟨g, off, none⟩) n c) xs E) (hs : scalarB P ty = true) (hv : xs[i]? = some v) :
    (Instr.loadAt ty (.pointer (some ⟨g, off + i, none⟩))).run P w = .ok v w := by
  obtain ⟨a', n', c', e, hl, hn, hc, ha, hr⟩ := h
  cases e
  rcases hr with ⟨rfl, _⟩ | ⟨g', off', e, rfl, hlt, hcell⟩
  · cases hv
  · injection e with e
    injection e with e1 e2
    subst e1 e2
    exact run_load_scalar hs (hcell i v hv)
/-- A row that is not empty lies somewhere. -/
theorem ReadRow.some {K : Nat} {v : Value} {xs : List Value} {E : List Nat} (h : ReadRow w K v xs E) : ∃ a n c, v = .slice a n c ∧ xs.length = n * K ∧ n ≤ c ∧ c ≤ maxLen ∧ (xs ≠ [] → ∃ g off, a = some ⟨g, off, none⟩) := by
  obtain ⟨a, n, c, hv, hl, hn, hc, ha, hr⟩ := h
  refine ⟨a, n, c, hv, hl, hn, hc, fun hne => ?_⟩
  rcases hr with ⟨h0, _⟩ | ⟨g, off, e, _⟩
  · exact absurd h0 hne
  · exact ⟨g, off, e⟩
end
section
variable {P : Program} {ops : Array Oper} {Q : Exit → Act → World → Prop} {a : Act} {w w0 : World} {rest : List Oper} {Ts Ts' : List Thing} {rows : List (Value × Bs)}
  {dst : Option Tmp} {ty tyy t e : TypeId} {x y s : Operand} {pos : String} {aft : Array Edge} {g : Option (Nat × Bool)} {b i : Nat} {cs : Array Value} {T : TypeId} {v p : Value}
theorem sx_loadAt (hr : (Instr.loadAt ty p).run P w = .ok v w) (hx : a.eval x = p) (hw : Region.wanted ⟨dst, .load ty x, tyy, pos, aft, g⟩ (yielded ops a.tmps) = true) (k : wpList P ops Q rest (a.put dst v) w) : wpList P ops Q (⟨dst, .load ty x, tyy, pos, aft, g⟩ :: rest) a w := by
  refine wpList_ran hw ?_ k
  unfold execOp
  dsimp only
  rw [hx]
  exact run_val hr
/-- What the element type of a slice is. -/
structure SliceN (P : Program) (t e : TypeId) (K by_ : Nat) : Prop where
  ut : P.underlying t = some (.slice e)
  info : ∃ i z, P.info? e = some i ∧ i.zero = some z ∧ i.size = K ∧ z.cells.size = K ∧ i.bytes = by_
def sliceB (P : Program) (e : TypeId) (K by_ : Nat) : Bool := match P.info? e with
  | some i => (match i.zero with | some z => z.cells.size == K | none => false) && (i.size == K && i.bytes == by_)
  | none => false
theorem SliceN.of {P : Program} {t e : TypeId} {K by_ : Nat} (ut : P.underlying t = some (.slice e)) (h : sliceB P e K by_ = true) : SliceN P t e K by_ := by
  refine ⟨ut, ?_⟩
  unfold sliceB at h
  cases hi : P.info? e with
  | none => simp [hi] at h
  | some i =>
    cases hz : i.zero with
    | none => simp [hi, hz] at h
    | some z =>
      simp only [hi, hz, Bool.and_eq_true, beq_iff_eq] at h
      exact ⟨i, z, rfl, hz, h.2.1, h.1, h.2.2⟩
theorem fold_fill : ∀ (l : List Value) (k : Nat) (cs : Array Value), k + l.length ≤ cs.size → ((l.zipIdx k).foldl (fun cs (q : Value × Nat) => cs.setIfInBounds q.2 q.1) cs) = setMany cs k l
  | [], _, _, _ => rfl
  | v :: l, k, cs, h => by
    simp only [List.length_cons] at h
    rw [List.zipIdx_cons, List.foldl_cons, fold_fill l (k + 1) _ (by simp; omega)]
    rfl
theorem fill_one {K : Nat} {cells : Array Value} {v : Value} (hc : cells.size = K) (hv : v.cells.size = K) : Instr.fill (fun i => some (i * K, K)) cells [(0, v)] = some v.cells := by
  unfold Instr.fill
  simp only [Nat.zero_mul, Nat.zero_add]
  rw [if_neg (by simp [hv, hc])]
  unfold Instr.fill
  congr 1
  rw [← Array.foldl_toList, Array.toList_zipIdx]
  have := fold_fill v.cells.toList 0 cells (by simp [hv, hc])
  rw [this, setMany_eq _ _ _ (by simp [hv, hc])]
  have h0 : cells.toList.drop K = [] := List.drop_of_length_le (by simp [hc])
  simp [hv, h0]
theorem sx_one (H : Hid (Sep w0 w Ts rows)) {K by_ : Nat} (hsl : SliceN P t e K by_) (hK : Nat.blt 0 K = true ∧ Nat.ble K 1000 = true) (hy : a.eval y = v) (hvc : v.cells = cs) (hcs : cs.size = K)
    (k : ∀ w' b, Hid (Sep w0 w' (ThCell b (.cells cs e (0, 0)) :: Ts) rows) → wpList P ops Q rest (a.put dst (.slice (some ⟨b, 0, none⟩) 1 1)) w') : wpList P ops Q (⟨dst, .buildSlice t 1 #[(0, y)], tyy, pos, aft, none⟩ :: rest) a w := by
  obtain ⟨ii, z, hi, hz, hsz, hzs, -⟩ := hsl.info
  have h1 : 0 < K := by have := hK.1; simpa using this
  have h2 : K ≤ 1000 := Nat.le_of_ble_eq_true hK.2
  refine Go.Great.wpList_buildSliceTo rfl t e 1 #[(0, y)] rfl w.heap.size rfl dst rfl hsl.ut cs ?_ (k _ _ (Lib.hid (H.out.newCell _)))
  unfold Program.builtSlice
  simp only [hi, hz, hsz, Nat.one_mul]
  rw [if_neg (by omega)]
  have := fill_one (K := K) (cells := (Array.range K).map (z.cells[· % z.cells.size]!)) (v := v) (by simp) (by rw [hvc, hcs])
  rw [hvc] at this
  rw [← this]
  simp [hy]
theorem src_cell (H : Hid (Sep w0 w Ts rows)) {K by_ : Nat} {tx : TypeId} (hsl : SliceN P tx e K by_) (hm : ThCell b (.cells cs T (0, 0)) ∈ Ts) (hcs : cs.size = K) (h1 : cs.toList.all (·.oneCell') = true) : Src P K tx (.slice (some ⟨b, 0, none⟩) 1 1) 1 cs.toList w := by
  refine Src.ofSlice _ hsl.ut _ 1 1 cs.toList (by simp [hcs]) (fun j u hu => ?_) (fun u hu => List.all_eq_true.1 h1 u hu)
  rw [Addr.add_lit, Nat.zero_add]
  exact cell_of (Sep.block H hm) j (by simpa using hu)
theorem sx_oneS (H : Hid (Sep w0 w Ts rows)) {K by_ : Nat} (hsl : SliceN P t e K by_) (hK : Nat.blt 0 K = true ∧ Nat.ble K 1000 = true) (hy : a.eval y = .agg cs) (hcs : cs.size = K)
    (k : ∀ w' b, Hid (Sep w0 w' (ThCell b (.cells cs e (0, 0)) :: Ts) rows) → wpList P ops Q rest (a.put dst (.slice (some ⟨b, 0, none⟩) 1 1)) w') : wpList P ops Q (⟨dst, .buildSlice t 1 #[(0, y)], tyy, pos, aft, none⟩ :: rest) a w := sx_one H hsl hK hy rfl hcs k
theorem sx_one1 (H : Hid (Sep w0 w Ts rows)) {by_ : Nat} (hsl : SliceN P t e 1 by_) (hy : a.eval y = v) (hc : v.cells = #[v])
    (k : ∀ w' b, Hid (Sep w0 w' (ThCell b (.cells #[v] e (0, 0)) :: Ts) rows) → wpList P ops Q rest (a.put dst (.slice (some ⟨b, 0, none⟩) 1 1)) w') : wpList P ops Q (⟨dst, .buildSlice t 1 #[(0, y)], tyy, pos, aft, none⟩ :: rest) a w := sx_one H hsl ⟨rfl, rfl⟩ hy hc rfl k
/-- append onto a row that is owned; the new row is laid ahead of all. -/
theorem sx_app (H : Hid (Sep w0 w Ts rows)) {K by_ : Nat} {tx : TypeId} {xs news : List Value} {xv : Value} {m : Nat} {av : Option Addr} {nv cv : Nat} (hsl : SliceN P t e K by_) (hs : a.eval s = .slice av nv cv) (hx : a.eval x = xv) (hr : Rem (ThRow K (.slice av nv cv) xs) Ts Ts') (hsrc : Src P K tx xv m news w)
    (hb : ∀ n, xs.length = n * K → (n + m) ≤ 140737488355328 ∧ (n + m) * by_ ≤ 140737488355328)
    (k : ∀ w' a' n' c', Hid (Sep w0 w' (ThRow K (.slice a' n' c') (xs ++ news) :: Ts') rows) → wpList P ops Q rest (a.put dst (.slice a' n' c')) w') :
    wpList P ops Q (⟨dst, .call { callee := .builtin .append, args := #[s, x], argTypes := #[t, tx] }, tyy, pos, aft, none⟩ :: rest) a w := by
  obtain ⟨ii, z, hi, hz, hsz, hzs, hby⟩ := hsl.info
  have h0 : Sep w0 w (ThRow K (.slice av nv cv) xs :: Ts') rows := H.out.perm hr.perm
  obtain ⟨D, hP, _, back⟩ := h0.use
  refine wpList_app rfl s x t tx rfl K (.slice av nv cv) xs D hs hP e ii z hsl.ut hi hz hsz hzs xv m news hx hsrc (by rw [hby]; exact hb) (fun a' n' c' w' D' ho hu => k w' a' n' c' (Lib.hid (back w' D' (ThRow K (.slice a' n' c') (xs ++ news)) hu ho)))
/-- append of one element that was just made. -/
theorem sx_app1 (H : Hid (Sep w0 w Ts rows)) {K by_ : Nat} {xs : List Value} {av : Option Addr} {nv cv : Nat} (hsl : SliceN P t e K by_) (hs : a.eval s = .slice av nv cv) (hx : a.eval x = .slice (some ⟨b, 0, none⟩) 1 1) (hr : Rem (ThRow K (.slice av nv cv) xs) Ts Ts') (hm : ThCell b (.cells cs T (0, 0)) ∈ Ts)
    (hcs : cs.size = K) (h1 : cs.toList.all (·.oneCell') = true) (hb : ∀ n, xs.length = n * K → (n + 1) ≤ 140737488355328 ∧ (n + 1) * by_ ≤ 140737488355328)
    (k : ∀ w' a' n' c', Hid (Sep w0 w' (ThRow K (.slice a' n' c') (xs ++ cs.toList) :: Ts') rows) → wpList P ops Q rest (a.put dst (.slice a' n' c')) w') :
    wpList P ops Q (⟨dst, .call { callee := .builtin .append, args := #[s, x], argTypes := #[t, t] }, tyy, pos, aft, none⟩ :: rest) a w :=
  sx_app H hsl hs hx hr (src_cell H hsl hm hcs h1) hb k
end
section
variable {P : Program} {fn : Func} {R : Ending → World → Prop} {w w0 : World} {tmps : Array Value} {Ts : List Thing} {rows : List (Value × Bs)}
theorem sx_ret2 {p u : Tmp} {ty : TypeId} {b : Nat} {cs : Array Value} {T : TypeId} (H : Hid (Sep w0 w Ts rows)) (hr : fn.results = #[.cell p ty, .tmp u]) (hp : tmps.getD p undef = .pointer (some ⟨b, 0, none⟩)) (hm : ThCell b (.cells cs T (0, 0)) ∈ Ts)
    (hs : structB P ty cs.size = true) (k : R (.returned (.tuple #[.agg cs, tmps.getD u undef])) w) : bodyPost P fn R .ret ⟨tmps, []⟩ w := by
  refine bodyPost_ret (v := .tuple #[.agg cs, tmps.getD u undef]) ?_ rfl k
  have e : (asAddr (tmps.getD p undef)).run P w = .ok ⟨b, 0, none⟩ w := by rw [hp]; rfl
  rw [results_cell_tmp hr, e]
  simp only [Result.andThen]
  have := run_load_struct (i := 0) hs (Sep.block H hm) (by omega)
  simp only [Instr.loadAt, Instr.sureAddr, Sem.run_bind, Sem.run_pure, Result.andThen_ok] at this
  simp only [List.drop_zero] at this
  rw [List.take_of_length_le (by simp), Array.toArray_toList] at this
  rw [this]
end
end Go.Av

/-
  The types' sizes and first values, as the walk by things asks them.
-/
namespace Go.Proofs.YtjeaoopamebgjaaGreatDoor
open Go.RowKit Go.Av
theorem sn_op : StructN Tryz.prog 36 5 := ⟨by kernel_rfl⟩
theorem sn_res : StructN Tryz.prog 33 11 := ⟨by kernel_rfl⟩
theorem sn_stat : StructN Tryz.prog 31 7 := ⟨by kernel_rfl⟩
theorem sn_node : StructN Tryz.prog 51 10 := ⟨by kernel_rfl⟩
theorem sn_reply : StructN Tryz.prog 41 5 := ⟨by kernel_rfl⟩
theorem sn_req : StructN Tryz.prog 65 3 := ⟨by kernel_rfl⟩
theorem sn_tree : StructN Tryz.prog 81 2 := ⟨by kernel_rfl⟩
theorem z_op : zeroB Tryz.prog 36 #[.int .i64 0, .string ⟨#[]⟩, .string ⟨#[]⟩, .int .i64 0, .int .i64 0] := by unfold zeroB; kernel_rfl
theorem z_res : zeroB Tryz.prog 33 #[.int .i64 0, .string ⟨#[]⟩, .string ⟨#[]⟩, .slice none 0 0, .int .i64 0, .int .i64 0, .int .i64 0, .int .i64 0, .int .i64 0, .int .i64 0, .int .i64 0] := by unfold zeroB; kernel_rfl
theorem z_node : zeroB Tryz.prog 51 #[.int .i64 0, .int .i64 0, .int .i64 0, .int .i64 0, .int .i64 0, .int .i64 0, .int .i64 0, .string ⟨#[]⟩, .int .i64 0, .slice none 0 0] := by unfold zeroB; kernel_rfl
theorem z_reply : zeroB Tryz.prog 41 #[.int .i64 0, .int .i64 0, .int .i64 0, .int .i64 0, .slice none 0 0] := by unfold zeroB; kernel_rfl
theorem z_req : zeroB Tryz.prog 65 #[.int .i64 0, .int .i64 0, .slice none 0 0] := by unfold zeroB; kernel_rfl
theorem sl_str : SliceN Tryz.prog 29 9 1 16 := .of Tryz.underlying29 (by kernel_rfl)
theorem sl_res : SliceN Tryz.prog 39 33 11 120 := .of Tryz.underlying39 (by kernel_rfl)
theorem sl_op : SliceN Tryz.prog 22 36 5 56 := .of Tryz.underlying22 (by kernel_rfl)
end Go.Proofs.YtjeaoopamebgjaaGreatDoor

/-
  A tree, opened: its cell, its map, one node, all the others as one thing; and closed again.
-/
namespace Go.Av
open Go.RowKit
/-- Some things as one. -/
def ThL (N : List Thing) : Thing := Bun (fun L => L = N)
section
variable {w0 w : World} {R N : List Thing} {rows : List (Value × Bs)}
theorem Sep.opensL (h : Sep w0 w (ThL N :: R) rows) : Sep w0 w (N ++ R) rows := by
  obtain ⟨L, hL, h'⟩ := h.opens
  subst hL
  exact h'
theorem Sep.shutL (h : Sep w0 w (N ++ R) rows) : Sep w0 w (ThL N :: R) rows := Sep.shut (O := fun L => L = N) rfl h
end
theorem mid_perm (A N R : List Thing) : (A ++ (N ++ R)).Perm (N ++ (A ++ R)) := by
  rw [← List.append_assoc, ← List.append_assoc]
  exact List.perm_append_comm.append_right R
theorem setT_same {p : Bs} {n : NodeS} {l : NoL} (hn : (l.map (·.1)).Nodup) (h : lookT p l = some n) : setT p n l = l := by
  unfold setT
  conv => rhs; rw [← List.map_id l]
  apply List.map_congr_left
  intro e he
  by_cases hp : e.1 = p
  · rw [if_pos hp]
    have h1 : (p, e.2) ∈ l := by rw [← hp]; exact he
    have h2 := (look_mem hn).2 h1
    rw [h] at h2
    injection h2 with h2
    subst h2
    rfl
  · rw [if_neg hp]; rfl
end Go.Av
namespace Go.Proofs.YtjeaoopamebgjaaGreatDoor
open Go.RowKit Go.Av
section
variable {w0 w : World} {t : Nat} {S : TreeS} {P P' : List PRow} {R : List Thing} {rows : List (Value × Bs)}
abbrev thTree (t m : Nat) (room : Int) : Thing := ThCell t (.cells #[.int .i64 room, .map (some m)] 81 (0, 0))
abbrev thNode (x : Nat) (n : NodeS) (nv : Value) : Thing := ThCell x (.cells (n.cells nv) 51 (0, 0))
/-- A tree opened at one path's node. -/
theorem tree_at (h : Sep w0 w (ThTree t S P :: R) rows) {p : Bs} {n : NodeS} (hl : lookT p S.l = some n) :
    ∃ m x nv kvs N, (1, nv, n.names.map sv) ∈ P ∧ (sv p, Value.pointer (some ⟨x, 0, none⟩)) ∈ kvs ∧ Sep w0 w (thNode x n nv :: thTree t m S.room :: ThMap .string m kvs :: ThL N :: R) rows ∧
      ∀ w' n' nv' P' R', (∀ r ∈ P, r ∈ P') → (1, nv', n'.names.map sv) ∈ P' → Sep w0 w' (thNode x n' nv' :: thTree t m S.room :: ThMap .string m kvs :: ThL N :: R') rows → Sep w0 w' (ThTree t { S with l := setT p n' S.l } P' :: R') rows := by
  obtain ⟨L, ⟨m, gs, rfl, h1, h2, h3⟩, hS⟩ := h.opens
  have hm := (look_mem (rise_nodup h2)).1 hl
  obtain ⟨g, hg, he⟩ := List.mem_map.1 (h1.mem_iff.2 hm)
  obtain ⟨l1, l2, rfl⟩ := List.append_of_mem hg
  obtain ⟨hk1, hk2⟩ := Prod.mk.inj he
  have hk1 : g.key = p := hk1
  have hk2 : g.n = n := hk2
  subst hk1 hk2
  have hnd := keys_nodup h1 h2
  have e : ∀ (g : NodeG) (R : List Thing), (NodeG.th g :: thTree t m S.room :: ThMap .string m ((l1 ++ g :: l2).map NodeG.kv) :: ((l1 ++ l2).map NodeG.th ++ R)).Perm (trTh t m S.room (l1 ++ g :: l2) ++ R) := fun g R => by
    unfold trTh
    exact (perm_out [thTree t m S.room, ThMap .string m ((l1 ++ g :: l2).map NodeG.kv)] l1 l2 g R).symm
  refine ⟨m, g.blk, g.nv, (l1 ++ g :: l2).map NodeG.kv, (l1 ++ l2).map NodeG.th, h3 g hg, List.mem_map.2 ⟨g, hg, rfl⟩, ?_, fun w' n' nv' P' R' hP hnv hS' => ?_⟩
  · have h5 := hS.perm (e g R).symm
    exact (Sep.shutL (N := (l1 ++ l2).map NodeG.th) (h5.perm (mid_perm [NodeG.th g, thTree t m S.room, ThMap .string m ((l1 ++ g :: l2).map NodeG.kv)] _ R))).perm (List.perm_middle (l₁ := [_, _, _])).symm
  · refine Sep.shut (O := TrO t { S with l := setT g.key n' S.l } P') (L := trTh t m S.room (l1 ++ ⟨g.blk, g.key, n', nv'⟩ :: l2)) ⟨m, _, rfl, ?_, setT_rise h2, fun x hx => ?_⟩ ?_
    · rw [set_ent (g := g) (g' := ⟨g.blk, g.key, n', nv'⟩) rfl hnd]
      exact h1.map _
    · rcases List.mem_append.1 hx with hx | hx
      · exact hP _ (h3 x (by simp [hx]))
      · rcases List.mem_cons.1 hx with rfl | hx
        · exact hnv
        · exact hP _ (h3 x (by simp [hx]))
    · have h6 := (hS'.perm (List.perm_middle (l₁ := [_, _, _]))).opensL
      have h7 : Sep w0 w' (thNode g.blk n' nv' :: thTree t m S.room :: ThMap .string m ((l1 ++ g :: l2).map NodeG.kv) :: ((l1 ++ l2).map NodeG.th ++ R')) rows := h6.perm (mid_perm [_, _, _] _ R').symm
      have hkv : (l1 ++ (⟨g.blk, g.key, n', nv'⟩ : NodeG) :: l2).map NodeG.kv = (l1 ++ g :: l2).map NodeG.kv := by simp [NodeG.kv]
      have h9 := e ⟨g.blk, g.key, n', nv'⟩ R'
      rw [hkv] at h9
      exact h7.perm h9
/-- A tree opened, where a path has no node. -/
theorem tree_off (h : Sep w0 w (ThTree t S P :: R) rows) {p : Bs} (hl : lookT p S.l = none) :
    ∃ m kvs N, (∀ e ∈ kvs, e.1 ≠ sv p) ∧ Sep w0 w (thTree t m S.room :: ThMap .string m kvs :: ThL N :: R) rows ∧
      ∀ w' P' R', (∀ r ∈ P, r ∈ P') → Sep w0 w' (thTree t m S.room :: ThMap .string m kvs :: ThL N :: R') rows → Sep w0 w' (ThTree t S P' :: R') rows := by
  obtain ⟨L, ⟨m, gs, rfl, h1, h2, h3⟩, hS⟩ := h.opens
  refine ⟨m, gs.map NodeG.kv, gs.map NodeG.th, fun q hq e => ?_, ?_, fun w' P' R' hP hS' => ?_⟩
  · obtain ⟨g, hg, rfl⟩ := List.mem_map.1 hq
    exact look_not.1 hl g.ent (h1.mem_iff.1 (List.mem_map_of_mem hg)) (sv_inj e)
  · refine (Sep.shutL (N := gs.map NodeG.th) (R := thTree t m S.room :: ThMap .string m (gs.map NodeG.kv) :: R) (hS.perm ?_)).perm (List.perm_middle (l₁ := [_, _])).symm
    exact mid_perm [_, _] _ R
  · refine Sep.shut (O := TrO t S P') (L := trTh t m S.room gs) ⟨m, gs, rfl, h1, h2, fun g hg => hP _ (h3 g hg)⟩ ?_
    have h6 := (hS'.perm (List.perm_middle (l₁ := [_, _]))).opensL
    exact h6.perm (mid_perm [_, _] _ R').symm
/-- What a look-up tells. -/
theorem look_hit {Ts : List Thing} {m x : Nat} {kvs : List (Value × Value)} (H : Hid (Sep w0 w Ts rows)) (s : ByteArray) (hm : ThMap .string m kvs ∈ Ts) (hk : (sv s.data.toList, Value.pointer (some ⟨x, 0, none⟩)) ∈ kvs) :
    (Instr.lookup 79 (.map (some m)) (.string s) false).run Tryz.prog w = .ok (.pointer (some ⟨x, 0, none⟩)) w := by
  obtain ⟨E, hM, -⟩ := H.out.has hm
  exact mp_look hM Tryz.underlying79 Tryz.underlying9 (key := .string s) trivial hk false
theorem look_miss {Ts : List Thing} {m : Nat} {kvs : List (Value × Value)} (H : Hid (Sep w0 w Ts rows)) (s : ByteArray) (hm : ThMap .string m kvs ∈ Ts) (hk : ∀ e ∈ kvs, e.1 ≠ sv s.data.toList) :
    (Instr.lookup 79 (.map (some m)) (.string s) false).run Tryz.prog w = .ok (.pointer none) w := by
  obtain ⟨E, hM, -⟩ := H.out.has hm
  exact mp_lookN hM Tryz.underlying79 Tryz.underlying9 (key := .string s) trivial hk (zeroNode _) false
/-- A key's value is another one. -/
theorem Sep.mapSet {m : Nat} {k1 k2 : List (Value × Value)} {key u v : Value} (h : Sep w0 w (ThMap .string m (k1 ++ (key, u) :: k2) :: R) rows) (hkey : MapKept.IsKey .string key) :
    ∃ w', (Instr.mapUpdate 79 (.map (some m)) key v).run Tryz.prog w = .ok () w' ∧ Sep w0 w' (ThMap .string m (k1 ++ (key, v) :: k2) :: R) rows := by
  obtain ⟨w', hrun, hM, hU⟩ := mp_old (P := Tryz.prog) (v := v) h.mapIs Tryz.underlying79 Tryz.underlying9 hkey
  exact ⟨w', hrun, h.mapTo hU hM⟩
end
end Go.Proofs.YtjeaoopamebgjaaGreatDoor

/-
  A tree: the walk of change .
-/
namespace Go.Av
/-- A delete, a set, a check. -/
def changeT (S : TreeS) (o : OpS) (zxid : Int) : ResS × TreeS := match lookT o.p S.l with
  | none => (failS 4, S)
  | some n =>
    if wrongS o n = true then (failS 6, S)
    else if o.kind = 2 ∧ 0 < n.names.length then (failS 7, S)
    else if o.kind = 2 then (⟨0, o.path, ⟨#[]⟩, [], noSt⟩, { S with l := remT o.p S.l })
    else if o.kind = 3 then (⟨0, o.path, ⟨#[]⟩, [], (writeS n zxid o.data).st⟩, { S with l := setT o.p (writeS n zxid o.data) S.l })
    else (⟨0, o.path, ⟨#[]⟩, [], noSt⟩, S)
end Go.Av
namespace Go.Proofs.YtjeaoopamebgjaaGreatDoor
open Go.RowKit Go.Av
section
variable {w0 w : World} {t : Nat} {S : TreeS} {P P' : List PRow} {R : List Thing} {rows : List (Value × Bs)}
theorem res_nil {S' : TreeS} {r : ResS} (hr : r.names = []) (h : Sep w0 w (ThPool w0 P :: ThTree t S' P :: R) rows) : ResPost w0 t S' P R rows r (.returned (.agg (r.cells (.slice none 0 0)))) w :=
  ⟨.slice none 0 0, (1, .slice none 0 0, []) :: P, rfl, fun q hq => List.mem_cons_of_mem _ hq, by rw [hr]; exact List.mem_cons_self .., (tree_mono ((h.poolNil 1).perm (List.Perm.swap _ _ _)) (P' := (1, .slice none 0 0, []) :: P) (fun q hq => List.mem_cons_of_mem _ hq)).perm (List.Perm.swap _ _ _)⟩
set_option maxRecDepth 100000 in
set_option maxHeartbeats 4000000 in
theorem change_any (h : Sep w0 w (ThPool w0 P :: ThTree t S P :: R) rows) (hd : DoorN w0) (o : OpS) (hp : o.path.size ≤ 100000) (hdt : o.data.size ≤ 100000) (zxid : Int) (only : Bool) (hok : ∀ e ∈ S.l, NodeOk e.2) :
    Calls Tryz.prog 57 #[.pointer (some ⟨t, 0, none⟩), o.val, .int .i64 zxid, .bool only] w (ResPost w0 t (if only then S else (changeT S o zxid).2) P R rows (changeT S o zxid).1) := by
  have HND := Lib.hid (tree_rise (h.perm (List.Perm.swap _ _ _)))
  obtain ⟨kind, path, data, ver, flags⟩ := o
  unfold OpS.val
  dsimp only at hp hdt ⊢
  have hsw : Sep w0 w (ThTree t S P :: ThPool w0 P :: R) rows := h.perm (List.Perm.swap _ _ _)
  obtain ⟨rr, hrr⟩ : ∃ rr, changeT S ⟨kind, path, data, ver, flags⟩ zxid = rr := ⟨_, rfl⟩
  rw [hrr]
  obtain ⟨S', hS'⟩ : ∃ S', (if only = true then S else rr.2) = S' := ⟨_, rfl⟩
  rw [hS']
  have HS' := Lib.hid hS'
  clear hS' h
  cases hlk : lookT path.data.toList S.l with
  | none =>
    have HE := Lib.hid (show rr = (failS 4, S) by rw [← hrr]; unfold changeT OpS.p; simp only [hlk])
    obtain ⟨m, kvs, N, hk, hS, back⟩ := tree_off hsw hlk
    have HX := Lib.hid hS
    have HB := Lib.hid back
    have HK := Lib.hid hk
    clear hk hS back hlk hsw hrr
    go_enter Tryz.func57, Tryz.ntmps57
    go_wp2_with (first | (refine sx_loadS HX rfl rfl (by (first | exact sn_op | exact sn_res | exact sn_stat | exact sn_node | exact sn_reply | exact sn_req)) (by (repeat (first | (with_reducible exact List.mem_cons_self ..) | (with_reducible apply List.mem_cons_of_mem)))) rfl ?_; simp only [Act.put, List.setIfInBounds_toArray, List.set_cons_zero, List.set_cons_succ, List.drop_zero, List.drop_succ_cons, List.take_succ_cons, List.take_zero, List.toList_toArray, NodeS.cells]) | (refine sx_load HX rfl rfl (by kernel_rfl) (by (repeat (first | (with_reducible exact List.mem_cons_self ..) | (with_reducible apply List.mem_cons_of_mem)))) rfl ?_; simp only [Act.put, List.setIfInBounds_toArray, List.set_cons_zero, List.set_cons_succ]) | (refine sx_storeS HX rfl rfl rfl (by kernel_rfl) (by (repeat (first | (with_reducible exact Rep.here) | (with_reducible apply Rep.there)))) rfl rfl ?_; clear HX; intro w HX; simp only [Act.put, List.setIfInBounds_toArray, List.set_cons_zero, List.set_cons_succ, setMany, Nat.reduceAdd, NodeS.cells] at HX ⊢) | (refine sx_store1 HX rfl rfl rfl rfl (by kernel_rfl) (by (repeat (first | (with_reducible exact Rep.here) | (with_reducible apply Rep.there)))) rfl rfl ?_; clear HX; intro w HX; simp only [Act.put, List.setIfInBounds_toArray, List.set_cons_zero, List.set_cons_succ, NodeS.cells] at HX ⊢) | (refine sx_alloc HX rfl (by (first | exact z_op | exact z_res | exact z_node | exact z_reply | exact z_req)) ?_; clear HX; intro w b HX; simp only [Act.put, List.setIfInBounds_toArray, List.set_cons_zero, List.set_cons_succ]) | (refine sx_boxS HX rfl rfl ?_; clear HX; intro w b HX; simp only [Act.put, List.setIfInBounds_toArray, List.set_cons_zero, List.set_cons_succ]) | (refine sx_box1 HX rfl rfl rfl ?_; clear HX; intro w b HX; simp only [Act.put, List.setIfInBounds_toArray, List.set_cons_zero, List.set_cons_succ]))
    refine wp_region_M (fun W => W = w.drew) 8 (by kernel_rfl) ?_
    replace HX := Lib.hid HX.out.drew
    generalize w.drew = w at HX ⊢
    have hkd := look_miss HX path (by (repeat (first | (with_reducible exact List.mem_cons_self ..) | (with_reducible apply List.mem_cons_of_mem)))) HK.out
    refine wpAnyM_take (by kernel_rfl) (by intro c a d v w h; cases d <;> exact h) [(0, false), (1, false), (2, false), (3, true), (4, false), (5, true), (6, true), (7, false)] (fuel := 0) (by kernel_rfl) ?_
    apply Exists.intro; refine ⟨?_, rfl, ?_⟩
    · iterate 8 ((first | ((apply yield_loadS HX); (· (simp only [List.getElem?_toArray, List.getElem?_cons_succ, List.getElem?_cons_zero]; try rfl)); (· rfl); (· rfl); (· (first | exact sn_op | exact sn_res | exact sn_stat | exact sn_node | exact sn_reply | exact sn_req)); (· (repeat (first | (with_reducible exact List.mem_cons_self ..) | (with_reducible apply List.mem_cons_of_mem)))); (· rfl)) | ((apply yield_load HX); (· (simp only [List.getElem?_toArray, List.getElem?_cons_succ, List.getElem?_cons_zero]; try rfl)); (· rfl); (· rfl); (· kernel_rfl); (· (repeat (first | (with_reducible exact List.mem_cons_self ..) | (with_reducible apply List.mem_cons_of_mem)))); (· rfl)) | (apply yieldN; (· (simp only [List.getElem?_toArray, List.getElem?_cons_succ, List.getElem?_cons_zero]; try rfl)); (· rfl)) | ((first | apply yieldP | apply yieldL); (· (simp only [List.getElem?_toArray, List.getElem?_cons_succ, List.getElem?_cons_zero]; try rfl)); (· rfl); (· (intros; go_simp; try with_reducible rfl)))); (· (simp only [Act.put, List.setIfInBounds_toArray, List.set_cons_zero, List.set_cons_succ, List.drop_zero, List.drop_succ_cons, List.take_succ_cons, List.take_zero, List.toList_toArray, NodeS.cells]; try rfl)))
      exact rfl
    refine wpAnyM_done (by kernel_rfl) ?_ _
    clear hkd
    go_wp2_with (first | (refine sx_loadS HX rfl rfl (by (first | exact sn_op | exact sn_res | exact sn_stat | exact sn_node | exact sn_reply | exact sn_req)) (by (repeat (first | (with_reducible exact List.mem_cons_self ..) | (with_reducible apply List.mem_cons_of_mem)))) rfl ?_; simp only [Act.put, List.setIfInBounds_toArray, List.set_cons_zero, List.set_cons_succ, List.drop_zero, List.drop_succ_cons, List.take_succ_cons, List.take_zero, List.toList_toArray, NodeS.cells]) | (refine sx_load HX rfl rfl (by kernel_rfl) (by (repeat (first | (with_reducible exact List.mem_cons_self ..) | (with_reducible apply List.mem_cons_of_mem)))) rfl ?_; simp only [Act.put, List.setIfInBounds_toArray, List.set_cons_zero, List.set_cons_succ]) | (refine sx_storeS HX rfl rfl rfl (by kernel_rfl) (by (repeat (first | (with_reducible exact Rep.here) | (with_reducible apply Rep.there)))) rfl rfl ?_; clear HX; intro w HX; simp only [Act.put, List.setIfInBounds_toArray, List.set_cons_zero, List.set_cons_succ, setMany, Nat.reduceAdd, NodeS.cells] at HX ⊢) | (refine sx_store1 HX rfl rfl rfl rfl (by kernel_rfl) (by (repeat (first | (with_reducible exact Rep.here) | (with_reducible apply Rep.there)))) rfl rfl ?_; clear HX; intro w HX; simp only [Act.put, List.setIfInBounds_toArray, List.set_cons_zero, List.set_cons_succ, NodeS.cells] at HX ⊢) | (refine sx_alloc HX rfl (by (first | exact z_op | exact z_res | exact z_node | exact z_reply | exact z_req)) ?_; clear HX; intro w b HX; simp only [Act.put, List.setIfInBounds_toArray, List.set_cons_zero, List.set_cons_succ]) | (refine sx_boxS HX rfl rfl ?_; clear HX; intro w b HX; simp only [Act.put, List.setIfInBounds_toArray, List.set_cons_zero, List.set_cons_succ]) | (refine sx_box1 HX rfl rfl rfl ?_; clear HX; intro w b HX; simp only [Act.put, List.setIfInBounds_toArray, List.set_cons_zero, List.set_cons_succ]))
    refine (fail_any _ _).mono ?_
    rintro e w ⟨rfl, hu⟩
    replace HX := Lib.hid (HX.out.keep hu)
    clear hu
    simp only [ResS.cells, failS, noSt]
    go_wp2_with (first | (refine sx_loadS HX rfl rfl (by (first | exact sn_op | exact sn_res | exact sn_stat | exact sn_node | exact sn_reply | exact sn_req)) (by (repeat (first | (with_reducible exact List.mem_cons_self ..) | (with_reducible apply List.mem_cons_of_mem)))) rfl ?_; simp only [Act.put, List.setIfInBounds_toArray, List.set_cons_zero, List.set_cons_succ, List.drop_zero, List.drop_succ_cons, List.take_succ_cons, List.take_zero, List.toList_toArray, NodeS.cells]) | (refine sx_load HX rfl rfl (by kernel_rfl) (by (repeat (first | (with_reducible exact List.mem_cons_self ..) | (with_reducible apply List.mem_cons_of_mem)))) rfl ?_; simp only [Act.put, List.setIfInBounds_toArray, List.set_cons_zero, List.set_cons_succ]) | (refine sx_storeS HX rfl rfl rfl (by kernel_rfl) (by (repeat (first | (with_reducible exact Rep.here) | (with_reducible apply Rep.there)))) rfl rfl ?_; clear HX; intro w HX; simp only [Act.put, List.setIfInBounds_toArray, List.set_cons_zero, List.set_cons_succ, setMany, Nat.reduceAdd, NodeS.cells] at HX ⊢) | (refine sx_store1 HX rfl rfl rfl rfl (by kernel_rfl) (by (repeat (first | (with_reducible exact Rep.here) | (with_reducible apply Rep.there)))) rfl rfl ?_; clear HX; intro w HX; simp only [Act.put, List.setIfInBounds_toArray, List.set_cons_zero, List.set_cons_succ, NodeS.cells] at HX ⊢) | (refine sx_alloc HX rfl (by (first | exact z_op | exact z_res | exact z_node | exact z_reply | exact z_req)) ?_; clear HX; intro w b HX; simp only [Act.put, List.setIfInBounds_toArray, List.set_cons_zero, List.set_cons_succ]) | (refine sx_boxS HX rfl rfl ?_; clear HX; intro w b HX; simp only [Act.put, List.setIfInBounds_toArray, List.set_cons_zero, List.set_cons_succ]) | (refine sx_box1 HX rfl rfl rfl ?_; clear HX; intro w b HX; simp only [Act.put, List.setIfInBounds_toArray, List.set_cons_zero, List.set_cons_succ]))
    refine sx_ret HX rfl rfl (by (repeat (first | (with_reducible exact List.mem_cons_self ..) | (with_reducible apply List.mem_cons_of_mem)))) (by kernel_rfl) ?_
    have h9 := (HB.out _ P _ (fun _ h => h) (HX.out.drop.drop)).perm (List.Perm.swap _ _ _)
    rw [← HS'.out, HE.out]
    refine res_nil rfl ?_
    cases only <;> exact h9
  | some n =>
    have HRX := Lib.hid (show (if wrongS ⟨kind, path, data, ver, flags⟩ n = true then (failS 6, S)
      else if kind = 2 ∧ 0 < n.names.length then (failS 7, S)
      else if kind = 2 then (⟨0, path, ⟨#[]⟩, [], noSt⟩, { S with l := remT path.data.toList S.l })
      else if kind = 3 then (⟨0, path, ⟨#[]⟩, [], (writeS n zxid data).st⟩, { S with l := setT path.data.toList (writeS n zxid data) S.l })
      else (⟨0, path, ⟨#[]⟩, [], noSt⟩, S)) = rr by rw [← hrr]; unfold changeT OpS.p; simp only [hlk])
    obtain ⟨m, x, nv, kvs, N, hnv, hk, hS, back⟩ := tree_at hsw hlk
    have HB := Lib.hid (show ∀ w' P' R', (∀ r ∈ P, r ∈ P') → Sep w0 w' (thNode x n nv :: thTree t m S.room :: ThMap .string m kvs :: ThL N :: R') rows → Sep w0 w' (ThTree t S P' :: R') rows from fun w' P' R' hP hh => by
      have := back w' n nv P' R' hP (hP _ hnv) hh
      rw [setT_same HND.out hlk] at this
      exact this)
    obtain ⟨E, hE⟩ := (hS.pick 4 rfl rfl).poolGet hnv
    obtain ⟨na, nn, nc, rfl, hnn, -⟩ := id hE
    rw [List.length_map, Nat.mul_one] at hnn
    subst hnn
    have HX := Lib.hid hS
    have HK := Lib.hid hk
    have HNV := Lib.hid hnv
    have HLK := Lib.hid hlk
    have HOK := Lib.hid (hok _ ((look_mem HND.out).1 hlk))
    obtain ⟨wr, hwr⟩ : ∃ z, wrongS ⟨kind, path, data, ver, flags⟩ n = z := ⟨_, rfl⟩
    rw [hwr] at HRX
    have HWR := Lib.hid hwr
    clear hk hS back hlk hsw hrr hnv hE hwr
    go_enter Tryz.func57, Tryz.ntmps57
    go_wp2_with (first | (refine sx_loadS HX rfl rfl (by (first | exact sn_op | exact sn_res | exact sn_stat | exact sn_node | exact sn_reply | exact sn_req)) (by (repeat (first | (with_reducible exact List.mem_cons_self ..) | (with_reducible apply List.mem_cons_of_mem)))) rfl ?_; simp only [Act.put, List.setIfInBounds_toArray, List.set_cons_zero, List.set_cons_succ, List.drop_zero, List.drop_succ_cons, List.take_succ_cons, List.take_zero, List.toList_toArray, NodeS.cells]) | (refine sx_load HX rfl rfl (by kernel_rfl) (by (repeat (first | (with_reducible exact List.mem_cons_self ..) | (with_reducible apply List.mem_cons_of_mem)))) rfl ?_; simp only [Act.put, List.setIfInBounds_toArray, List.set_cons_zero, List.set_cons_succ]) | (refine sx_storeS HX rfl rfl rfl (by kernel_rfl) (by (repeat (first | (with_reducible exact Rep.here) | (with_reducible apply Rep.there)))) rfl rfl ?_; clear HX; intro w HX; simp only [Act.put, List.setIfInBounds_toArray, List.set_cons_zero, List.set_cons_succ, setMany, Nat.reduceAdd, NodeS.cells] at HX ⊢) | (refine sx_store1 HX rfl rfl rfl rfl (by kernel_rfl) (by (repeat (first | (with_reducible exact Rep.here) | (with_reducible apply Rep.there)))) rfl rfl ?_; clear HX; intro w HX; simp only [Act.put, List.setIfInBounds_toArray, List.set_cons_zero, List.set_cons_succ, NodeS.cells] at HX ⊢) | (refine sx_alloc HX rfl (by (first | exact z_op | exact z_res | exact z_node | exact z_reply | exact z_req)) ?_; clear HX; intro w b HX; simp only [Act.put, List.setIfInBounds_toArray, List.set_cons_zero, List.set_cons_succ]) | (refine sx_boxS HX rfl rfl ?_; clear HX; intro w b HX; simp only [Act.put, List.setIfInBounds_toArray, List.set_cons_zero, List.set_cons_succ]) | (refine sx_box1 HX rfl rfl rfl ?_; clear HX; intro w b HX; simp only [Act.put, List.setIfInBounds_toArray, List.set_cons_zero, List.set_cons_succ]))
    refine wp_region_M (fun W => W = w.drew) 8 (by kernel_rfl) ?_
    replace HX := Lib.hid HX.out.drew
    generalize w.drew = w at HX ⊢
    have hkd := look_hit HX path (by (repeat (first | (with_reducible exact List.mem_cons_self ..) | (with_reducible apply List.mem_cons_of_mem)))) HK.out
    refine wpAnyM_take (by kernel_rfl) (by intro c a d v w h; cases d <;> exact h) [(0, false), (1, false), (2, false), (3, true), (4, false), (5, true), (6, true), (7, false)] (fuel := 0) (by kernel_rfl) ?_
    apply Exists.intro; refine ⟨?_, rfl, ?_⟩
    · iterate 8 ((first | ((apply yield_loadS HX); (· (simp only [List.getElem?_toArray, List.getElem?_cons_succ, List.getElem?_cons_zero]; try rfl)); (· rfl); (· rfl); (· (first | exact sn_op | exact sn_res | exact sn_stat | exact sn_node | exact sn_reply | exact sn_req)); (· (repeat (first | (with_reducible exact List.mem_cons_self ..) | (with_reducible apply List.mem_cons_of_mem)))); (· rfl)) | ((apply yield_load HX); (· (simp only [List.getElem?_toArray, List.getElem?_cons_succ, List.getElem?_cons_zero]; try rfl)); (· rfl); (· rfl); (· kernel_rfl); (· (repeat (first | (with_reducible exact List.mem_cons_self ..) | (with_reducible apply List.mem_cons_of_mem)))); (· rfl)) | (apply yieldN; (· (simp only [List.getElem?_toArray, List.getElem?_cons_succ, List.getElem?_cons_zero]; try rfl)); (· rfl)) | ((first | apply yieldP | apply yieldL); (· (simp only [List.getElem?_toArray, List.getElem?_cons_succ, List.getElem?_cons_zero]; try rfl)); (· rfl); (· (intros; go_simp; try with_reducible rfl)))); (· (simp only [Act.put, List.setIfInBounds_toArray, List.set_cons_zero, List.set_cons_succ, List.drop_zero, List.drop_succ_cons, List.take_succ_cons, List.take_zero, List.toList_toArray, NodeS.cells]; try rfl)))
      exact rfl
    refine wpAnyM_done (by kernel_rfl) ?_ _
    clear hkd
    go_wp2_with (first | (refine sx_loadS HX rfl rfl (by (first | exact sn_op | exact sn_res | exact sn_stat | exact sn_node | exact sn_reply | exact sn_req)) (by (repeat (first | (with_reducible exact List.mem_cons_self ..) | (with_reducible apply List.mem_cons_of_mem)))) rfl ?_; simp only [Act.put, List.setIfInBounds_toArray, List.set_cons_zero, List.set_cons_succ, List.drop_zero, List.drop_succ_cons, List.take_succ_cons, List.take_zero, List.toList_toArray, NodeS.cells]) | (refine sx_load HX rfl rfl (by kernel_rfl) (by (repeat (first | (with_reducible exact List.mem_cons_self ..) | (with_reducible apply List.mem_cons_of_mem)))) rfl ?_; simp only [Act.put, List.setIfInBounds_toArray, List.set_cons_zero, List.set_cons_succ]) | (refine sx_storeS HX rfl rfl rfl (by kernel_rfl) (by (repeat (first | (with_reducible exact Rep.here) | (with_reducible apply Rep.there)))) rfl rfl ?_; clear HX; intro w HX; simp only [Act.put, List.setIfInBounds_toArray, List.set_cons_zero, List.set_cons_succ, setMany, Nat.reduceAdd, NodeS.cells] at HX ⊢) | (refine sx_store1 HX rfl rfl rfl rfl (by kernel_rfl) (by (repeat (first | (with_reducible exact Rep.here) | (with_reducible apply Rep.there)))) rfl rfl ?_; clear HX; intro w HX; simp only [Act.put, List.setIfInBounds_toArray, List.set_cons_zero, List.set_cons_succ, NodeS.cells] at HX ⊢) | (refine sx_alloc HX rfl (by (first | exact z_op | exact z_res | exact z_node | exact z_reply | exact z_req)) ?_; clear HX; intro w b HX; simp only [Act.put, List.setIfInBounds_toArray, List.set_cons_zero, List.set_cons_succ]) | (refine sx_boxS HX rfl rfl ?_; clear HX; intro w b HX; simp only [Act.put, List.setIfInBounds_toArray, List.set_cons_zero, List.set_cons_succ]) | (refine sx_box1 HX rfl rfl rfl ?_; clear HX; intro w b HX; simp only [Act.put, List.setIfInBounds_toArray, List.set_cons_zero, List.set_cons_succ]))
    refine (wrong_any ⟨kind, path, data, ver, flags⟩ x n _ _ (HX.out.block (by (repeat (first | (with_reducible exact List.mem_cons_self ..) | (with_reducible apply List.mem_cons_of_mem)))))).mono ?_
    rintro e w ⟨rfl, hu⟩
    rw [HWR.out]
    replace HX := Lib.hid (HX.out.keep hu)
    clear hu
    cases wr with
    | true =>
      have HE := Lib.hid (show rr = (failS 6, S) from HRX.out.symm)
      go_wp2_with (first | (refine sx_loadS HX rfl rfl (by (first | exact sn_op | exact sn_res | exact sn_stat | exact sn_node | exact sn_reply | exact sn_req)) (by (repeat (first | (with_reducible exact List.mem_cons_self ..) | (with_reducible apply List.mem_cons_of_mem)))) rfl ?_; simp only [Act.put, List.setIfInBounds_toArray, List.set_cons_zero, List.set_cons_succ, List.drop_zero, List.drop_succ_cons, List.take_succ_cons, List.take_zero, List.toList_toArray, NodeS.cells]) | (refine sx_load HX rfl rfl (by kernel_rfl) (by (repeat (first | (with_reducible exact List.mem_cons_self ..) | (with_reducible apply List.mem_cons_of_mem)))) rfl ?_; simp only [Act.put, List.setIfInBounds_toArray, List.set_cons_zero, List.set_cons_succ]) | (refine sx_storeS HX rfl rfl rfl (by kernel_rfl) (by (repeat (first | (with_reducible exact Rep.here) | (with_reducible apply Rep.there)))) rfl rfl ?_; clear HX; intro w HX; simp only [Act.put, List.setIfInBounds_toArray, List.set_cons_zero, List.set_cons_succ, setMany, Nat.reduceAdd, NodeS.cells] at HX ⊢) | (refine sx_store1 HX rfl rfl rfl rfl (by kernel_rfl) (by (repeat (first | (with_reducible exact Rep.here) | (with_reducible apply Rep.there)))) rfl rfl ?_; clear HX; intro w HX; simp only [Act.put, List.setIfInBounds_toArray, List.set_cons_zero, List.set_cons_succ, NodeS.cells] at HX ⊢) | (refine sx_alloc HX rfl (by (first | exact z_op | exact z_res | exact z_node | exact z_reply | exact z_req)) ?_; clear HX; intro w b HX; simp only [Act.put, List.setIfInBounds_toArray, List.set_cons_zero, List.set_cons_succ]) | (refine sx_boxS HX rfl rfl ?_; clear HX; intro w b HX; simp only [Act.put, List.setIfInBounds_toArray, List.set_cons_zero, List.set_cons_succ]) | (refine sx_box1 HX rfl rfl rfl ?_; clear HX; intro w b HX; simp only [Act.put, List.setIfInBounds_toArray, List.set_cons_zero, List.set_cons_succ]))
      refine (fail_any _ _).mono ?_
      rintro e w ⟨rfl, hu⟩
      replace HX := Lib.hid (HX.out.keep hu)
      clear hu
      simp only [ResS.cells, failS, noSt]
      go_wp2_with (first | (refine sx_loadS HX rfl rfl (by (first | exact sn_op | exact sn_res | exact sn_stat | exact sn_node | exact sn_reply | exact sn_req)) (by (repeat (first | (with_reducible exact List.mem_cons_self ..) | (with_reducible apply List.mem_cons_of_mem)))) rfl ?_; simp only [Act.put, List.setIfInBounds_toArray, List.set_cons_zero, List.set_cons_succ, List.drop_zero, List.drop_succ_cons, List.take_succ_cons, List.take_zero, List.toList_toArray, NodeS.cells]) | (refine sx_load HX rfl rfl (by kernel_rfl) (by (repeat (first | (with_reducible exact List.mem_cons_self ..) | (with_reducible apply List.mem_cons_of_mem)))) rfl ?_; simp only [Act.put, List.setIfInBounds_toArray, List.set_cons_zero, List.set_cons_succ]) | (refine sx_storeS HX rfl rfl rfl (by kernel_rfl) (by (repeat (first | (with_reducible exact Rep.here) | (with_reducible apply Rep.there)))) rfl rfl ?_; clear HX; intro w HX; simp only [Act.put, List.setIfInBounds_toArray, List.set_cons_zero, List.set_cons_succ, setMany, Nat.reduceAdd, NodeS.cells] at HX ⊢) | (refine sx_store1 HX rfl rfl rfl rfl (by kernel_rfl) (by (repeat (first | (with_reducible exact Rep.here) | (with_reducible apply Rep.there)))) rfl rfl ?_; clear HX; intro w HX; simp only [Act.put, List.setIfInBounds_toArray, List.set_cons_zero, List.set_cons_succ, NodeS.cells] at HX ⊢) | (refine sx_alloc HX rfl (by (first | exact z_op | exact z_res | exact z_node | exact z_reply | exact z_req)) ?_; clear HX; intro w b HX; simp only [Act.put, List.setIfInBounds_toArray, List.set_cons_zero, List.set_cons_succ]) | (refine sx_boxS HX rfl rfl ?_; clear HX; intro w b HX; simp only [Act.put, List.setIfInBounds_toArray, List.set_cons_zero, List.set_cons_succ]) | (refine sx_box1 HX rfl rfl rfl ?_; clear HX; intro w b HX; simp only [Act.put, List.setIfInBounds_toArray, List.set_cons_zero, List.set_cons_succ]))
      refine sx_ret HX rfl rfl (by (repeat (first | (with_reducible exact List.mem_cons_self ..) | (with_reducible apply List.mem_cons_of_mem)))) (by kernel_rfl) ?_
      have h9 := (HB.out _ P _ (fun _ h => h) (HX.out.drop.drop)).perm (List.Perm.swap _ _ _)
      rw [← HS'.out, HE.out]
      refine res_nil rfl ?_
      cases only <;> exact h9
    | false =>
      have HRY := Lib.hid (show (if kind = 2 ∧ 0 < n.names.length then (failS 7, S)
        else if kind = 2 then (⟨0, path, ⟨#[]⟩, [], noSt⟩, { S with l := remT path.data.toList S.l })
        else if kind = 3 then (⟨0, path, ⟨#[]⟩, [], (writeS n zxid data).st⟩, { S with l := setT path.data.toList (writeS n zxid data) S.l })
        else (⟨0, path, ⟨#[]⟩, [], noSt⟩, S)) = rr from HRX.out)
      clear HRX
      by_cases hk2 : kind = 2
      · subst hk2
        by_cases hl7 : 0 < n.names.length
        · have HE := Lib.hid (show rr = (failS 7, S) by rw [← HRY.out, if_pos ⟨rfl, hl7⟩])
          have q7 : decide (0 < ((n.names.length : Nat) : Int)) = true := decide_eq_true (by omega)
          have q7' : decide (0 < n.names.length) = true := decide_eq_true hl7
          clear HRY hl7
          go_wp2_with (first | (refine sx_loadS HX rfl rfl (by (first | exact sn_op | exact sn_res | exact sn_stat | exact sn_node | exact sn_reply | exact sn_req)) (by (repeat (first | (with_reducible exact List.mem_cons_self ..) | (with_reducible apply List.mem_cons_of_mem)))) rfl ?_; simp only [Act.put, List.setIfInBounds_toArray, List.set_cons_zero, List.set_cons_succ, List.drop_zero, List.drop_succ_cons, List.take_succ_cons, List.take_zero, List.toList_toArray, NodeS.cells]) | (refine sx_load HX rfl rfl (by kernel_rfl) (by (repeat (first | (with_reducible exact List.mem_cons_self ..) | (with_reducible apply List.mem_cons_of_mem)))) rfl ?_; simp only [Act.put, List.setIfInBounds_toArray, List.set_cons_zero, List.set_cons_succ]) | (refine sx_storeS HX rfl rfl rfl (by kernel_rfl) (by (repeat (first | (with_reducible exact Rep.here) | (with_reducible apply Rep.there)))) rfl rfl ?_; clear HX; intro w HX; simp only [Act.put, List.setIfInBounds_toArray, List.set_cons_zero, List.set_cons_succ, setMany, Nat.reduceAdd, NodeS.cells] at HX ⊢) | (refine sx_store1 HX rfl rfl rfl rfl (by kernel_rfl) (by (repeat (first | (with_reducible exact Rep.here) | (with_reducible apply Rep.there)))) rfl rfl ?_; clear HX; intro w HX; simp only [Act.put, List.setIfInBounds_toArray, List.set_cons_zero, List.set_cons_succ, NodeS.cells] at HX ⊢) | (refine sx_alloc HX rfl (by (first | exact z_op | exact z_res | exact z_node | exact z_reply | exact z_req)) ?_; clear HX; intro w b HX; simp only [Act.put, List.setIfInBounds_toArray, List.set_cons_zero, List.set_cons_succ]) | (refine sx_boxS HX rfl rfl ?_; clear HX; intro w b HX; simp only [Act.put, List.setIfInBounds_toArray, List.set_cons_zero, List.set_cons_succ]) | (refine sx_box1 HX rfl rfl rfl ?_; clear HX; intro w b HX; simp only [Act.put, List.setIfInBounds_toArray, List.set_cons_zero, List.set_cons_succ]))
          refine (fail_any _ _).mono ?_
          rintro e w ⟨rfl, hu⟩
          replace HX := Lib.hid (HX.out.keep hu)
          clear hu
          simp only [ResS.cells, failS, noSt]
          go_wp2_with (first | (refine sx_loadS HX rfl rfl (by (first | exact sn_op | exact sn_res | exact sn_stat | exact sn_node | exact sn_reply | exact sn_req)) (by (repeat (first | (with_reducible exact List.mem_cons_self ..) | (with_reducible apply List.mem_cons_of_mem)))) rfl ?_; simp only [Act.put, List.setIfInBounds_toArray, List.set_cons_zero, List.set_cons_succ, List.drop_zero, List.drop_succ_cons, List.take_succ_cons, List.take_zero, List.toList_toArray, NodeS.cells]) | (refine sx_load HX rfl rfl (by kernel_rfl) (by (repeat (first | (with_reducible exact List.mem_cons_self ..) | (with_reducible apply List.mem_cons_of_mem)))) rfl ?_; simp only [Act.put, List.setIfInBounds_toArray, List.set_cons_zero, List.set_cons_succ]) | (refine sx_storeS HX rfl rfl rfl (by kernel_rfl) (by (repeat (first | (with_reducible exact Rep.here) | (with_reducible apply Rep.there)))) rfl rfl ?_; clear HX; intro w HX; simp only [Act.put, List.setIfInBounds_toArray, List.set_cons_zero, List.set_cons_succ, setMany, Nat.reduceAdd, NodeS.cells] at HX ⊢) | (refine sx_store1 HX rfl rfl rfl rfl (by kernel_rfl) (by (repeat (first | (with_reducible exact Rep.here) | (with_reducible apply Rep.there)))) rfl rfl ?_; clear HX; intro w HX; simp only [Act.put, List.setIfInBounds_toArray, List.set_cons_zero, List.set_cons_succ, NodeS.cells] at HX ⊢) | (refine sx_alloc HX rfl (by (first | exact z_op | exact z_res | exact z_node | exact z_reply | exact z_req)) ?_; clear HX; intro w b HX; simp only [Act.put, List.setIfInBounds_toArray, List.set_cons_zero, List.set_cons_succ]) | (refine sx_boxS HX rfl rfl ?_; clear HX; intro w b HX; simp only [Act.put, List.setIfInBounds_toArray, List.set_cons_zero, List.set_cons_succ]) | (refine sx_box1 HX rfl rfl rfl ?_; clear HX; intro w b HX; simp only [Act.put, List.setIfInBounds_toArray, List.set_cons_zero, List.set_cons_succ]))
          refine sx_ret HX rfl rfl (by (repeat (first | (with_reducible exact List.mem_cons_self ..) | (with_reducible apply List.mem_cons_of_mem)))) (by kernel_rfl) ?_
          have h9 := (HB.out _ P _ (fun _ h => h) (HX.out.drop.drop)).perm (List.Perm.swap _ _ _)
          rw [← HS'.out, HE.out]
          refine res_nil rfl ?_
          cases only <;> exact h9
        · have HE := Lib.hid (show rr = (⟨0, path, ⟨#[]⟩, [], noSt⟩, { S with l := remT path.data.toList S.l }) by rw [← HRY.out, if_neg (fun h => hl7 h.2), if_pos rfl])
          have q7 : decide (0 < ((n.names.length : Nat) : Int)) = false := decide_eq_false (by omega)
          have q7' : decide (0 < n.names.length) = false := decide_eq_false hl7
          clear HRY hl7
          cases only with
          | true =>
            go_wp2_with (first | (refine sx_loadS HX rfl rfl (by (first | exact sn_op | exact sn_res | exact sn_stat | exact sn_node | exact sn_reply | exact sn_req)) (by (repeat (first | (with_reducible exact List.mem_cons_self ..) | (with_reducible apply List.mem_cons_of_mem)))) rfl ?_; simp only [Act.put, List.setIfInBounds_toArray, List.set_cons_zero, List.set_cons_succ, List.drop_zero, List.drop_succ_cons, List.take_succ_cons, List.take_zero, List.toList_toArray, NodeS.cells]) | (refine sx_load HX rfl rfl (by kernel_rfl) (by (repeat (first | (with_reducible exact List.mem_cons_self ..) | (with_reducible apply List.mem_cons_of_mem)))) rfl ?_; simp only [Act.put, List.setIfInBounds_toArray, List.set_cons_zero, List.set_cons_succ]) | (refine sx_storeS HX rfl rfl rfl (by kernel_rfl) (by (repeat (first | (with_reducible exact Rep.here) | (with_reducible apply Rep.there)))) rfl rfl ?_; clear HX; intro w HX; simp only [Act.put, List.setIfInBounds_toArray, List.set_cons_zero, List.set_cons_succ, setMany, Nat.reduceAdd, NodeS.cells] at HX ⊢) | (refine sx_store1 HX rfl rfl rfl rfl (by kernel_rfl) (by (repeat (first | (with_reducible exact Rep.here) | (with_reducible apply Rep.there)))) rfl rfl ?_; clear HX; intro w HX; simp only [Act.put, List.setIfInBounds_toArray, List.set_cons_zero, List.set_cons_succ, NodeS.cells] at HX ⊢) | (refine sx_alloc HX rfl (by (first | exact z_op | exact z_res | exact z_node | exact z_reply | exact z_req)) ?_; clear HX; intro w b HX; simp only [Act.put, List.setIfInBounds_toArray, List.set_cons_zero, List.set_cons_succ]) | (refine sx_boxS HX rfl rfl ?_; clear HX; intro w b HX; simp only [Act.put, List.setIfInBounds_toArray, List.set_cons_zero, List.set_cons_succ]) | (refine sx_box1 HX rfl rfl rfl ?_; clear HX; intro w b HX; simp only [Act.put, List.setIfInBounds_toArray, List.set_cons_zero, List.set_cons_succ]))
            refine sx_ret HX rfl rfl (by (repeat (first | (with_reducible exact List.mem_cons_self ..) | (with_reducible apply List.mem_cons_of_mem)))) (by kernel_rfl) ?_
            have h9 := (HB.out _ P _ (fun _ h => h) (HX.out.drop.drop.drop)).perm (List.Perm.swap _ _ _)
            rw [← HS'.out, HE.out]
            exact res_nil (r := ⟨0, path, ⟨#[]⟩, [], noSt⟩) rfl h9
          | false =>
            go_wp2_with (first | (refine sx_loadS HX rfl rfl (by (first | exact sn_op | exact sn_res | exact sn_stat | exact sn_node | exact sn_reply | exact sn_req)) (by (repeat (first | (with_reducible exact List.mem_cons_self ..) | (with_reducible apply List.mem_cons_of_mem)))) rfl ?_; simp only [Act.put, List.setIfInBounds_toArray, List.set_cons_zero, List.set_cons_succ, List.drop_zero, List.drop_succ_cons, List.take_succ_cons, List.take_zero, List.toList_toArray, NodeS.cells]) | (refine sx_load HX rfl rfl (by kernel_rfl) (by (repeat (first | (with_reducible exact List.mem_cons_self ..) | (with_reducible apply List.mem_cons_of_mem)))) rfl ?_; simp only [Act.put, List.setIfInBounds_toArray, List.set_cons_zero, List.set_cons_succ]) | (refine sx_storeS HX rfl rfl rfl (by kernel_rfl) (by (repeat (first | (with_reducible exact Rep.here) | (with_reducible apply Rep.there)))) rfl rfl ?_; clear HX; intro w HX; simp only [Act.put, List.setIfInBounds_toArray, List.set_cons_zero, List.set_cons_succ, setMany, Nat.reduceAdd, NodeS.cells] at HX ⊢) | (refine sx_store1 HX rfl rfl rfl rfl (by kernel_rfl) (by (repeat (first | (with_reducible exact Rep.here) | (with_reducible apply Rep.there)))) rfl rfl ?_; clear HX; intro w HX; simp only [Act.put, List.setIfInBounds_toArray, List.set_cons_zero, List.set_cons_succ, NodeS.cells] at HX ⊢) | (refine sx_alloc HX rfl (by (first | exact z_op | exact z_res | exact z_node | exact z_reply | exact z_req)) ?_; clear HX; intro w b HX; simp only [Act.put, List.setIfInBounds_toArray, List.set_cons_zero, List.set_cons_succ]) | (refine sx_boxS HX rfl rfl ?_; clear HX; intro w b HX; simp only [Act.put, List.setIfInBounds_toArray, List.set_cons_zero, List.set_cons_succ]) | (refine sx_box1 HX rfl rfl rfl ?_; clear HX; intro w b HX; simp only [Act.put, List.setIfInBounds_toArray, List.set_cons_zero, List.set_cons_succ]))
            have h8 := HB.out _ P _ (fun _ h => h) HX.out.back3x
            have h9 := Sep.up4 h8
            clear h8
            refine (treeRemove_any h9 hd path hp hok).mono ?_
            rintro e w ⟨rfl, P', hP', h8⟩
            clear HX h9
            have HX := Lib.hid h8
            clear h8
            go_wp2_with (first | (refine sx_loadS HX rfl rfl (by (first | exact sn_op | exact sn_res | exact sn_stat | exact sn_node | exact sn_reply | exact sn_req)) (by (repeat (first | (with_reducible exact List.mem_cons_self ..) | (with_reducible apply List.mem_cons_of_mem)))) rfl ?_; simp only [Act.put, List.setIfInBounds_toArray, List.set_cons_zero, List.set_cons_succ, List.drop_zero, List.drop_succ_cons, List.take_succ_cons, List.take_zero, List.toList_toArray, NodeS.cells]) | (refine sx_load HX rfl rfl (by kernel_rfl) (by (repeat (first | (with_reducible exact List.mem_cons_self ..) | (with_reducible apply List.mem_cons_of_mem)))) rfl ?_; simp only [Act.put, List.setIfInBounds_toArray, List.set_cons_zero, List.set_cons_succ]) | (refine sx_storeS HX rfl rfl rfl (by kernel_rfl) (by (repeat (first | (with_reducible exact Rep.here) | (with_reducible apply Rep.there)))) rfl rfl ?_; clear HX; intro w HX; simp only [Act.put, List.setIfInBounds_toArray, List.set_cons_zero, List.set_cons_succ, setMany, Nat.reduceAdd, NodeS.cells] at HX ⊢) | (refine sx_store1 HX rfl rfl rfl rfl (by kernel_rfl) (by (repeat (first | (with_reducible exact Rep.here) | (with_reducible apply Rep.there)))) rfl rfl ?_; clear HX; intro w HX; simp only [Act.put, List.setIfInBounds_toArray, List.set_cons_zero, List.set_cons_succ, NodeS.cells] at HX ⊢) | (refine sx_alloc HX rfl (by (first | exact z_op | exact z_res | exact z_node | exact z_reply | exact z_req)) ?_; clear HX; intro w b HX; simp only [Act.put, List.setIfInBounds_toArray, List.set_cons_zero, List.set_cons_succ]) | (refine sx_boxS HX rfl rfl ?_; clear HX; intro w b HX; simp only [Act.put, List.setIfInBounds_toArray, List.set_cons_zero, List.set_cons_succ]) | (refine sx_box1 HX rfl rfl rfl ?_; clear HX; intro w b HX; simp only [Act.put, List.setIfInBounds_toArray, List.set_cons_zero, List.set_cons_succ]))
            refine sx_ret HX rfl rfl (by (repeat (first | (with_reducible exact List.mem_cons_self ..) | (with_reducible apply List.mem_cons_of_mem)))) (by kernel_rfl) ?_
            have h9 := HX.out.cut2.cut2.cut2
            rw [← HS'.out, HE.out]
            obtain ⟨nv', P9, h1, h2, h3, h4⟩ := res_nil (r := ⟨0, path, ⟨#[]⟩, [], noSt⟩) rfl h9
            exact ⟨nv', P9, h1, fun r hr => h2 r (hP' r hr), h3, h4⟩
      have HRZ := Lib.hid (show (if kind = 3 then (⟨0, path, ⟨#[]⟩, [], (writeS n zxid data).st⟩, { S with l := setT path.data.toList (writeS n zxid data) S.l })
        else (⟨0, path, ⟨#[]⟩, [], noSt⟩, S) : ResS × TreeS) = rr by have := HRY.out; rw [if_neg (fun h => hk2 h.1), if_neg hk2] at this; exact this)
      have q2 : (kind == 2) = false := by rw [beq_eq_false_iff_ne]; exact hk2
      clear HRY hk2
      by_cases hk3 : kind = 3
      · subst hk3
        have HE := Lib.hid (show rr = (⟨0, path, ⟨#[]⟩, [], (writeS n zxid data).st⟩, { S with l := setT path.data.toList (writeS n zxid data) S.l }) by rw [← HRZ.out, if_pos rfl])
        clear HRZ
        go_wp2_with (first | (refine sx_loadS HX rfl rfl (by (first | exact sn_op | exact sn_res | exact sn_stat | exact sn_node | exact sn_reply | exact sn_req)) (by (repeat (first | (with_reducible exact List.mem_cons_self ..) | (with_reducible apply List.mem_cons_of_mem)))) rfl ?_; simp only [Act.put, List.setIfInBounds_toArray, List.set_cons_zero, List.set_cons_succ, List.drop_zero, List.drop_succ_cons, List.take_succ_cons, List.take_zero, List.toList_toArray, NodeS.cells]) | (refine sx_load HX rfl rfl (by kernel_rfl) (by (repeat (first | (with_reducible exact List.mem_cons_self ..) | (with_reducible apply List.mem_cons_of_mem)))) rfl ?_; simp only [Act.put, List.setIfInBounds_toArray, List.set_cons_zero, List.set_cons_succ]) | (refine sx_storeS HX rfl rfl rfl (by kernel_rfl) (by (repeat (first | (with_reducible exact Rep.here) | (with_reducible apply Rep.there)))) rfl rfl ?_; clear HX; intro w HX; simp only [Act.put, List.setIfInBounds_toArray, List.set_cons_zero, List.set_cons_succ, setMany, Nat.reduceAdd, NodeS.cells] at HX ⊢) | (refine sx_store1 HX rfl rfl rfl rfl (by kernel_rfl) (by (repeat (first | (with_reducible exact Rep.here) | (with_reducible apply Rep.there)))) rfl rfl ?_; clear HX; intro w HX; simp only [Act.put, List.setIfInBounds_toArray, List.set_cons_zero, List.set_cons_succ, NodeS.cells] at HX ⊢) | (refine sx_alloc HX rfl (by (first | exact z_op | exact z_res | exact z_node | exact z_reply | exact z_req)) ?_; clear HX; intro w b HX; simp only [Act.put, List.setIfInBounds_toArray, List.set_cons_zero, List.set_cons_succ]) | (refine sx_boxS HX rfl rfl ?_; clear HX; intro w b HX; simp only [Act.put, List.setIfInBounds_toArray, List.set_cons_zero, List.set_cons_succ]) | (refine sx_box1 HX rfl rfl rfl ?_; clear HX; intro w b HX; simp only [Act.put, List.setIfInBounds_toArray, List.set_cons_zero, List.set_cons_succ]))
        obtain ⟨E, hE⟩ := (HX.out.pick 7 rfl rfl).poolGet HNV.out
        refine (copied_any n _ w E hE (by have := HOK.out.few; omega)).mono ?_
        rintro e w ⟨v2, D2, rfl, ho2, hu2⟩
        obtain ⟨a2, n2, k2, rfl, -⟩ := id ho2
        replace HX := Lib.hid (HX.out.addRow ho2 hu2)
        clear ho2 hu2 hE
        simp only [NodeS.val, NodeS.cells]
        go_wp2_with (first | (refine sx_loadS HX rfl rfl (by (first | exact sn_op | exact sn_res | exact sn_stat | exact sn_node | exact sn_reply | exact sn_req)) (by (repeat (first | (with_reducible exact List.mem_cons_self ..) | (with_reducible apply List.mem_cons_of_mem)))) rfl ?_; simp only [Act.put, List.setIfInBounds_toArray, List.set_cons_zero, List.set_cons_succ, List.drop_zero, List.drop_succ_cons, List.take_succ_cons, List.take_zero, List.toList_toArray, NodeS.cells]) | (refine sx_load HX rfl rfl (by kernel_rfl) (by (repeat (first | (with_reducible exact List.mem_cons_self ..) | (with_reducible apply List.mem_cons_of_mem)))) rfl ?_; simp only [Act.put, List.setIfInBounds_toArray, List.set_cons_zero, List.set_cons_succ]) | (refine sx_storeS HX rfl rfl rfl (by kernel_rfl) (by (repeat (first | (with_reducible exact Rep.here) | (with_reducible apply Rep.there)))) rfl rfl ?_; clear HX; intro w HX; simp only [Act.put, List.setIfInBounds_toArray, List.set_cons_zero, List.set_cons_succ, setMany, Nat.reduceAdd, NodeS.cells] at HX ⊢) | (refine sx_store1 HX rfl rfl rfl rfl (by kernel_rfl) (by (repeat (first | (with_reducible exact Rep.here) | (with_reducible apply Rep.there)))) rfl rfl ?_; clear HX; intro w HX; simp only [Act.put, List.setIfInBounds_toArray, List.set_cons_zero, List.set_cons_succ, NodeS.cells] at HX ⊢) | (refine sx_alloc HX rfl (by (first | exact z_op | exact z_res | exact z_node | exact z_reply | exact z_req)) ?_; clear HX; intro w b HX; simp only [Act.put, List.setIfInBounds_toArray, List.set_cons_zero, List.set_cons_succ]) | (refine sx_boxS HX rfl rfl ?_; clear HX; intro w b HX; simp only [Act.put, List.setIfInBounds_toArray, List.set_cons_zero, List.set_cons_succ]) | (refine sx_box1 HX rfl rfl rfl ?_; clear HX; intro w b HX; simp only [Act.put, List.setIfInBounds_toArray, List.set_cons_zero, List.set_cons_succ]))
        refine (write_any (n := n) (nv := .slice a2 n2 k2) HX.out zxid data HOK.out.ver.1 hdt).mono ?_
        rintro e w ⟨rfl, hx9⟩
        replace HX := Lib.hid hx9
        clear hx9
        cases only with
        | true =>
          go_wp2_with (first | (refine sx_loadS HX rfl rfl (by (first | exact sn_op | exact sn_res | exact sn_stat | exact sn_node | exact sn_reply | exact sn_req)) (by (repeat (first | (with_reducible exact List.mem_cons_self ..) | (with_reducible apply List.mem_cons_of_mem)))) rfl ?_; simp only [Act.put, List.setIfInBounds_toArray, List.set_cons_zero, List.set_cons_succ, List.drop_zero, List.drop_succ_cons, List.take_succ_cons, List.take_zero, List.toList_toArray, NodeS.cells]) | (refine sx_load HX rfl rfl (by kernel_rfl) (by (repeat (first | (with_reducible exact List.mem_cons_self ..) | (with_reducible apply List.mem_cons_of_mem)))) rfl ?_; simp only [Act.put, List.setIfInBounds_toArray, List.set_cons_zero, List.set_cons_succ]) | (refine sx_storeS HX rfl rfl rfl (by kernel_rfl) (by (repeat (first | (with_reducible exact Rep.here) | (with_reducible apply Rep.there)))) rfl rfl ?_; clear HX; intro w HX; simp only [Act.put, List.setIfInBounds_toArray, List.set_cons_zero, List.set_cons_succ, setMany, Nat.reduceAdd, NodeS.cells] at HX ⊢) | (refine sx_store1 HX rfl rfl rfl rfl (by kernel_rfl) (by (repeat (first | (with_reducible exact Rep.here) | (with_reducible apply Rep.there)))) rfl rfl ?_; clear HX; intro w HX; simp only [Act.put, List.setIfInBounds_toArray, List.set_cons_zero, List.set_cons_succ, NodeS.cells] at HX ⊢) | (refine sx_alloc HX rfl (by (first | exact z_op | exact z_res | exact z_node | exact z_reply | exact z_req)) ?_; clear HX; intro w b HX; simp only [Act.put, List.setIfInBounds_toArray, List.set_cons_zero, List.set_cons_succ]) | (refine sx_boxS HX rfl rfl ?_; clear HX; intro w b HX; simp only [Act.put, List.setIfInBounds_toArray, List.set_cons_zero, List.set_cons_succ]) | (refine sx_box1 HX rfl rfl rfl ?_; clear HX; intro w b HX; simp only [Act.put, List.setIfInBounds_toArray, List.set_cons_zero, List.set_cons_succ]))
          refine sx_ret HX rfl rfl (by (repeat (first | (with_reducible exact List.mem_cons_self ..) | (with_reducible apply List.mem_cons_of_mem)))) (by kernel_rfl) ?_
          have h8 := HB.out _ P _ (fun _ h => h) HX.out.back5x
          have h9 := Sep.up1 h8.cut1.cut1.cut1.cut1.cut1
          rw [← HS'.out, HE.out]
          exact res_nil (r := ⟨0, path, ⟨#[]⟩, [], (writeS n zxid data).st⟩) rfl h9
        | false =>
          have h8 := (HB.out _ P _ (fun _ h => h) HX.out.back5x)
          have h9 := (Sep.up6 (Sep.up2 h8)).perm (List.Perm.swap _ _ _)
          have h10 := (tree_mono (Sep.up1 h9.poolRow) (P' := (1, .slice a2 n2 k2, n.names.map sv) :: P) (fun q hq => List.mem_cons_of_mem _ hq)).up1.up2
          replace HX := Lib.hid h10
          clear h8 h9 h10
          go_wp2_with (first | (refine sx_loadS HX rfl rfl (by (first | exact sn_op | exact sn_res | exact sn_stat | exact sn_node | exact sn_reply | exact sn_req)) (by (repeat (first | (with_reducible exact List.mem_cons_self ..) | (with_reducible apply List.mem_cons_of_mem)))) rfl ?_; simp only [Act.put, List.setIfInBounds_toArray, List.set_cons_zero, List.set_cons_succ, List.drop_zero, List.drop_succ_cons, List.take_succ_cons, List.take_zero, List.toList_toArray, NodeS.cells]) | (refine sx_load HX rfl rfl (by kernel_rfl) (by (repeat (first | (with_reducible exact List.mem_cons_self ..) | (with_reducible apply List.mem_cons_of_mem)))) rfl ?_; simp only [Act.put, List.setIfInBounds_toArray, List.set_cons_zero, List.set_cons_succ]) | (refine sx_storeS HX rfl rfl rfl (by kernel_rfl) (by (repeat (first | (with_reducible exact Rep.here) | (with_reducible apply Rep.there)))) rfl rfl ?_; clear HX; intro w HX; simp only [Act.put, List.setIfInBounds_toArray, List.set_cons_zero, List.set_cons_succ, setMany, Nat.reduceAdd, NodeS.cells] at HX ⊢) | (refine sx_store1 HX rfl rfl rfl rfl (by kernel_rfl) (by (repeat (first | (with_reducible exact Rep.here) | (with_reducible apply Rep.there)))) rfl rfl ?_; clear HX; intro w HX; simp only [Act.put, List.setIfInBounds_toArray, List.set_cons_zero, List.set_cons_succ, NodeS.cells] at HX ⊢) | (refine sx_alloc HX rfl (by (first | exact z_op | exact z_res | exact z_node | exact z_reply | exact z_req)) ?_; clear HX; intro w b HX; simp only [Act.put, List.setIfInBounds_toArray, List.set_cons_zero, List.set_cons_succ]) | (refine sx_boxS HX rfl rfl ?_; clear HX; intro w b HX; simp only [Act.put, List.setIfInBounds_toArray, List.set_cons_zero, List.set_cons_succ]) | (refine sx_box1 HX rfl rfl rfl ?_; clear HX; intro w b HX; simp only [Act.put, List.setIfInBounds_toArray, List.set_cons_zero, List.set_cons_succ]))
          refine wp_region_M (fun W => W = w.drew) 6 (by kernel_rfl) ?_
          replace HX := Lib.hid HX.out.drew
          generalize w.drew = w at HX ⊢
          obtain ⟨m9, w9, hc9, hrun9, h9⟩ := tree_set HX.out (List.mem_cons_self ..) path HLK.out
          refine wpAnyM_take (by kernel_rfl) (by intro c a d v w h; cases d <;> exact h) [(0, false), (1, false), (2, false), (3, true), (4, false), (5, true)] (fuel := 1) (by kernel_rfl) ?_
          apply Exists.intro; refine ⟨?_, rfl, ?_⟩
          · iterate 6 ((first | ((apply yield_loadS HX); (· (simp only [List.getElem?_toArray, List.getElem?_cons_succ, List.getElem?_cons_zero]; try rfl)); (· rfl); (· rfl); (· (first | exact sn_op | exact sn_res | exact sn_stat | exact sn_node | exact sn_reply | exact sn_req)); (· (repeat (first | (with_reducible exact List.mem_cons_self ..) | (with_reducible apply List.mem_cons_of_mem)))); (· rfl)) | ((apply yield_load HX); (· (simp only [List.getElem?_toArray, List.getElem?_cons_succ, List.getElem?_cons_zero]; try rfl)); (· rfl); (· rfl); (· kernel_rfl); (· (repeat (first | (with_reducible exact List.mem_cons_self ..) | (with_reducible apply List.mem_cons_of_mem)))); (· rfl)) | (apply yieldN; (· (simp only [List.getElem?_toArray, List.getElem?_cons_succ, List.getElem?_cons_zero]; try rfl)); (· rfl)) | ((first | apply yieldP | apply yieldL); (· (simp only [List.getElem?_toArray, List.getElem?_cons_succ, List.getElem?_cons_zero]; try rfl)); (· rfl); (· (intros; go_simp; try with_reducible rfl)))); (· (simp only [Act.put, List.setIfInBounds_toArray, List.set_cons_zero, List.set_cons_succ, List.drop_zero, List.drop_succ_cons, List.take_succ_cons, List.take_zero, List.toList_toArray, NodeS.cells]; try rfl)))
            exact rfl
          refine wpAnyM_last (fuel := 0) (i := 6) (by rfl) (by kernel_rfl) (by rfl) (fun K hK => ?_)    -- mapUpdate
          clear HX
          have HX := Lib.hid h9
          clear h9
          go_wp2_with fail
          refine wpAnyM_done (by kernel_rfl) ?_ _
          go_wp2_with (first | (refine sx_loadS HX rfl rfl (by (first | exact sn_op | exact sn_res | exact sn_stat | exact sn_node | exact sn_reply | exact sn_req)) (by (repeat (first | (with_reducible exact List.mem_cons_self ..) | (with_reducible apply List.mem_cons_of_mem)))) rfl ?_; simp only [Act.put, List.setIfInBounds_toArray, List.set_cons_zero, List.set_cons_succ, List.drop_zero, List.drop_succ_cons, List.take_succ_cons, List.take_zero, List.toList_toArray, NodeS.cells]) | (refine sx_load HX rfl rfl (by kernel_rfl) (by (repeat (first | (with_reducible exact List.mem_cons_self ..) | (with_reducible apply List.mem_cons_of_mem)))) rfl ?_; simp only [Act.put, List.setIfInBounds_toArray, List.set_cons_zero, List.set_cons_succ]) | (refine sx_storeS HX rfl rfl rfl (by kernel_rfl) (by (repeat (first | (with_reducible exact Rep.here) | (with_reducible apply Rep.there)))) rfl rfl ?_; clear HX; intro w HX; simp only [Act.put, List.setIfInBounds_toArray, List.set_cons_zero, List.set_cons_succ, setMany, Nat.reduceAdd, NodeS.cells] at HX ⊢) | (refine sx_store1 HX rfl rfl rfl rfl (by kernel_rfl) (by (repeat (first | (with_reducible exact Rep.here) | (with_reducible apply Rep.there)))) rfl rfl ?_; clear HX; intro w HX; simp only [Act.put, List.setIfInBounds_toArray, List.set_cons_zero, List.set_cons_succ, NodeS.cells] at HX ⊢) | (refine sx_alloc HX rfl (by (first | exact z_op | exact z_res | exact z_node | exact z_reply | exact z_req)) ?_; clear HX; intro w b HX; simp only [Act.put, List.setIfInBounds_toArray, List.set_cons_zero, List.set_cons_succ]) | (refine sx_boxS HX rfl rfl ?_; clear HX; intro w b HX; simp only [Act.put, List.setIfInBounds_toArray, List.set_cons_zero, List.set_cons_succ]) | (refine sx_box1 HX rfl rfl rfl ?_; clear HX; intro w b HX; simp only [Act.put, List.setIfInBounds_toArray, List.set_cons_zero, List.set_cons_succ]))
          refine sx_ret HX rfl rfl (by (repeat (first | (with_reducible exact List.mem_cons_self ..) | (with_reducible apply List.mem_cons_of_mem)))) (by kernel_rfl) ?_
          have h9 := HX.out.cut2.cut2.cut2
          rw [← HS'.out, HE.out]
          obtain ⟨nv', P9, h1, h2, h3, h4⟩ := res_nil (r := ⟨0, path, ⟨#[]⟩, [], (writeS n zxid data).st⟩) rfl h9
          exact ⟨nv', P9, h1, fun r hr => h2 r (List.mem_cons_of_mem _ hr), h3, h4⟩
      have q3 : (kind == 3) = false := by rw [beq_eq_false_iff_ne]; exact hk3
      have HE := Lib.hid (show rr = (⟨0, path, ⟨#[]⟩, [], noSt⟩, S) by rw [← HRZ.out, if_neg hk3])
      clear HRZ hk3
      go_wp2_with (first | (refine sx_loadS HX rfl rfl (by (first | exact sn_op | exact sn_res | exact sn_stat | exact sn_node | exact sn_reply | exact sn_req)) (by (repeat (first | (with_reducible exact List.mem_cons_self ..) | (with_reducible apply List.mem_cons_of_mem)))) rfl ?_; simp only [Act.put, List.setIfInBounds_toArray, List.set_cons_zero, List.set_cons_succ, List.drop_zero, List.drop_succ_cons, List.take_succ_cons, List.take_zero, List.toList_toArray, NodeS.cells]) | (refine sx_load HX rfl rfl (by kernel_rfl) (by (repeat (first | (with_reducible exact List.mem_cons_self ..) | (with_reducible apply List.mem_cons_of_mem)))) rfl ?_; simp only [Act.put, List.setIfInBounds_toArray, List.set_cons_zero, List.set_cons_succ]) | (refine sx_storeS HX rfl rfl rfl (by kernel_rfl) (by (repeat (first | (with_reducible exact Rep.here) | (with_reducible apply Rep.there)))) rfl rfl ?_; clear HX; intro w HX; simp only [Act.put, List.setIfInBounds_toArray, List.set_cons_zero, List.set_cons_succ, setMany, Nat.reduceAdd, NodeS.cells] at HX ⊢) | (refine sx_store1 HX rfl rfl rfl rfl (by kernel_rfl) (by (repeat (first | (with_reducible exact Rep.here) | (with_reducible apply Rep.there)))) rfl rfl ?_; clear HX; intro w HX; simp only [Act.put, List.setIfInBounds_toArray, List.set_cons_zero, List.set_cons_succ, NodeS.cells] at HX ⊢) | (refine sx_alloc HX rfl (by (first | exact z_op | exact z_res | exact z_node | exact z_reply | exact z_req)) ?_; clear HX; intro w b HX; simp only [Act.put, List.setIfInBounds_toArray, List.set_cons_zero, List.set_cons_succ]) | (refine sx_boxS HX rfl rfl ?_; clear HX; intro w b HX; simp only [Act.put, List.setIfInBounds_toArray, List.set_cons_zero, List.set_cons_succ]) | (refine sx_box1 HX rfl rfl rfl ?_; clear HX; intro w b HX; simp only [Act.put, List.setIfInBounds_toArray, List.set_cons_zero, List.set_cons_succ]))
      refine sx_ret HX rfl rfl (by (repeat (first | (with_reducible exact List.mem_cons_self ..) | (with_reducible apply List.mem_cons_of_mem)))) (by kernel_rfl) ?_
      have h9 := (HB.out _ P _ (fun _ h => h) (HX.out.drop.drop.drop)).perm (List.Perm.swap _ _ _)
      rw [← HS'.out, HE.out]
      refine res_nil (r := ⟨0, path, ⟨#[]⟩, [], noSt⟩) rfl ?_
      cases only <;> exact h9
end
end Go.Proofs.YtjeaoopamebgjaaGreatDoor
