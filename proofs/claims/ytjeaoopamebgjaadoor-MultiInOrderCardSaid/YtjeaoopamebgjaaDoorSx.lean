/-
  The walk by what lies in memory: a load, a store, a making, told by the list of things alone; the world itself is never spelled.
-/
import Derived.Test.YtjeaoopamebgjaaDoorRetA
import Derived.Deep.MidRow
import Derived.Test.YtjeaoopamebgjaaDoorReg
namespace Go.Av
open Go.RowKit
/-- One thing of a list in the place of another. -/
inductive Rep (T T' : Thing) : List Thing → List Thing → Prop
  | here {R : List Thing} : Rep T T' (T :: R) (T' :: R)
  | there {U : Thing} {R R' : List Thing} : Rep T T' R R' → Rep T T' (U :: R) (U :: R')
theorem Rep.out {T T' : Thing} {A B : List Thing} (h : Rep T T' A B) : ∃ X, A.Perm (T :: X) ∧ (T' :: X).Perm B := by
  induction h with
  | here => exact ⟨_, .refl _, .refl _⟩
  | there _ ih =>
    obtain ⟨X, h1, h2⟩ := ih
    exact ⟨_ :: X, (h1.cons _).trans (.swap _ _ _), (List.Perm.swap _ _ _).trans (h2.cons _)⟩
theorem Rep.mem {T T' : Thing} {A B : List Thing} (h : Rep T T' A B) : T ∈ A := by
  induction h with
  | here => exact List.mem_cons_self ..
  | there _ ih => exact List.mem_cons_of_mem _ ih
section
variable {w0 w : World} {Ts Ts' R : List Thing} {rows : List (Value × Bs)}
theorem Sep.rep {T T' : Thing} (h : Sep w0 w Ts rows) (hr : Rep T T' Ts Ts') {w' : World} (hu : ∀ D, T.P w D → ∃ D', T'.P w' D' ∧ Upd w w' D D') : Sep w0 w' Ts' rows := by
  obtain ⟨X, h1, h2⟩ := hr.out
  exact ((h.perm h1).to hu).perm h2
theorem Sep.mem {T : Thing} (h : Sep w0 w Ts rows) (hm : T ∈ Ts) : ∃ D, T.P w D := h.has hm
/-- Some of the things, in whatever order. -/
theorem sel_perm : ∀ (idx : List Nat) (A B : List Thing), idx.map (A[·]?) = B.map some → idx.Nodup → ∃ X, A.Perm (B ++ X)
  | [], A, B, h, _ => by
    cases B with
    | nil => exact ⟨A, .refl _⟩
    | cons b B => cases h
  | i :: idx, A, B, h, hn => by
    cases B with
    | nil => cases h
    | cons b B =>
      simp only [List.map_cons, List.cons.injEq] at h
      obtain ⟨hi, hr⟩ := h
      rw [List.nodup_cons] at hn
      have hlt : i < A.length := (List.getElem?_eq_some_iff.1 hi).1
      have hrr : (idx.map fun j => if j < i then j else j - 1).map ((A.eraseIdx i)[·]?) = B.map some := by
        rw [← hr, List.map_map]
        apply List.map_congr_left
        intro j hj
        have hne : j ≠ i := fun e => hn.1 (e ▸ hj)
        simp only [Function.comp]
        rw [List.getElem?_eraseIdx]
        by_cases hji : j < i
        · rw [if_pos hji, if_pos hji]
        · rw [if_neg hji, if_neg (by omega)]
          congr 1; omega
      have hnn : (idx.map fun j => if j < i then j else j - 1).Nodup := by
        have h1 : idx.Pairwise (fun j k => j ≠ k ∧ j ≠ i ∧ k ≠ i) := List.Pairwise.imp_of_mem (fun hj hk hjk => ⟨hjk, fun e => hn.1 (e ▸ hj), fun e => hn.1 (e ▸ hk)⟩) hn.2
        refine List.pairwise_map.2 (List.Pairwise.imp ?_ h1)
        intro j k ⟨h1, h2, h3⟩
        split <;> split <;> omega
      obtain ⟨X, hX⟩ := sel_perm _ _ _ hrr hnn
      exact ⟨X, (perm_pick hi rfl).symm.trans (hX.cons b)⟩
theorem Lie.left {w : World} {A B : List Thing} {D : List Nat} (h : Lie w (A ++ B) D) : ∃ E, Lie w A E ∧ ∀ b ∈ E, b ∈ D := by
  obtain ⟨D1, E1, rfl, hA, hB, _⟩ := h.split
  exact ⟨D1, hA, fun b hb => by simp [hb]⟩
theorem Sep.take {A B : List Thing} (h : Sep w0 w (A ++ B) rows) : Sep w0 w A rows := by
  obtain ⟨D, hl, hu, hr⟩ := h
  obtain ⟨E, hE, hsub⟩ := hl.left
  exact ⟨E, hE, hu.mono (by simp) (fun b hb => .inl (hsub b hb)), hr.sub hsub⟩
/-- The things at these places, in this order; all others are let go. -/
theorem Sep.sel {B : List Thing} (h : Sep w0 w Ts rows) (idx : List Nat) (hB : idx.map (Ts[·]?) = B.map some) (hn : idx.Nodup := by decide) : Sep w0 w B rows := by
  obtain ⟨X, hX⟩ := sel_perm idx Ts B hB hn
  exact (h.perm hX).take
theorem Sep.up1 {x0 x1 : Thing} {R : List Thing} (hh : Sep w0 w (x0 :: x1 :: R) rows) : Sep w0 w (x1 :: x0 :: R) rows := hh.pick 1 rfl rfl
theorem Sep.cut1 {x0 x1 : Thing} {R : List Thing} (hh : Sep w0 w (x0 :: x1 :: R) rows) : Sep w0 w (x0 :: R) rows := (hh.pick 1 rfl rfl).drop
theorem Sep.up2 {x0 x1 x2 : Thing} {R : List Thing} (hh : Sep w0 w (x0 :: x1 :: x2 :: R) rows) : Sep w0 w (x2 :: x0 :: x1 :: R) rows := hh.pick 2 rfl rfl
theorem Sep.cut2 {x0 x1 x2 : Thing} {R : List Thing} (hh : Sep w0 w (x0 :: x1 :: x2 :: R) rows) : Sep w0 w (x0 :: x1 :: R) rows := (hh.pick 2 rfl rfl).drop
theorem Sep.up3 {x0 x1 x2 x3 : Thing} {R : List Thing} (hh : Sep w0 w (x0 :: x1 :: x2 :: x3 :: R) rows) : Sep w0 w (x3 :: x0 :: x1 :: x2 :: R) rows := hh.pick 3 rfl rfl
theorem Sep.cut3 {x0 x1 x2 x3 : Thing} {R : List Thing} (hh : Sep w0 w (x0 :: x1 :: x2 :: x3 :: R) rows) : Sep w0 w (x0 :: x1 :: x2 :: R) rows := (hh.pick 3 rfl rfl).drop
theorem Sep.up4 {x0 x1 x2 x3 x4 : Thing} {R : List Thing} (hh : Sep w0 w (x0 :: x1 :: x2 :: x3 :: x4 :: R) rows) : Sep w0 w (x4 :: x0 :: x1 :: x2 :: x3 :: R) rows := hh.pick 4 rfl rfl
theorem Sep.cut4 {x0 x1 x2 x3 x4 : Thing} {R : List Thing} (hh : Sep w0 w (x0 :: x1 :: x2 :: x3 :: x4 :: R) rows) : Sep w0 w (x0 :: x1 :: x2 :: x3 :: R) rows := (hh.pick 4 rfl rfl).drop
theorem Sep.up5 {x0 x1 x2 x3 x4 x5 : Thing} {R : List Thing} (hh : Sep w0 w (x0 :: x1 :: x2 :: x3 :: x4 :: x5 :: R) rows) : Sep w0 w (x5 :: x0 :: x1 :: x2 :: x3 :: x4 :: R) rows := hh.pick 5 rfl rfl
theorem Sep.cut5 {x0 x1 x2 x3 x4 x5 : Thing} {R : List Thing} (hh : Sep w0 w (x0 :: x1 :: x2 :: x3 :: x4 :: x5 :: R) rows) : Sep w0 w (x0 :: x1 :: x2 :: x3 :: x4 :: R) rows := (hh.pick 5 rfl rfl).drop
theorem Sep.up6 {x0 x1 x2 x3 x4 x5 x6 : Thing} {R : List Thing} (hh : Sep w0 w (x0 :: x1 :: x2 :: x3 :: x4 :: x5 :: x6 :: R) rows) : Sep w0 w (x6 :: x0 :: x1 :: x2 :: x3 :: x4 :: x5 :: R) rows := hh.pick 6 rfl rfl
theorem Sep.cut6 {x0 x1 x2 x3 x4 x5 x6 : Thing} {R : List Thing} (hh : Sep w0 w (x0 :: x1 :: x2 :: x3 :: x4 :: x5 :: x6 :: R) rows) : Sep w0 w (x0 :: x1 :: x2 :: x3 :: x4 :: x5 :: R) rows := (hh.pick 6 rfl rfl).drop
theorem Sep.up7 {x0 x1 x2 x3 x4 x5 x6 x7 : Thing} {R : List Thing} (hh : Sep w0 w (x0 :: x1 :: x2 :: x3 :: x4 :: x5 :: x6 :: x7 :: R) rows) : Sep w0 w (x7 :: x0 :: x1 :: x2 :: x3 :: x4 :: x5 :: x6 :: R) rows := hh.pick 7 rfl rfl
theorem Sep.cut7 {x0 x1 x2 x3 x4 x5 x6 x7 : Thing} {R : List Thing} (hh : Sep w0 w (x0 :: x1 :: x2 :: x3 :: x4 :: x5 :: x6 :: x7 :: R) rows) : Sep w0 w (x0 :: x1 :: x2 :: x3 :: x4 :: x5 :: x6 :: R) rows := (hh.pick 7 rfl rfl).drop
theorem Sep.up8 {x0 x1 x2 x3 x4 x5 x6 x7 x8 : Thing} {R : List Thing} (hh : Sep w0 w (x0 :: x1 :: x2 :: x3 :: x4 :: x5 :: x6 :: x7 :: x8 :: R) rows) : Sep w0 w (x8 :: x0 :: x1 :: x2 :: x3 :: x4 :: x5 :: x6 :: x7 :: R) rows := hh.pick 8 rfl rfl
theorem Sep.cut8 {x0 x1 x2 x3 x4 x5 x6 x7 x8 : Thing} {R : List Thing} (hh : Sep w0 w (x0 :: x1 :: x2 :: x3 :: x4 :: x5 :: x6 :: x7 :: x8 :: R) rows) : Sep w0 w (x0 :: x1 :: x2 :: x3 :: x4 :: x5 :: x6 :: x7 :: R) rows := (hh.pick 8 rfl rfl).drop
theorem Sep.up9 {x0 x1 x2 x3 x4 x5 x6 x7 x8 x9 : Thing} {R : List Thing} (hh : Sep w0 w (x0 :: x1 :: x2 :: x3 :: x4 :: x5 :: x6 :: x7 :: x8 :: x9 :: R) rows) : Sep w0 w (x9 :: x0 :: x1 :: x2 :: x3 :: x4 :: x5 :: x6 :: x7 :: x8 :: R) rows := hh.pick 9 rfl rfl
theorem Sep.cut9 {x0 x1 x2 x3 x4 x5 x6 x7 x8 x9 : Thing} {R : List Thing} (hh : Sep w0 w (x0 :: x1 :: x2 :: x3 :: x4 :: x5 :: x6 :: x7 :: x8 :: x9 :: R) rows) : Sep w0 w (x0 :: x1 :: x2 :: x3 :: x4 :: x5 :: x6 :: x7 :: x8 :: R) rows := (hh.pick 9 rfl rfl).drop
theorem Sep.up10 {x0 x1 x2 x3 x4 x5 x6 x7 x8 x9 x10 : Thing} {R : List Thing} (hh : Sep w0 w (x0 :: x1 :: x2 :: x3 :: x4 :: x5 :: x6 :: x7 :: x8 :: x9 :: x10 :: R) rows) : Sep w0 w (x10 :: x0 :: x1 :: x2 :: x3 :: x4 :: x5 :: x6 :: x7 :: x8 :: x9 :: R) rows := hh.pick 10 rfl rfl
theorem Sep.cut10 {x0 x1 x2 x3 x4 x5 x6 x7 x8 x9 x10 : Thing} {R : List Thing} (hh : Sep w0 w (x0 :: x1 :: x2 :: x3 :: x4 :: x5 :: x6 :: x7 :: x8 :: x9 :: x10 :: R) rows) : Sep w0 w (x0 :: x1 :: x2 :: x3 :: x4 :: x5 :: x6 :: x7 :: x8 :: x9 :: R) rows := (hh.pick 10 rfl rfl).drop
theorem Sep.up11 {x0 x1 x2 x3 x4 x5 x6 x7 x8 x9 x10 x11 : Thing} {R : List Thing} (hh : Sep w0 w (x0 :: x1 :: x2 :: x3 :: x4 :: x5 :: x6 :: x7 :: x8 :: x9 :: x10 :: x11 :: R) rows) : Sep w0 w (x11 :: x0 :: x1 :: x2 :: x3 :: x4 :: x5 :: x6 :: x7 :: x8 :: x9 :: x10 :: R) rows := hh.pick 11 rfl rfl
theorem Sep.cut11 {x0 x1 x2 x3 x4 x5 x6 x7 x8 x9 x10 x11 : Thing} {R : List Thing} (hh : Sep w0 w (x0 :: x1 :: x2 :: x3 :: x4 :: x5 :: x6 :: x7 :: x8 :: x9 :: x10 :: x11 :: R) rows) : Sep w0 w (x0 :: x1 :: x2 :: x3 :: x4 :: x5 :: x6 :: x7 :: x8 :: x9 :: x10 :: R) rows := (hh.pick 11 rfl rfl).drop
theorem Sep.up12 {x0 x1 x2 x3 x4 x5 x6 x7 x8 x9 x10 x11 x12 : Thing} {R : List Thing} (hh : Sep w0 w (x0 :: x1 :: x2 :: x3 :: x4 :: x5 :: x6 :: x7 :: x8 :: x9 :: x10 :: x11 :: x12 :: R) rows) : Sep w0 w (x12 :: x0 :: x1 :: x2 :: x3 :: x4 :: x5 :: x6 :: x7 :: x8 :: x9 :: x10 :: x11 :: R) rows := hh.pick 12 rfl rfl
theorem Sep.cut12 {x0 x1 x2 x3 x4 x5 x6 x7 x8 x9 x10 x11 x12 : Thing} {R : List Thing} (hh : Sep w0 w (x0 :: x1 :: x2 :: x3 :: x4 :: x5 :: x6 :: x7 :: x8 :: x9 :: x10 :: x11 :: x12 :: R) rows) : Sep w0 w (x0 :: x1 :: x2 :: x3 :: x4 :: x5 :: x6 :: x7 :: x8 :: x9 :: x10 :: x11 :: R) rows := (hh.pick 12 rfl rfl).drop
theorem Sep.up13 {x0 x1 x2 x3 x4 x5 x6 x7 x8 x9 x10 x11 x12 x13 : Thing} {R : List Thing} (hh : Sep w0 w (x0 :: x1 :: x2 :: x3 :: x4 :: x5 :: x6 :: x7 :: x8 :: x9 :: x10 :: x11 :: x12 :: x13 :: R) rows) : Sep w0 w (x13 :: x0 :: x1 :: x2 :: x3 :: x4 :: x5 :: x6 :: x7 :: x8 :: x9 :: x10 :: x11 :: x12 :: R) rows := hh.pick 13 rfl rfl
theorem Sep.cut13 {x0 x1 x2 x3 x4 x5 x6 x7 x8 x9 x10 x11 x12 x13 : Thing} {R : List Thing} (hh : Sep w0 w (x0 :: x1 :: x2 :: x3 :: x4 :: x5 :: x6 :: x7 :: x8 :: x9 :: x10 :: x11 :: x12 :: x13 :: R) rows) : Sep w0 w (x0 :: x1 :: x2 :: x3 :: x4 :: x5 :: x6 :: x7 :: x8 :: x9 :: x10 :: x11 :: x12 :: R) rows := (hh.pick 13 rfl rfl).drop
theorem Sep.up14 {x0 x1 x2 x3 x4 x5 x6 x7 x8 x9 x10 x11 x12 x13 x14 : Thing} {R : List Thing} (hh : Sep w0 w (x0 :: x1 :: x2 :: x3 :: x4 :: x5 :: x6 :: x7 :: x8 :: x9 :: x10 :: x11 :: x12 :: x13 :: x14 :: R) rows) : Sep w0 w (x14 :: x0 :: x1 :: x2 :: x3 :: x4 :: x5 :: x6 :: x7 :: x8 :: x9 :: x10 :: x11 :: x12 :: x13 :: R) rows := hh.pick 14 rfl rfl
theorem Sep.cut14 {x0 x1 x2 x3 x4 x5 x6 x7 x8 x9 x10 x11 x12 x13 x14 : Thing} {R : List Thing} (hh : Sep w0 w (x0 :: x1 :: x2 :: x3 :: x4 :: x5 :: x6 :: x7 :: x8 :: x9 :: x10 :: x11 :: x12 :: x13 :: x14 :: R) rows) : Sep w0 w (x0 :: x1 :: x2 :: x3 :: x4 :: x5 :: x6 :: x7 :: x8 :: x9 :: x10 :: x11 :: x12 :: x13 :: R) rows := (hh.pick 14 rfl rfl).drop
theorem Sep.back2x {a b n t m l : Thing} {R : List Thing} (h : Sep w0 w (a :: b :: n :: t :: m :: l :: R) rows) : Sep w0 w (n :: t :: m :: l :: a :: b :: R) rows := h.perm (List.perm_append_comm (l₁ := [a, b]) (l₂ := [n, t, m, l]) |>.append_right R)
theorem Sep.back3x {a b c n t m l : Thing} {R : List Thing} (h : Sep w0 w (a :: b :: c :: n :: t :: m :: l :: R) rows) : Sep w0 w (n :: t :: m :: l :: a :: b :: c :: R) rows := h.perm (List.perm_append_comm (l₁ := [a, b, c]) (l₂ := [n, t, m, l]) |>.append_right R)
theorem Sep.back4x {a b c d n t m l : Thing} {R : List Thing} (h : Sep w0 w (a :: b :: c :: d :: n :: t :: m :: l :: R) rows) : Sep w0 w (n :: t :: m :: l :: a :: b :: c :: d :: R) rows := h.perm (List.perm_append_comm (l₁ := [a, b, c, d]) (l₂ := [n, t, m, l]) |>.append_right R)
theorem Sep.back5x {a b c d e n t m l : Thing} {R : List Thing} (h : Sep w0 w (a :: b :: c :: d :: e :: n :: t :: m :: l :: R) rows) : Sep w0 w (n :: t :: m :: l :: a :: b :: c :: d :: e :: R) rows := h.perm (List.perm_append_comm (l₁ := [a, b, c, d, e]) (l₂ := [n, t, m, l]) |>.append_right R)
/-- Of the first n things those at these places, in this order; then all behind the first n. -/
theorem Sep.pm {A B : List Thing} (h : Sep w0 w A rows) (n : Nat) (idx : List Nat) (h1 : idx.map ((A.take n)[·]?) = (B.take idx.length).map some) (h2 : B.drop idx.length = A.drop n) (hn : idx.Nodup := by decide) : Sep w0 w B rows := by
  obtain ⟨X, hX⟩ := sel_perm idx (A.take n) (B.take idx.length) h1 hn
  have e : A.Perm (B ++ X) := by
    have h3 : (A.take n ++ A.drop n).Perm ((B.take idx.length ++ X) ++ A.drop n) := hX.append_right _
    rw [List.take_append_drop, ← h2] at h3
    refine h3.trans ?_
    conv => rhs; rw [← List.take_append_drop idx.length B]
    rw [List.append_assoc, List.append_assoc]
    exact List.Perm.append_left _ List.perm_append_comm
  exact (h.perm e).take
/-- The things at these places ahead, all others (X) behind. -/
theorem Sep.front {A B : List Thing} (h : Sep w0 w Ts rows) (hp : Ts.Perm (A ++ B)) : Sep w0 w (A ++ B) rows := h.perm hp
end
/-! ### cells written, one behind the other -/
def setMany (cs : Array Value) : Nat → List Value → Array Value
  | _, [] => cs
  | i, v :: r => setMany (cs.setIfInBounds i v) (i + 1) r
theorem setMany_eq : ∀ (vs : List Value) (cs : Array Value) (i : Nat), i + vs.length ≤ cs.size → setMany cs i vs = (cs.toList.take i ++ vs ++ cs.toList.drop (i + vs.length)).toArray
  | [], cs, i, _ => by simp [setMany]
  | v :: r, cs, i, h => by
    simp only [List.length_cons] at h
    unfold setMany
    rw [setMany_eq r _ _ (by simp; omega)]
    congr 1
    have e := list_seg_step cs.toList i v r (by simp at h ⊢; omega)
    simpa [Array.toList_setIfInBounds, Nat.add_assoc] using e
/-- Is a type's value one cell? -/
def scalarB (P : Program) (ty : TypeId) : Bool := match P.underlying ty with
  | some (.struct _) | some (.array _ _) => false
  | some _ => true
  | none => false
def structB (P : Program) (ty : TypeId) (n : Nat) : Bool := (match P.underlying ty with
  | some (.struct _) | some (.array _ _) => true
  | _ => false) && (match P.info? ty with | some i => i.size == n | none => false)
/-- A struct type of so many cells. -/
structure StructN (P : Program) (ty : TypeId) (n : Nat) : Prop where
  is : structB P ty n = true
def sizeB (P : Program) (ty : TypeId) (n : Nat) : Bool := match P.info? ty with | some i => i.size == n | none => false
def zeroB (P : Program) (ty : TypeId) (zs : Array Value) : Prop := ((P.info? ty).bind (·.zero)).map Value.cells = some zs
section
variable {P : Program} {w : World}
theorem run_load_scalar {ty : TypeId} {A : Addr} {v : Value} (hs : scalarB P ty = true) (hc : w.cell? A = some v) : (Instr.loadAt ty (.pointer (some A))).run P w = .ok v w := by
  unfold scalarB at hs
  cases hu : P.underlying ty with
  | none => simp [hu] at hs
  | some d =>
    have hagg : (isAgg ty).run P w = .ok false w := by
      unfold isAgg
      rw [Sem.run_bind, run_underlying hu w]
      rw [hu] at hs
      cases d <;> simp_all
    simp [Instr.loadAt, Instr.sureAddr, Sem.run_bind, loadVar, hagg, hc]
theorem run_load_struct {ty : TypeId} {b i : Nat} {cs : Array Value} {T : TypeId} {fr : Nat × Nat} {n : Nat} (hs : structB P ty n = true) (hb : w.heap[b]? = some (.cells cs T fr)) (hn : i + n ≤ cs.size) :
    (Instr.loadAt ty (.pointer (some ⟨b, i, none⟩))).run P w = .ok (.agg ((cs.toList.drop i).take n).toArray) w := by
  unfold structB at hs
  rw [Bool.and_eq_true] at hs
  obtain ⟨h1, h2⟩ := hs
  have hlen : ((cs.toList.drop i).take n).length = n := by simp; omega
  cases hi : P.info? ty with
  | none => simp [hi] at h2
  | some ii =>
    simp only [hi, beq_iff_eq] at h2
    cases hu : P.underlying ty with
    | none => simp [hu] at h1
    | some d =>
      refine run_loadAt_mid w b i ty _ d (fun j v hv => ?_) hu (by rw [hu] at h1; cases d <;> simp_all) (by rw [hi, hlen]; simpa using h2)
      rw [cell_of_row w b (i + j) cs T fr hb]
      rw [List.getElem?_take] at hv
      split at hv
      · rw [List.getElem?_drop] at hv; simpa using hv
      · cases hv
theorem run_store_cells {ty : TypeId} {b i : Nat} {cs : Array Value} {T : TypeId} {v : Value} (hs : sizeB P ty v.cells.size = true) (hb : w.heap[b]? = some (.cells cs T (0, 0))) (hn : i + v.cells.size ≤ cs.size) (h1 : v.cells.all (·.oneCell') = true) :
    (Instr.storeAt ty (.pointer (some ⟨b, i, none⟩)) v).run P w = .ok () (w.setCells b i v.cells.toList) := by
  unfold sizeB at hs
  cases hi : P.info? ty with
  | none => simp [hi] at hs
  | some ii =>
    simp only [hi, beq_iff_eq] at hs
    have := run_storeCells_cells (P := P) b i v.cells.toList 0 w (fun j hj => by
        rw [Nat.add_zero, cell_of_row w b (i + j) cs T (0, 0) hb]
        simp at hj
        rw [Array.getElem?_eq_getElem (by omega)]; rfl) (fun j hj => by rw [Nat.add_zero]; exact frz_of hb _)
      (fun v hv => (Array.all_eq_true_iff_forall_mem.1 h1) v (by simpa using hv))
    simp only [Nat.add_zero] at this
    simp [Instr.storeAt, Instr.sureAddr, Sem.run_bind, storeVar, sizeOf, typeInfo, hi, hs, this]
theorem run_alloc_zero {ty : TypeId} {zs : Array Value} (hz : zeroB P ty zs) : (Instr.alloc ty true (.tuple #[])).run P w = .ok (.pointer (some ⟨w.heap.size, 0, none⟩)) (w.alloc (.cells zs ty)) := by
  unfold zeroB at hz
  cases hi : P.info? ty with
  | none => simp [hi] at hz
  | some ii =>
    simp only [hi, Option.bind_some] at hz
    cases hzz : ii.zero with
    | none => simp [hzz] at hz
    | some z =>
      simp only [hzz, Option.map_some, Option.some.injEq] at hz
      subst hz
      simp [Instr.alloc, Sem.run_bind, zeroValue, typeInfo, hi, hzz, newVar, newRow]
end
theorem drop_cell {cs : Array Value} {i : Nat} {v : Value} {tl : List Value} (h : cs.toList.drop i = v :: tl) : cs[i]? = some v := by
  have h1 : (cs.toList.drop i)[0]? = some v := by rw [h]; rfl
  rw [List.getElem?_drop] at h1
  simpa using h1
/-! ### the steps -/
section
variable {P : Program} {ops : Array Oper} {Q : Exit → Act → World → Prop} {a : Act} {w w0 : World} {rest : List Oper} {Ts Ts' : List Thing} {rows : List (Value × Bs)}
  {dst : Option Tmp} {ty tyy : TypeId} {x y : Operand} {pos : String} {aft : Array Edge} {g : Option (Nat × Bool)} {b i : Nat} {cs : Array Value} {T : TypeId} {v : Value}
theorem wpList_ran {o : Oper} {w' : World} (hw : Region.wanted o (yielded ops a.tmps) = true) (hr : (execOp a.eval o).run P w = .ok (.value v) w') (k : wpList P ops Q rest (a.put o.dst v) w') : wpList P ops Q (o :: rest) a w := by
  unfold wpList
  rw [if_pos hw]
  refine .inl ?_
  unfold Oper.wp
  rw [hr, Oper.upon_value]
  exact k
theorem wpList_did {o : Oper} {w' : World} (hw : Region.wanted o (yielded ops a.tmps) = true) (hr : (execOp a.eval o).run P w = .ok .skip w') (k : wpList P ops Q rest (a.put o.dst undef) w') : wpList P ops Q (o :: rest) a w := by
  unfold wpList
  rw [if_pos hw]
  refine .inl ?_
  unfold Oper.wp
  rw [hr, Oper.upon_skip]
  exact k
theorem run_val {s : Sem Value} {w' : World} (h : s.run P w = .ok v w') : (do pure (Next.value (← s)) : Sem Next).run P w = .ok (.value v) w' := by
  simp [Sem.run_bind, h]
theorem sx_load (H : Hid (Sep w0 w Ts rows)) (hx : a.eval x = .pointer (some ⟨b, i, none⟩)) (hw : Region.wanted ⟨dst, .load ty x, tyy, pos, aft, g⟩ (yielded ops a.tmps) = true) (hs : scalarB P ty = true) (hm : ThCell b (.cells cs T (0, 0)) ∈ Ts)
    {tl : List Value} (hv : cs.toList.drop i = v :: tl) (k : wpList P ops Q rest (a.put dst v) w) : wpList P ops Q (⟨dst, .load ty x, tyy, pos, aft, g⟩ :: rest) a w := by
  refine wpList_ran hw ?_ k
  unfold execOp
  dsimp only
  rw [hx]
  exact run_val (run_load_scalar hs (cell_of (Sep.block H hm) i (drop_cell hv)))
theorem sx_loadS (H : Hid (Sep w0 w Ts rows)) (hx : a.eval x = .pointer (some ⟨b, i, none⟩)) (hw : Region.wanted ⟨dst, .load ty x, tyy, pos, aft, g⟩ (yielded ops a.tmps) = true) {n : Nat} (hs : StructN P ty n) (hm : ThCell b (.cells cs T (0, 0)) ∈ Ts)
    (hn : Nat.ble (i + n) cs.size = true) (k : wpList P ops Q rest (a.put dst (.agg ((cs.toList.drop i).take n).toArray)) w) : wpList P ops Q (⟨dst, .load ty x, tyy, pos, aft, g⟩ :: rest) a w := by
  refine wpList_ran hw ?_ k
  unfold execOp
  dsimp only
  rw [hx]
  exact run_val (run_load_struct hs.1 (Sep.block H hm) (Nat.le_of_ble_eq_true hn))
theorem sx_storeS (H : Hid (Sep w0 w Ts rows)) (hx : a.eval x = .pointer (some ⟨b, i, none⟩)) {vs : List Value} (hy : a.eval y = .agg vs.toArray) (hw : Region.wanted ⟨dst, .store ty x y, tyy, pos, aft, g⟩ (yielded ops a.tmps) = true) (hs : sizeB P ty vs.length = true)
    (hr : Rep (ThCell b (.cells cs T (0, 0))) (ThCell b (.cells (setMany cs i vs) T (0, 0))) Ts Ts') (hn : Nat.ble (i + vs.length) cs.size = true) (h1 : vs.all (·.oneCell') = true)
    (k : ∀ w', Hid (Sep w0 w' Ts' rows) → wpList P ops Q rest (a.put dst undef) w') : wpList P ops Q (⟨dst, .store ty x y, tyy, pos, aft, g⟩ :: rest) a w := by
  have hn := Nat.le_of_ble_eq_true hn
  have e : (Value.agg vs.toArray).cells = vs.toArray := rfl
  refine wpList_did hw ?_ (k (w.setCells b i vs) ?_)
  · unfold execOp
    dsimp only
    have := run_store_cells (P := P) (w := w) (ty := ty) (b := b) (i := i) (cs := cs) (T := T) (v := .agg vs.toArray) (by rw [e]; simpa using hs) (Sep.block H hr.mem) (by rw [e]; simpa using hn) (by rw [e]; simpa using h1)
    rw [e] at this
    rw [hx, hy, Sem.run_bind, this]
    rfl
  · refine Sep.rep H hr fun D hP => ?_
    obtain ⟨hb, rfl⟩ := hP
    obtain ⟨h1, h2, h3⟩ := rest_setCells b vs i w
    refine ⟨[b], ⟨?_, rfl⟩, ⟨h1, h2, h3, by rw [size_setCells]; exact Nat.le_refl _, fun k _ hn => heap_setCells_other b k (fun e => hn (by simp [e])) _ i w, fun k hk => .inl hk⟩⟩
    rw [heap_setCells_same b T _ i w cs hb hn, setMany_eq _ _ _ hn]
theorem sx_store1 (H : Hid (Sep w0 w Ts rows)) (hx : a.eval x = .pointer (some ⟨b, i, none⟩)) (hy : a.eval y = v) (hc : v.cells = #[v]) (hw : Region.wanted ⟨dst, .store ty x y, tyy, pos, aft, g⟩ (yielded ops a.tmps) = true) (hs : sizeB P ty 1 = true)
    (hr : Rep (ThCell b (.cells cs T (0, 0))) (ThCell b (.cells (cs.setIfInBounds i v) T (0, 0))) Ts Ts') (hn : Nat.ble (i + 1) cs.size = true) (h1 : v.oneCell' = true)
    (k : ∀ w', Hid (Sep w0 w' Ts' rows) → wpList P ops Q rest (a.put dst undef) w') : wpList P ops Q (⟨dst, .store ty x y, tyy, pos, aft, g⟩ :: rest) a w := by
  have hn := Nat.le_of_ble_eq_true hn
  refine wpList_did hw ?_ (k (w.setCells b i [v]) ?_)
  · unfold execOp
    dsimp only
    have := run_store_cells (P := P) (w := w) (ty := ty) (b := b) (i := i) (cs := cs) (T := T) (v := v) (by rw [hc]; simpa using hs) (Sep.block H hr.mem) (by rw [hc]; simpa using hn) (by rw [hc]; simpa using h1)
    rw [hc] at this
    rw [hx, hy, Sem.run_bind, this]
    rfl
  · refine Sep.rep H hr fun D hP => ?_
    obtain ⟨hb, rfl⟩ := hP
    obtain ⟨h1, h2, h3⟩ := rest_setCells b [v] i w
    refine ⟨[b], ⟨?_, rfl⟩, ⟨h1, h2, h3, by rw [size_setCells]; exact Nat.le_refl _, fun k _ hn => heap_setCells_other b k (fun e => hn (by simp [e])) _ i w, fun k hk => .inl hk⟩⟩
    have hn' : i + [v].length ≤ cs.size := hn
    rw [heap_setCells_same b T [v] i w cs hb hn', ← setMany_eq [v] cs i hn']
    rfl
theorem sx_alloc (H : Hid (Sep w0 w Ts rows)) (hw : Region.wanted ⟨dst, .alloc ty, tyy, pos, aft, g⟩ (yielded ops a.tmps) = true) {zs : Array Value} (hz : zeroB P ty zs)
    (k : ∀ w' b, Hid (Sep w0 w' (ThCell b (.cells zs ty (0, 0)) :: Ts) rows) → wpList P ops Q rest (a.put dst (.pointer (some ⟨b, 0, none⟩))) w') : wpList P ops Q (⟨dst, .alloc ty, tyy, pos, aft, g⟩ :: rest) a w := by
  refine wpList_ran hw ?_ (k (w.alloc (.cells zs ty)) w.heap.size ((Lib.hid (H.out.newCell _))))
  unfold execOp
  exact run_val (run_alloc_zero hz)
theorem sx_boxS (H : Hid (Sep w0 w Ts rows)) {zs : Array Value} (hy : a.eval y = .agg zs) (hw : Region.wanted ⟨dst, .box ty y, tyy, pos, aft, g⟩ (yielded ops a.tmps) = true)
    (k : ∀ w' b, Hid (Sep w0 w' (ThCell b (.cells zs ty (0, 0)) :: Ts) rows) → wpList P ops Q rest (a.put dst (.pointer (some ⟨b, 0, none⟩))) w') : wpList P ops Q (⟨dst, .box ty y, tyy, pos, aft, g⟩ :: rest) a w := by
  refine wpList_ran hw ?_ (k (w.alloc (.cells zs ty)) w.heap.size ((Lib.hid (H.out.newCell _))))
  unfold execOp
  dsimp only
  rw [hy]
  simp [Instr.box, newVar, newRow, Value.cells]
theorem sx_box1 (H : Hid (Sep w0 w Ts rows)) (hy : a.eval y = v) (hc : v.cells = #[v]) (hw : Region.wanted ⟨dst, .box ty y, tyy, pos, aft, g⟩ (yielded ops a.tmps) = true)
    (k : ∀ w' b, Hid (Sep w0 w' (ThCell b (.cells #[v] ty (0, 0)) :: Ts) rows) → wpList P ops Q rest (a.put dst (.pointer (some ⟨b, 0, none⟩))) w') : wpList P ops Q (⟨dst, .box ty y, tyy, pos, aft, g⟩ :: rest) a w := by
  refine wpList_ran hw ?_ (k (w.alloc (.cells #[v] ty)) w.heap.size ((Lib.hid (H.out.newCell _))))
  unfold execOp
  dsimp only
  rw [hy]
  simp [Instr.box, newVar, newRow, hc]
theorem sx_makeMap (d : TypeDesc) (H : Hid (Sep w0 w Ts rows)) (hw : Region.wanted ⟨dst, .makeMap ty none, tyy, pos, aft, g⟩ (yielded ops a.tmps) = true)
    (k : ∀ w' m, Hid (Sep w0 w' (ThMap d m [] :: Ts) rows) → wpList P ops Q rest (a.put dst (.map (some m))) w') : wpList P ops Q (⟨dst, .makeMap ty none, tyy, pos, aft, g⟩ :: rest) a w := by
  refine wpList_ran hw ?_ (k (w.alloc (.map #[] 0)) w.heap.size ((Lib.hid (H.out.newMap d))))
  unfold execOp
  simp [Instr.makeMap, newObj, Sem.run]
/-- Any operation that yields a value and leaves the world: its law over the things. -/
theorem sx_read {o : Oper} (hw : Region.wanted o (yielded ops a.tmps) = true) (hr : (execOp a.eval o).run P w = .ok (.value v) w) (k : wpList P ops Q rest (a.put o.dst v) w) : wpList P ops Q (o :: rest) a w := wpList_ran hw hr k
end
/-! ### the end -/
section
variable {P : Program} {fn : Func} {R : Ending → World → Prop} {w w0 : World} {tmps : Array Value} {Ts : List Thing} {rows : List (Value × Bs)}
theorem sx_ret {p : Tmp} {ty : TypeId} {b : Nat} {cs : Array Value} {T : TypeId} (H : Hid (Sep w0 w Ts rows)) (hr : fn.results = #[.cell p ty]) (hp : tmps.getD p undef = .pointer (some ⟨b, 0, none⟩)) (hm : ThCell b (.cells cs T (0, 0)) ∈ Ts)
    (hs : structB P ty cs.size = true) (k : R (.returned (.agg cs)) w) : bodyPost P fn R .ret ⟨tmps, []⟩ w := by
  refine bodyPost_ret (v := .agg cs) ?_ rfl k
  have e : (asAddr (tmps.getD p undef)).run P w = .ok ⟨b, 0, none⟩ w := by rw [hp]; rfl
  rw [results_cell1 hr, e]
  simp only [Result.andThen]
  have := run_load_struct (i := 0) hs (Sep.block H hm) (by omega)
  simp only [Instr.loadAt, Instr.sureAddr, Sem.run_bind, Sem.run_pure, Result.andThen_ok] at this
  simp only [List.drop_zero] at this
  rw [List.take_of_length_le (by simp), Array.toArray_toList] at this
  exact this
end
end Go.Av
namespace Go.Av
open Go.RowKit
/-! ### regions that draw their order, where the reads come first and leave the world -/
section
variable {P : Program} {ops : Array Oper} {Q : Exit → Act → World → Prop} {md : Region.Mode} {S : World → Prop} {a a' A : Act} {w w0 : World} {Ts : List Thing} {rows : List (Value × Bs)}
  {dst : Option Tmp} {ty tyy : TypeId} {x : Operand} {pos : String} {aft : Array Edge} {g : Option (Nat × Bool)} {b i k : Nat} {cs : Array Value} {T : TypeId} {v : Value} {r : List (Nat × Bool)}
theorem yield_load (H : Hid (Sep w0 w Ts rows)) (ho : ops[k]? = some ⟨dst, .load ty x, tyy, pos, aft, g⟩) (hx : a.eval x = .pointer (some ⟨b, i, none⟩)) (hw : Region.wanted ⟨dst, .load ty x, tyy, pos, aft, g⟩ (yielded ops a.tmps) = true)
    (hs : scalarB P ty = true) (hm : ThCell b (.cells cs T (0, 0)) ∈ Ts) {tl : List Value} (hv : cs.toList.drop i = v :: tl) (ha : a' = a.put dst v) (hr : YieldAll P ops (fun W => W = w) r a' A) : YieldAll P ops (fun W => W = w) ((k, true) :: r) a A := by
  refine yieldL ho hw (fun W hW => ?_) ha hr
  subst hW
  unfold execOp
  dsimp only
  rw [hx]
  exact run_val (run_load_scalar hs (cell_of (Sep.block H hm) i (drop_cell hv)))
theorem yield_loadS (H : Hid (Sep w0 w Ts rows)) {n : Nat} (ho : ops[k]? = some ⟨dst, .load ty x, tyy, pos, aft, g⟩) (hx : a.eval x = .pointer (some ⟨b, i, none⟩)) (hw : Region.wanted ⟨dst, .load ty x, tyy, pos, aft, g⟩ (yielded ops a.tmps) = true)
    (hs : StructN P ty n) (hm : ThCell b (.cells cs T (0, 0)) ∈ Ts) (hn : Nat.ble (i + n) cs.size = true) (ha : a' = a.put dst (.agg ((cs.toList.drop i).take n).toArray)) (hr : YieldAll P ops (fun W => W = w) r a' A) : YieldAll P ops (fun W => W = w) ((k, true) :: r) a A := by
  refine yieldL ho hw (fun W hW => ?_) ha hr
  subst hW
  unfold execOp
  dsimp only
  rw [hx]
  exact run_val (run_load_struct hs.1 (Sep.block H hm) (Nat.le_of_ble_eq_true hn))
/-- One operation, the only one that may come up, not ahead of number N: S is asked no more. -/
theorem wpAnyM_last {N i : Nat} {o : Oper} {fuel : Nat} {listed : Array Bool} {a : Act} {w : World} (hN : Nat.ble N i = true) (hr : Region.ready md ops listed = [i]) (ho : ops[i]? = some o)
    (h : ∀ K : Act → World → Prop, (∀ a' w', wpAnyM P md ops Q S N fuel (listed.setIfInBounds i true) a' w' → K a' w') → wpList P ops (Exit.then K Q) [o] a w) : wpAnyM P md ops Q S N (fuel + 1) listed a w := by
  have hN := Nat.le_of_ble_eq_true hN
  refine ⟨fun h0 => (by rw [hr] at h0; cases h0), fun j hj => ?_⟩
  rw [hr] at hj
  obtain rfl : j = i := by simpa using hj
  have h := h (fun a' w' => (j < N → S w → S w') ∧ wpAnyM P md ops Q S N fuel (listed.setIfInBounds j true) a' w') (fun a' w' h2 => ⟨fun hlt => by omega, h2⟩)
  unfold wpList at h
  unfold wpOp
  simp only [ho]
  by_cases hw : Region.wanted o (yielded ops a.tmps) = true
  · rw [if_pos hw] at h ⊢
    rcases h with h | ⟨h1, h2⟩
    · refine .inl ?_
      unfold Oper.wp at h ⊢
      generalize (execOp a.eval o).run P w = r at h ⊢
      cases r with
      | ok n w' =>
        cases n <;> simp only [Oper.upon, wpList, Exit.then] at h ⊢
        case value => exact h
        case skip => exact h
        case defer => exact h
        case enter =>
          refine Calls.mono h fun e w'' he => ?_
          cases e with
          | returned v => exact he
          | panicked c => exact he
          | outgrown => exact he
        case row => exact h
      | halt x w' => cases x <;> simp only [Oper.upon, Exit.then] at h ⊢ <;> exact h
    · exact .inr ⟨h1, h2⟩
  · rw [if_neg hw] at h ⊢
    exact h
end
end Go.Av
