/-
  The log's Restart: the walk, where each step goes well.
-/
import Derived.Test.YtbfblekabnkghaaWalG
namespace Go.Av
open Go.RowKit

theorem Lie.perm {w : World} {A B : List Thing} (hp : A.Perm B) : ∀ {D : List Nat}, Lie w A D → ∃ E, Lie w B E ∧ ∀ x, x ∈ E ↔ x ∈ D := by
  induction hp with
  | nil => exact fun h => ⟨_, h, fun _ => .rfl⟩
  | cons a _ ih =>
    intro D h
    cases h with
    | cons h1 h2 h3 =>
      obtain ⟨E, hE, he⟩ := ih h3
      exact ⟨_, .cons h1 (fun x hx hm => h2 x hx ((he x).1 hm)) hE, fun x => by simp [he]⟩
  | swap a b l =>
    intro D h
    cases h with
    | @cons _ D _ E' h1 h2 h3 =>
      cases h3 with
      | @cons _ E _ G k1 k2 k3 =>
        refine ⟨E ++ (D ++ G), .cons k1 (fun x hx he => ?_) (.cons h1 (fun x hx he => h2 x hx (by simp [he])) k3), fun x => by simp only [List.mem_append]; exact ⟨fun h => by rcases h with h | h | h <;> simp [h], fun h => by rcases h with h | h | h <;> simp [h]⟩⟩
        rcases List.mem_append.1 he with he | he
        · exact h2 x he (by simp [hx])
        · exact k2 x hx he
  | trans _ _ ih1 ih2 =>
    intro D h
    obtain ⟨E, hE, he⟩ := ih1 h
    obtain ⟨G, hG, hg⟩ := ih2 hE
    exact ⟨G, hG, fun x => (hg x).trans (he x)⟩
theorem Sep.perm {w0 w : World} {A B : List Thing} {rows : List (Value × Bs)} (h : Sep w0 w A rows) (hp : A.Perm B) : Sep w0 w B rows := by
  obtain ⟨D, hl, hu, hr⟩ := h
  obtain ⟨E, hE, he⟩ := Lie.perm hp hl
  exact ⟨E, hE, hu.mono (by simp) (fun b hb => .inl ((he b).1 hb)), hr.sub (fun x hx => (he x).1 hx)⟩
/-- The first is laid behind the next two. -/
theorem Sep.back2 {w0 w : World} {X A B : Thing} {R : List Thing} {rows : List (Value × Bs)} (h : Sep w0 w (X :: A :: B :: R) rows) : Sep w0 w (A :: B :: X :: R) rows :=
  h.perm (List.perm_middle (l₁ := [A, B])).symm

/-- One block. -/
def ThCell (b : Nat) (o : Obj) : Thing := ⟨fun w D => w.heap[b]? = some o ∧ D = [b], fun h hs => ⟨(hs _ (by simp [h.2])).trans h.1, h.2⟩, fun h x hx => by rw [h.2, List.mem_singleton] at hx; subst hx; exact lt_of_heap h.1⟩
theorem Lie.has {w : World} {A : List Thing} {D : List Nat} (h : Lie w A D) {T : Thing} (hT : T ∈ A) : ∃ E, T.P w E ∧ ∀ x ∈ E, x ∈ D := by
  induction h with
  | nil => cases hT
  | @cons _ D _ E h1 _ _ ih =>
    rcases List.mem_cons.1 hT with rfl | hT
    · exact ⟨D, h1, fun x hx => by simp [hx]⟩
    · obtain ⟨E', k1, k2⟩ := ih hT
      exact ⟨E', k1, fun x hx => by simp [k2 x hx]⟩
theorem Sep.has {w0 w : World} {A : List Thing} {rows : List (Value × Bs)} (h : Sep w0 w A rows) {T : Thing} (hT : T ∈ A) : ∃ E, T.P w E := by
  obtain ⟨D, hl, _⟩ := h
  obtain ⟨E, hE, _⟩ := hl.has hT
  exact ⟨E, hE⟩
theorem Sep.block {w0 w : World} {A : List Thing} {rows : List (Value × Bs)} (h : Sep w0 w A rows) {b : Nat} {o : Obj} (hT : ThCell b o ∈ A) : w.heap[b]? = some o := by
  obtain ⟨E, hE⟩ := h.has hT
  exact hE.1
theorem Sep.newCell {w0 w : World} {A : List Thing} {rows : List (Value × Bs)} (h : Sep w0 w A rows) (o : Obj) : Sep w0 (w.alloc o) (ThCell w.heap.size o :: A) rows :=
  h.add (Upd.alloc1 w o []) ⟨heap_alloc_new w o, rfl⟩

end Go.Av
namespace Go.Proofs.Ytbfblekabnkghaa
open Go.RowKit Go.Av
theorem mem2 {α : Type} {x a b : α} {R : List α} (h : x ∈ R) : x ∈ a :: b :: R := List.mem_cons_of_mem _ (List.mem_cons_of_mem _ h)
def missS (k : Int) : Int := if k = 4 then 0 else k

section
variable {w0 w : World} {g d : Nat} {L : LogS} {S S' : DiskS} {R : List Thing} {rows : List (Value × Bs)}

theorem missing_any (k : Int) (w : World) : Calls Try.prog 42 #[.int .i64 k] w fun e w' => e = .returned (.int .i64 (missS k)) ∧ w' = w := by
  by_cases h : k = 4
  · subst h
    go_enter Try.func42, Try.ntmps42
    go_wp2_with fail
    go_ret
    exact ⟨rfl, rfl⟩
  · have hb : (k == 4) = false := by simp [h]
    have HM := Lib.hid (show missS k = k from if_neg h)
    clear h
    go_enter Try.func42, Try.ntmps42
    go_wp2_with fail
    go_ret
    rw [HM.out]
    exact ⟨rfl, rfl⟩

/-- The log's pointer in a variable of its own; the disk's in the log. -/
theorem in_box {x : Nat} {T : TypeId} (h : Sep w0 w (ThLog g d L :: ThDisk d S :: R) rows) (hx : ThCell x (.cells #[.pointer (some ⟨g, 0, none⟩)] T (0, 0)) ∈ R) :
    w.cell? ⟨x, 0, none⟩ = some (.pointer (some ⟨g, 0, none⟩)) ∧ w.cell? ⟨g, 0, none⟩ = some (.pointer (some ⟨d, 0, none⟩)) := by
  obtain ⟨ar, cr, ae, ce, T', h1, -⟩ := logc h
  have hb := h.block (mem2 hx)
  exact ⟨cell_of hb 0 rfl, cell_of h1 0 rfl⟩

theorem step1_any {x : Nat} {T : TypeId} (h : Sep w0 w (ThLog g d L :: ThDisk d S :: R) rows) (hx : ThCell x (.cells #[.pointer (some ⟨g, 0, none⟩)] T (0, 0)) ∈ R) {k : Int} (e : S.cut nmLog 0 = (k, S')) :
    Calls Try.prog 41 #[.pointer (some ⟨x, 0, none⟩)] w fun e w' => e = .returned (.int .i64 (missS k)) ∧ Sep w0 w' (ThLog g d L :: ThDisk d S' :: R) rows := by
  obtain ⟨c1, c2⟩ := in_box h hx
  have H := Lib.hid h
  have HE := Lib.hid e
  clear h hx e
  go_enter Try.func41, Try.ntmps41
  go_wp2_with fail
  refine (SD.cut H.out.swap nmLog 0 (by decide) HE.out).mono ?_
  rintro e w1 ⟨rfl, h⟩
  have H1 := Lib.hid h.swap
  clear h
  go_wp2_with fail
  refine (missing_any k _).mono ?_
  rintro e w2 ⟨rfl, rfl⟩
  go_wp2_with fail
  go_ret
  exact ⟨rfl, H1.out⟩
theorem step2_any {x : Nat} {T : TypeId} (h : Sep w0 w (ThLog g d L :: ThDisk d S :: R) rows) (hx : ThCell x (.cells #[.pointer (some ⟨g, 0, none⟩)] T (0, 0)) ∈ R) {k : Int} (e : S.drop nmNew = (k, S')) :
    Calls Try.prog 43 #[.pointer (some ⟨x, 0, none⟩)] w fun e w' => e = .returned (.int .i64 (missS k)) ∧ Sep w0 w' (ThLog g d L :: ThDisk d S' :: R) rows := by
  obtain ⟨c1, c2⟩ := in_box h hx
  have H := Lib.hid h
  have HE := Lib.hid e
  clear h hx e
  go_enter Try.func43, Try.ntmps43
  go_wp2_with fail
  refine (SD.drop H.out.swap nmNew (by decide) HE.out).mono ?_
  rintro e w1 ⟨rfl, h⟩
  have H1 := Lib.hid h.swap
  clear h
  go_wp2_with fail
  refine (missing_any k _).mono ?_
  rintro e w2 ⟨rfl, rfl⟩
  go_wp2_with fail
  go_ret
  exact ⟨rfl, H1.out⟩
set_option maxRecDepth 100000 in
theorem step3_any {x y : Nat} {T T2 : TypeId} {vb : Value} {b : Bs} (h : Sep w0 w (ThLog g d L :: ThDisk d S :: R) rows) (hx : ThCell x (.cells #[.pointer (some ⟨g, 0, none⟩)] T (0, 0)) ∈ R) (hy : ThCell y (.cells #[vb] T2 (0, 0)) ∈ R) (hb : (vb, b) ∈ rows) {k : Int} (e : S.append nmNew b = (k, S')) :
    Calls Try.prog 44 #[.pointer (some ⟨x, 0, none⟩), .pointer (some ⟨y, 0, none⟩)] w fun e w' => e = .returned (.int .i64 k) ∧ Sep w0 w' (ThLog g d L :: ThDisk d S' :: R) rows := by
  obtain ⟨c1, c2⟩ := in_box h hx
  have c3 := h.block (mem2 hy)
  have c3 := cell_of c3 0 rfl
  have H := Lib.hid h
  have HE := Lib.hid e
  have HB := Lib.hid hb
  have HX := Lib.hid (show _ ∧ _ from ⟨hx, hy⟩)
  clear h hx e hb hy
  go_enter Try.func44, Try.ntmps44
  go_wp2_with fail
  refine wp_region_M (fun W => W.cell? ⟨x, 0, none⟩ = some (.pointer (some ⟨g, 0, none⟩)) ∧ W.cell? ⟨g, 0, none⟩ = some (.pointer (some ⟨d, 0, none⟩)) ∧ W.cell? ⟨y, 0, none⟩ = some vb) 6 (by kernel_rfl) ?_
  refine wpAnyM_take (by kernel_rfl) (by intro c a d v w h; cases d <;> exact h) [(0, true), (1, false), (2, false), (3, true), (4, true)] (fuel := 2) (by kernel_rfl) ?_
  apply Exists.intro; refine ⟨?_, ⟨c1, c2, c3⟩, ?_⟩
  · iterate 5 ((first | (apply yieldN; (· (simp only [List.getElem?_toArray, List.getElem?_cons_succ, List.getElem?_cons_zero]; try rfl)); (· rfl)) | ((first | apply yieldP | apply yieldL); (· (simp only [List.getElem?_toArray, List.getElem?_cons_succ, List.getElem?_cons_zero]; try rfl)); (· rfl); (· (intros; go_simp; try with_reducible rfl)))); (· (simp only [Act.put, List.setIfInBounds_toArray, List.set_cons_zero, List.set_cons_succ]; try rfl)))
    exact rfl
  refine wpAnyM_one (fuel := 1) (i := 5) (by kernel_rfl) (by rfl) (fun K hK => ?_)    -- CALL
  go_wp2_with (go_at_call 22; go_must (refine (SD.append H.out.drew.swap nmNew (by decide) HB.out HE.out).mono ?_); rintro e w1 ⟨rfl, h⟩)
  obtain ⟨c1, c2⟩ := in_box h.swap HX.out.1
  have c3 := h.block (mem2 HX.out.2)
  have c3 := cell_of c3 0 rfl
  have H1 := Lib.hid h.swap
  clear h
  refine hK _ _ ⟨c1, c2, c3⟩ ?_
  clear hK
  refine wpAnyM_of_any _ _ _ _ (by decide) ?_
  refine wpAny_list [6] (fuel := 0) (by kernel_rfl) ?_
  simp only [List.filterMap_cons, List.filterMap_nil, List.getElem?_toArray, List.getElem?_cons_succ, List.getElem?_cons_zero]
  go_wp2_with fail
  go_ret
  exact ⟨rfl, H1.out⟩
theorem step4_any {x : Nat} {T : TypeId} (h : Sep w0 w (ThLog g d L :: ThDisk d S :: R) rows) (hx : ThCell x (.cells #[.pointer (some ⟨g, 0, none⟩)] T (0, 0)) ∈ R) {k : Int} (e : S.sync nmNew = (k, S')) :
    Calls Try.prog 45 #[.pointer (some ⟨x, 0, none⟩)] w fun e w' => e = .returned (.int .i64 k) ∧ Sep w0 w' (ThLog g d L :: ThDisk d S' :: R) rows := by
  obtain ⟨c1, c2⟩ := in_box h hx
  have H := Lib.hid h
  have HE := Lib.hid e
  clear h hx e
  go_enter Try.func45, Try.ntmps45
  go_wp2_with fail
  refine (SD.sync H.out.swap nmNew (by decide) HE.out).mono ?_
  rintro e w1 ⟨rfl, h⟩
  have H1 := Lib.hid h.swap
  clear h
  go_wp2_with fail
  go_ret
  exact ⟨rfl, H1.out⟩
theorem step5_any {x : Nat} {T : TypeId} (h : Sep w0 w (ThLog g d L :: ThDisk d S :: R) rows) (hx : ThCell x (.cells #[.pointer (some ⟨g, 0, none⟩)] T (0, 0)) ∈ R) {k : Int} (e : S.rename nmNew nmBase = (k, S')) :
    Calls Try.prog 46 #[.pointer (some ⟨x, 0, none⟩)] w fun e w' => e = .returned (.int .i64 k) ∧ Sep w0 w' (ThLog g d L :: ThDisk d S' :: R) rows := by
  obtain ⟨c1, c2⟩ := in_box h hx
  have H := Lib.hid h
  have HE := Lib.hid e
  clear h hx e
  go_enter Try.func46, Try.ntmps46
  go_wp2_with fail
  refine (SD.rename H.out.swap nmNew nmBase (by decide) (by decide) HE.out).mono ?_
  rintro e w1 ⟨rfl, h⟩
  have H1 := Lib.hid h.swap
  clear h
  go_wp2_with fail
  go_ret
  exact ⟨rfl, H1.out⟩
end
end Go.Proofs.Ytbfblekabnkghaa
