/-
  The log's Restart: the walk, where each step goes well.
-/
import Derived.Test.YtbfblekabnkghaaSepB
import Derived.Test.YtbfblekabnkghaaWalG
namespace Go.Proofs.Ytbfblekabnkghaa
open Go.RowKit Go.Av
theorem mem2 {α : Type} {x a b : α} {R : List α} (h : x ∈ R) : x ∈ a :: b :: R := List.mem_cons_of_mem _ (List.mem_cons_of_mem _ h)
def missS (k : Int) : Int := if k = 4 then 0 else k

section
variable {w0 w : World} {g d : Nat} {L : LogS} {S S' : DiskS} {R : List Thing} {rows : List (Value × Bs)}

theorem missing_any (k : Int) (w : World) : Calls Try.prog 42 #[.int .i64 k] w fun e w' => e = .returned (.int .i64 (missS k)) ∧ w' = w := by
  by_cases h : k = 4
  · subst h
    go_enter Try.func42, Try.ntmps42
    go_wp2_with fail
    go_ret
    exact ⟨rfl, rfl⟩
  · have hb : (k == 4) = false := by simp [h]
    have HM := Lib.hid (show missS k = k from if_neg h)
    clear h
    go_enter Try.func42, Try.ntmps42
    go_wp2_with fail
    go_ret
    rw [HM.out]
    exact ⟨rfl, rfl⟩

/-- The log's pointer in a variable of its own; the disk's in the log. -/
theorem in_box {x : Nat} {T : TypeId} (h : Sep w0 w (ThLog g d L :: ThDisk d S :: R) rows) (hx : ThCell x (.cells #[.pointer (some ⟨g, 0, none⟩)] T (0, 0)) ∈ R) :
    w.cell? ⟨x, 0, none⟩ = some (.pointer (some ⟨g, 0, none⟩)) ∧ w.cell? ⟨g, 0, none⟩ = some (.pointer (some ⟨d, 0, none⟩)) := by
  obtain ⟨ar, cr, ae, ce, T', h1, -⟩ := logc h
  have hb := h.block (mem2 hx)
  exact ⟨cell_of hb 0 rfl, cell_of h1 0 rfl⟩

theorem step1_any {x : Nat} {T : TypeId} (h : Sep w0 w (ThLog g d L :: ThDisk d S :: R) rows) (hx : ThCell x (.cells #[.pointer (some ⟨g, 0, none⟩)] T (0, 0)) ∈ R) {k : Int} (e : S.cut nmLog 0 = (k, S')) :
    Calls Try.prog 41 #[.pointer (some ⟨x, 0, none⟩)] w fun e w' => e = .returned (.int .i64 (missS k)) ∧ Sep w0 w' (ThLog g d L :: ThDisk d S' :: R) rows := by
  obtain ⟨c1, c2⟩ := in_box h hx
  have H := Lib.hid h
  have HE := Lib.hid e
  clear h hx e
  go_enter Try.func41, Try.ntmps41
  go_wp2_with fail
  refine (SD.cut H.out.swap nmLog 0 (by decide) HE.out).mono ?_
  rintro e w1 ⟨rfl, h⟩
  have H1 := Lib.hid h.swap
  clear h
  go_wp2_with fail
  refine (missing_any k _).mono ?_
  rintro e w2 ⟨rfl, rfl⟩
  go_wp2_with fail
  go_ret
  exact ⟨rfl, H1.out⟩
theorem step2_any {x : Nat} {T : TypeId} (h : Sep w0 w (ThLog g d L :: ThDisk d S :: R) rows) (hx : ThCell x (.cells #[.pointer (some ⟨g, 0, none⟩)] T (0, 0)) ∈ R) {k : Int} (e : S.drop nmNew = (k, S')) :
    Calls Try.prog 43 #[.pointer (some ⟨x, 0, none⟩)] w fun e w' => e = .returned (.int .i64 (missS k)) ∧ Sep w0 w' (ThLog g d L :: ThDisk d S' :: R) rows := by
  obtain ⟨c1, c2⟩ := in_box h hx
  have H := Lib.hid h
  have HE := Lib.hid e
  clear h hx e
  go_enter Try.func43, Try.ntmps43
  go_wp2_with fail
  refine (SD.drop H.out.swap nmNew (by decide) HE.out).mono ?_
  rintro e w1 ⟨rfl, h⟩
  have H1 := Lib.hid h.swap
  clear h
  go_wp2_with fail
  refine (missing_any k _).mono ?_
  rintro e w2 ⟨rfl, rfl⟩
  go_wp2_with fail
  go_ret
  exact ⟨rfl, H1.out⟩
set_option maxRecDepth 100000 in
theorem step3_any {x y : Nat} {T T2 : TypeId} {vb : Value} {b : Bs} (h : Sep w0 w (ThLog g d L :: ThDisk d S :: R) rows) (hx : ThCell x (.cells #[.pointer (some ⟨g, 0, none⟩)] T (0, 0)) ∈ R) (hy : ThCell y (.cells #[vb] T2 (0, 0)) ∈ R) (hb : (vb, b) ∈ rows) {k : Int} (e : S.append nmNew b = (k, S')) :
    Calls Try.prog 44 #[.pointer (some ⟨x, 0, none⟩), .pointer (some ⟨y, 0, none⟩)] w fun e w' => e = .returned (.int .i64 k) ∧ Sep w0 w' (ThLog g d L :: ThDisk d S' :: R) rows := by
  obtain ⟨c1, c2⟩ := in_box h hx
  have c3 := h.block (mem2 hy)
  have c3 := cell_of c3 0 rfl
  have H := Lib.hid h
  have HE := Lib.hid e
  have HB := Lib.hid hb
  have HX := Lib.hid (show _ ∧ _ from ⟨hx, hy⟩)
  clear h hx e hb hy
  go_enter Try.func44, Try.ntmps44
  go_wp2_with fail
  refine wp_region_M (fun W => W.cell? ⟨x, 0, none⟩ = some (.pointer (some ⟨g, 0, none⟩)) ∧ W.cell? ⟨g, 0, none⟩ = some (.pointer (some ⟨d, 0, none⟩)) ∧ W.cell? ⟨y, 0, none⟩ = some vb) 6 (by kernel_rfl) ?_
  refine wpAnyM_take (by kernel_rfl) (by intro c a d v w h; cases d <;> exact h) [(0, true), (1, false), (2, false), (3, true), (4, true)] (fuel := 2) (by kernel_rfl) ?_
  apply Exists.intro; refine ⟨?_, ⟨c1, c2, c3⟩, ?_⟩
  · iterate 5 ((first | (apply yieldN; (· (simp only [List.getElem?_toArray, List.getElem?_cons_succ, List.getElem?_cons_zero]; try rfl)); (· rfl)) | ((first | apply yieldP | apply yieldL); (· (simp only [List.getElem?_toArray, List.getElem?_cons_succ, List.getElem?_cons_zero]; try rfl)); (· rfl); (· (intros; go_simp; try with_reducible rfl)))); (· (simp only [Act.put, List.setIfInBounds_toArray, List.set_cons_zero, List.set_cons_succ]; try rfl)))
    exact rfl
  refine wpAnyM_one (fuel := 1) (i := 5) (by kernel_rfl) (by rfl) (fun K hK => ?_)    -- CALL
  go_wp2_with (go_at_call 22; go_must (refine (SD.append H.out.drew.swap nmNew (by decide) HB.out HE.out).mono ?_); rintro e w1 ⟨rfl, h⟩)
  obtain ⟨c1, c2⟩ := in_box h.swap HX.out.1
  have c3 := h.block (mem2 HX.out.2)
  have c3 := cell_of c3 0 rfl
  have H1 := Lib.hid h.swap
  clear h
  refine hK _ _ ⟨c1, c2, c3⟩ ?_
  clear hK
  refine wpAnyM_of_any _ _ _ _ (by decide) ?_
  refine wpAny_list [6] (fuel := 0) (by kernel_rfl) ?_
  simp only [List.filterMap_cons, List.filterMap_nil, List.getElem?_toArray, List.getElem?_cons_succ, List.getElem?_cons_zero]
  go_wp2_with fail
  go_ret
  exact ⟨rfl, H1.out⟩
theorem step4_any {x : Nat} {T : TypeId} (h : Sep w0 w (ThLog g d L :: ThDisk d S :: R) rows) (hx : ThCell x (.cells #[.pointer (some ⟨g, 0, none⟩)] T (0, 0)) ∈ R) {k : Int} (e : S.sync nmNew = (k, S')) :
    Calls Try.prog 45 #[.pointer (some ⟨x, 0, none⟩)] w fun e w' => e = .returned (.int .i64 k) ∧ Sep w0 w' (ThLog g d L :: ThDisk d S' :: R) rows := by
  obtain ⟨c1, c2⟩ := in_box h hx
  have H := Lib.hid h
  have HE := Lib.hid e
  clear h hx e
  go_enter Try.func45, Try.ntmps45
  go_wp2_with fail
  refine (SD.sync H.out.swap nmNew (by decide) HE.out).mono ?_
  rintro e w1 ⟨rfl, h⟩
  have H1 := Lib.hid h.swap
  clear h
  go_wp2_with fail
  go_ret
  exact ⟨rfl, H1.out⟩
theorem step5_any {x : Nat} {T : TypeId} (h : Sep w0 w (ThLog g d L :: ThDisk d S :: R) rows) (hx : ThCell x (.cells #[.pointer (some ⟨g, 0, none⟩)] T (0, 0)) ∈ R) {k : Int} (e : S.rename nmNew nmBase = (k, S')) :
    Calls Try.prog 46 #[.pointer (some ⟨x, 0, none⟩)] w fun e w' => e = .returned (.int .i64 k) ∧ Sep w0 w' (ThLog g d L :: ThDisk d S' :: R) rows := by
  obtain ⟨c1, c2⟩ := in_box h hx
  have H := Lib.hid h
  have HE := Lib.hid e
  clear h hx e
  go_enter Try.func46, Try.ntmps46
  go_wp2_with fail
  refine (SD.rename H.out.swap nmNew nmBase (by decide) (by decide) HE.out).mono ?_
  rintro e w1 ⟨rfl, h⟩
  have H1 := Lib.hid h.swap
  clear h
  go_wp2_with fail
  go_ret
  exact ⟨rfl, H1.out⟩
end
end Go.Proofs.Ytbfblekabnkghaa
