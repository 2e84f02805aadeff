/-
  Decisions: Begin.
-/
import Derived.Test.YtebmmbommkpjaaaCoordG
import Derived.Deep.OwnRows
import Derived.Laws.OwnMore
namespace Go.Av
section
variable {P : Program} {ops : Array Oper} {Q : Exit → Act → World → Prop} {md : Region.Mode} {S : World → Prop}
/-- Several operations may come up: each is walked. -/
theorem wpAnyM_each {N : Nat} {fuel : Nat} {listed : Array Bool} {a : Act} {w : World} (rs : List Nat) (hr : Region.ready md ops listed = rs) (hne : rs ≠ [])
    (h : ∀ i ∈ rs, ∃ o, ops[i]? = some o ∧ ∀ K : Act → World → Prop, (∀ a' w', S w' → wpAnyM P md ops Q S N fuel (listed.setIfInBounds i true) a' w' → K a' w') → wpList P ops (Exit.then K Q) [o] a w) :
    wpAnyM P md ops Q S N (fuel + 1) listed a w := by
  refine ⟨fun h0 => absurd (hr.symm.trans h0) hne, fun j hj => ?_⟩
  rw [hr] at hj
  obtain ⟨o, ho, h⟩ := h j hj
  have h := h (fun a' w' => (j < N → S w → S w') ∧ wpAnyM P md ops Q S N fuel (listed.setIfInBounds j true) a' w') (fun a' w' h1 h2 => ⟨fun _ _ => h1, h2⟩)
  unfold wpList at h
  unfold wpOp
  simp only [ho]
  by_cases hw : Region.wanted o (yielded ops a.tmps) = true
  · rw [if_pos hw] at h ⊢
    rcases h with h | ⟨h1, h2⟩
    · refine .inl ?_
      unfold Oper.wp at h ⊢
      generalize (execOp a.eval o).run P w = r at h ⊢
      cases r with
      | ok n w' =>
        cases n <;> simp only [Oper.upon, wpList, Exit.then] at h ⊢
        case value => exact h
        case skip => exact h
        case defer => exact h
        case enter =>
          refine Calls.mono h fun e w'' he => ?_
          cases e with
          | returned v => exact he
          | panicked c => exact he
          | outgrown => exact he
        case row => exact h
      | halt x w' => cases x <;> simp only [Oper.upon, Exit.then] at h ⊢ <;> exact h
    · exact .inr ⟨h1, h2⟩
  · rw [if_neg hw] at h ⊢
    exact h
end
end Go.Av
namespace Go.Proofs.Ytebmmbommkpjaaa
open Go.RowKit Go.Av

theorem risF_len : ∀ (l : List Int) (last : Int), -1 ≤ last → risF last l = true → (l.length : Int) ≤ max 0 (3 - last)
  | [], last, h, _ => by simp; omega
  | x :: r, last, h, hr => by
    rw [risF_cons] at hr
    simp only [Bool.and_eq_true, Bool.not_eq_true', Bool.or_eq_false_iff, decide_eq_false_iff_not] at hr
    have := risF_len r x (by omega) hr.2
    simp only [List.length_cons]
    omega
theorem risS_len {l : List Int} (h : risS l = true) : l.length ≤ 4 := by
  have := risF_len l (-1) (Int.le_refl _) h
  omega

theorem zeroI_row (w : World) (z : Nat) (hz : z ≤ 30000) : OwnRow (w.alloc (.cells (madeCells #[.int .i64 0] z) 3)) 1 (.slice (some ⟨w.heap.size, 0, none⟩) z z) ((List.replicate z (0 : Int)).map iv) [w.heap.size] :=
  OwnRow.made w 3 1 z z (madeCells #[.int .i64 0] z) _ (by simp) (Nat.le_refl _) (by unfold maxLen; omega) (by rw [size_madeCells]; omega) (by
    rw [toList_madeCells_one, Nat.mul_one, List.take_of_length_le (by simp), List.map_replicate]
    rfl)

section
variable {w0 w : World} {c m : Nat} {S : CoS} {l1 l2 : List EntG} {g : EntG} {R : List Thing} {T : Thing} {rows : List (Value × Bs)}

theorem Co.permR (h : Co w0 w c S R rows) {R' : List Thing} (hp : R.Perm R') : Co w0 w c S R' rows := by
  obtain ⟨m, gs, h1, h2, hS⟩ := h
  exact ⟨m, gs, h1, h2, hS.perm (List.Perm.append_left _ (List.Perm.append_left _ hp))⟩
theorem Co.begun {p : Nat} {vs vv vo : Value} {x : EntS} (h : Co w0 w c S (ThCell p (.cells #[vs, vv, .int .i64 x.dec, vo] 69 (0, 0)) :: ThRow 1 vs (x.shards.map iv) :: ThRow 1 vv (x.votes.map iv) :: ThRow 1 vo (x.owes.map iv) :: R) rows)
    {id : Int} (hn : lookS id S = none) (hx : x.wf) (hi1 : 1 ≤ id) (hi2 : id ≤ 9223372036854775807) : ∃ m w', w.cell? ⟨c, 0, none⟩ = some (.map (some m)) ∧
      (Instr.mapUpdate 62 (.map (some m)) (.int .i64 id) (.pointer (some ⟨p, 0, none⟩))).run Try.prog w = .ok () w' ∧ w'.cell? ⟨c, 0, none⟩ = some (.map (some m)) ∧ Co w0 w' c (S ++ [(id, x)]) R rows := by
  obtain ⟨m, gs, rfl, hwf, hS⟩ := h
  have hno := look_none hn
  have hc := hS.block (b := c) (o := .cells #[.map (some m)] 64 (0, 0)) (by simp [coHead])
  have h2 := hS.perm (List.perm_middle (l₁ := [_]))
  obtain ⟨w', hrun, hM, hU⟩ := mp_new (P := Try.prog) h2.mapIs Try.underlying62 Try.underlying2 (key := .int .i64 id) (v := .pointer (some ⟨p, 0, none⟩)) (show MapKept.IsKey (.int .i64) (.int .i64 id) from rfl) (fun q hq e => by
    obtain ⟨g, hg, rfl⟩ := List.mem_map.1 hq
    unfold EntG.kv at e
    simp only [Value.int.injEq, true_and] at e
    exact hno (g.ent) (List.mem_map_of_mem hg) e)
  have h3 := (h2.mapTo hU hM).perm (List.perm_middle (l₁ := [_])).symm
  have hc' := h3.block (b := c) (o := .cells #[.map (some m)] 64 (0, 0)) (by simp [coHead])
  refine ⟨m, w', cell_of hc 0 rfl, hrun, cell_of hc' 0 rfl, m, gs ++ [⟨id, p, vs, vv, vo, x⟩], by simp [EntG.ent], fun e he => ?_, ?_⟩
  · rcases List.mem_append.1 he with he | he
    · exact hwf e he
    · rw [List.mem_singleton.1 he]; exact ⟨hx, hi1, hi2⟩
  · simpa [coHead, EntG.kv, EntG.th] using h3

def newE (l : List Int) : EntS := { shards := l, votes := List.replicate l.length 0, dec := 0, owes := l }
theorem newE_wf {l : List Int} (h : l.length ≤ 4) : (newE l).wf := ⟨by simp [newE], h, h⟩
def beginS (S : CoS) (id : Int) (l : List Int) : Int × CoS :=
  if id < 1 ∨ l.length = 0 ∨ risS l = false then (1, S) else match lookS id S with | some _ => (5, S) | none => (0, S ++ [(id, newE l)])

set_option maxRecDepth 100000 in
set_option maxHeartbeats 2000000 in
theorem begin_any (h : Co w0 w c S R rows) (id : Int) (v : Value) (l : List Int) (E : List Nat) (hid : id ≤ 9223372036854775807) (hv : ReadRow w 1 v (l.map iv) E) :
    Calls Try.prog 12 #[.pointer (some ⟨c, 0, none⟩), .int .i64 id, v] w fun e w' => e = .returned (.int .i64 (beginS S id l).1) ∧ Co w0 w' c (beginS S id l).2 R rows := by
  obtain ⟨a, n, cv, rfl, hln, hnc, hcm, -⟩ := _root_.id hv
  rw [List.length_map, Nat.mul_one] at hln
  subst hln
  unfold maxLen at hcm
  have hri := rising_any _ l E w hv
  unfold beginS
  by_cases h1 : id < 1
  · rw [if_pos (.inl h1)]
    have H := Lib.hid h
    clear h hv hri
    go_enter Try.func12, Try.ntmps12
    go_wp2_with fail
    go_ret
    exact ⟨rfl, H.out⟩
  by_cases h2 : l.length = 0
  · rw [if_pos (.inr (.inl h2))]
    have b2 : ((l.length : Int) == 0) = true := beq_iff_eq.2 (by omega)
    have H := Lib.hid h
    clear h hv hri h2
    go_enter Try.func12, Try.ntmps12
    go_wp2_with fail
    go_ret
    exact ⟨rfl, H.out⟩
  have b2 : ((l.length : Int) == 0) = false := beq_eq_false_iff_ne.2 (by omega)
  cases hr : risS l with
  | false =>
    rw [if_pos (.inr (.inr rfl))]
    rw [hr] at hri
    have H := Lib.hid h
    have HR := Lib.hid hri
    clear h hv hri h2 hr
    go_enter Try.func12, Try.ntmps12
    go_wp2_with fail
    refine HR.out.mono ?_
    rintro e w1 ⟨rfl, rfl⟩
    go_wp2_with fail
    go_ret
    exact ⟨rfl, H.out⟩
  | true =>
  rw [if_neg (by simp [h1, h2])]
  rw [hr] at hri
  have hl4 := risS_len hr
  cases hx : lookS id S with
  | some x =>
    obtain ⟨m, l1, g, l2, rfl, rfl, hF, -, hSS⟩ := h.take hx
    obtain ⟨hc, hl, hp⟩ := hF.facts
    have hl := hl w rfl
    have H := Lib.hid h
    have HR := Lib.hid hri
    clear h hv hri h2 hr hF hSS hp hx
    go_enter Try.func12, Try.ntmps12
    go_wp2_with fail
    refine HR.out.mono ?_
    rintro e w1 ⟨rfl, rfl⟩
    go_wp2_with fail
    go_ret
    exact ⟨rfl, H.out⟩
  | none =>
    obtain ⟨m, hc, hl⟩ := h.absent hx
    have hl := hl w rfl
    have H := Lib.hid h
    have HR := Lib.hid hri
    have HV := Lib.hid hv
    have HX := Lib.hid hx
    have hmk := fun W => run_make_row' (P := Try.prog) 22 3 (.int .i64 0) 8 Try.underlying22 infoI rfl .i64 .i64 l.length (by omega) (by omega) W
    clear h hv hri h2 hr hx
    go_enter Try.func12, Try.ntmps12
    go_wp2_with fail
    refine HR.out.mono ?_
    rintro e w1 ⟨rfl, rfl⟩
    go_wp2_with fail
    refine wp_region_M (fun W => W.cell? ⟨c, 0, none⟩ = some (.map (some m))) 15 (by kernel_rfl) ?_
    refine wpAnyM_take (by kernel_rfl) (by intro c a d v w h; cases d <;> exact h) [(0, false), (1, false), (2, false), (3, true), (4, false), (5, false), (7, false), (8, false), (10, false)] (fuel := 6) (by kernel_rfl) ?_
    apply Exists.intro; refine ⟨?_, hc, ?_⟩
    · iterate 9 ((first | (apply yieldN; (· (simp only [List.getElem?_toArray, List.getElem?_cons_succ, List.getElem?_cons_zero]; try rfl)); (· rfl)) | ((first | apply yieldP | apply yieldL); (· (simp only [List.getElem?_toArray, List.getElem?_cons_succ, List.getElem?_cons_zero]; try rfl)); (· rfl); (· (intros; go_simp; try with_reducible rfl)))); (· (simp only [Act.put, List.setIfInBounds_toArray, List.set_cons_zero, List.set_cons_succ]; try rfl)))
      exact rfl
    obtain ⟨w10, hw10⟩ : ∃ x, x = w1.drew := ⟨_, rfl⟩
    have k10 : w10.cell? ⟨c, 0, none⟩ = some (.map (some m)) := by rw [hw10]; exact hc
    have HV10 := Lib.hid (show ReadRow w10 1 (.slice a l.length cv) (l.map iv) E by rw [hw10]; exact HV.out.frame (fun _ _ => rfl))
    have HC10 := Lib.hid (show Co w0 w10 c S R rows by rw [hw10]; exact H.out.keep (Upd.refl w1 []).drew)
    rw [← hw10]
    clear hw10 hc hl H HV
    refine wpAnyM_each (fuel := 5) [6, 9] (by kernel_rfl) (by simp) (fun i hi => ?_)
    simp only [List.mem_cons, List.not_mem_nil, or_false] at hi
    rcases hi with rfl | rfl
    case' inr =>
      refine ⟨_, by rfl, fun K hK => ?_⟩
      have hzr := zeroI_row w10 l.length (by omega)
      have hzu := Upd.alloc1 w10 (.cells (madeCells #[.int .i64 0] l.length) 3) []
      have k11 := upd_cell hzu k10
      have HV11 := Lib.hid (HV10.out.frame (hzu.same HV10.out.lt (by simp)))
      have HC11 := Lib.hid (HC10.out.addR (T := ThRow 1 (.slice (some ⟨w10.heap.size, 0, none⟩) l.length l.length) ((List.replicate l.length 0).map iv)) hzu hzr)
      clear hzr hzu
      go_wp2_with fail
      obtain ⟨z, hz⟩ : ∃ z, z = w10.heap.size := ⟨_, rfl⟩
      obtain ⟨w11, hw⟩ : ∃ x, x = w10.alloc (.cells (madeCells #[.int .i64 0] l.length) 3) := ⟨_, rfl⟩
      rw [← hw, ← hz] at HC11 ⊢
      rw [← hw] at HV11 k11
      clear hw hz
      refine hK _ _ k11 ?_
      clear hK
      refine wpAnyM_one (fuel := 4) (i := 6) (by kernel_rfl) (by rfl) (fun K hK => ?_)
      go_wp2_with fail
      refine (cloneI_any _ l E _ HV11.out (by omega)).mono ?_
      rintro e w12 ⟨va, Da, rfl, ho, hu⟩
      obtain ⟨aa, na, ca, rfl, -⟩ := ho.len
      have k12 := upd_cell hu k11
      have HV12 := Lib.hid (HV11.out.frame (hu.same HV11.out.lt (by simp)))
      have HC12 := Lib.hid (HC11.out.addR (T := ThRow 1 (.slice aa na ca) (l.map iv)) hu ho)
      clear hu ho
      go_wp2_with fail
      refine hK _ _ k12 ?_
      clear hK
      refine wpAnyM_one (fuel := 3) (i := 11) (by kernel_rfl) (by rfl) (fun K hK => ?_)
      go_wp2_with fail
      refine (cloneI_any _ l E _ HV12.out (by omega)).mono ?_
      rintro e w13 ⟨vb, Db, rfl, ho, hu⟩
      obtain ⟨ab, nb, cb, rfl, -⟩ := ho.len
      have k13 := upd_cell hu k12
      have HV13 := Lib.hid (HV12.out.frame (hu.same HV12.out.lt (by simp)))
      have HC13 := Lib.hid (HC12.out.addR (T := ThRow 1 (.slice ab nb cb) (l.map iv)) hu ho)
      clear hu ho
      go_wp2_with fail
      refine hK _ _ k13 ?_
      clear hK
      have HC := Lib.hid (show Co w0 w13 c S (ThRow 1 (.slice aa na ca) (l.map iv) :: ThRow 1 (.slice (some ⟨z, 0, none⟩) l.length l.length) ((List.replicate l.length 0).map iv) :: ThRow 1 (.slice ab nb cb) (l.map iv) :: R) rows from HC13.out.permR ((List.Perm.swap _ _ _).trans ((List.Perm.cons _ (List.Perm.swap _ _ _)))))
      clear HC10 HC11 HC12 HC13 HV10 HV11 HV12 HV13
    case' inl =>
      refine ⟨_, by rfl, fun K hK => ?_⟩
      go_wp2_with fail
      refine (cloneI_any _ l E _ HV10.out (by omega)).mono ?_
      rintro e w11 ⟨va, Da, rfl, ho, hu⟩
      obtain ⟨aa, na, ca, rfl, -⟩ := ho.len
      have k11 := upd_cell hu k10
      have HV11 := Lib.hid (HV10.out.frame (hu.same HV10.out.lt (by simp)))
      have HC11 := Lib.hid (HC10.out.addR (T := ThRow 1 (.slice aa na ca) (l.map iv)) hu ho)
      clear hu ho
      go_wp2_with fail
      refine hK _ _ k11 ?_
      clear hK
      refine wpAnyM_each (fuel := 4) [9, 11] (by kernel_rfl) (by simp) (fun i hi => ?_)
      simp only [List.mem_cons, List.not_mem_nil, or_false] at hi
      rcases hi with rfl | rfl
      case' inl =>
        refine ⟨_, by rfl, fun K hK => ?_⟩
        have hzr := zeroI_row w11 l.length (by omega)
        have hzu := Upd.alloc1 w11 (.cells (madeCells #[.int .i64 0] l.length) 3) []
        have k12 := upd_cell hzu k11
        have HV12 := Lib.hid (HV11.out.frame (hzu.same HV11.out.lt (by simp)))
        have HC12 := Lib.hid (HC11.out.addR (T := ThRow 1 (.slice (some ⟨w11.heap.size, 0, none⟩) l.length l.length) ((List.replicate l.length 0).map iv)) hzu hzr)
        clear hzr hzu
        go_wp2_with fail
        obtain ⟨z, hz⟩ : ∃ z, z = w11.heap.size := ⟨_, rfl⟩
        obtain ⟨w12, hw⟩ : ∃ x, x = w11.alloc (.cells (madeCells #[.int .i64 0] l.length) 3) := ⟨_, rfl⟩
        rw [← hw, ← hz] at HC12 ⊢
        rw [← hw] at HV12 k12
        clear hw hz
        refine hK _ _ k12 ?_
        clear hK
        refine wpAnyM_one (fuel := 3) (i := 11) (by kernel_rfl) (by rfl) (fun K hK => ?_)
        go_wp2_with fail
        refine (cloneI_any _ l E _ HV12.out (by omega)).mono ?_
        rintro e w13 ⟨vb, Db, rfl, ho, hu⟩
        obtain ⟨ab, nb, cb, rfl, -⟩ := ho.len
        have k13 := upd_cell hu k12
        have HV13 := Lib.hid (HV12.out.frame (hu.same HV12.out.lt (by simp)))
        have HC13 := Lib.hid (HC12.out.addR (T := ThRow 1 (.slice ab nb cb) (l.map iv)) hu ho)
        clear hu ho
        go_wp2_with fail
        refine hK _ _ k13 ?_
        clear hK
        have HC := Lib.hid (show Co w0 w13 c S (ThRow 1 (.slice aa na ca) (l.map iv) :: ThRow 1 (.slice (some ⟨z, 0, none⟩) l.length l.length) ((List.replicate l.length 0).map iv) :: ThRow 1 (.slice ab nb cb) (l.map iv) :: R) rows from HC13.out.permR ((List.perm_middle (l₁ := [_, _]) (l₂ := R)).symm.trans ((List.Perm.swap _ _ _))))
        clear HC10 HC11 HC12 HC13 HV10 HV11 HV12 HV13
      case' inr =>
        refine ⟨_, by rfl, fun K hK => ?_⟩
        go_wp2_with fail
        refine (cloneI_any _ l E _ HV11.out (by omega)).mono ?_
        rintro e w12 ⟨vb, Db, rfl, ho, hu⟩
        obtain ⟨ab, nb, cb, rfl, -⟩ := ho.len
        have k12 := upd_cell hu k11
        have HV12 := Lib.hid (HV11.out.frame (hu.same HV11.out.lt (by simp)))
        have HC12 := Lib.hid (HC11.out.addR (T := ThRow 1 (.slice ab nb cb) (l.map iv)) hu ho)
        clear hu ho
        go_wp2_with fail
        refine hK _ _ k12 ?_
        clear hK
        refine wpAnyM_one (fuel := 3) (i := 9) (by kernel_rfl) (by rfl) (fun K hK => ?_)
        have hzr := zeroI_row w12 l.length (by omega)
        have hzu := Upd.alloc1 w12 (.cells (madeCells #[.int .i64 0] l.length) 3) []
        have k13 := upd_cell hzu k12
        have HV13 := Lib.hid (HV12.out.frame (hzu.same HV12.out.lt (by simp)))
        have HC13 := Lib.hid (HC12.out.addR (T := ThRow 1 (.slice (some ⟨w12.heap.size, 0, none⟩) l.length l.length) ((List.replicate l.length 0).map iv)) hzu hzr)
        clear hzr hzu
        go_wp2_with fail
        obtain ⟨z, hz⟩ : ∃ z, z = w12.heap.size := ⟨_, rfl⟩
        obtain ⟨w13, hw⟩ : ∃ x, x = w12.alloc (.cells (madeCells #[.int .i64 0] l.length) 3) := ⟨_, rfl⟩
        rw [← hw, ← hz] at HC13 ⊢
        rw [← hw] at HV13 k13
        clear hw hz
        refine hK _ _ k13 ?_
        clear hK
        have HC := Lib.hid (show Co w0 w13 c S (ThRow 1 (.slice aa na ca) (l.map iv) :: ThRow 1 (.slice (some ⟨z, 0, none⟩) l.length l.length) ((List.replicate l.length 0).map iv) :: ThRow 1 (.slice ab nb cb) (l.map iv) :: R) rows from HC13.out.permR (List.perm_middle (l₁ := [_, _]) (l₂ := R)))
        clear HC10 HC11 HC12 HC13 HV10 HV11 HV12 HV13
    all_goals
      refine wpAnyM_take (by kernel_rfl) (by intro c a d v w h; cases d <;> exact h) [(12, false)] (fuel := 2) (by kernel_rfl) ?_
      apply Exists.intro; refine ⟨?_, k13, ?_⟩
      · iterate 1 ((first | (apply yieldN; (· (simp only [List.getElem?_toArray, List.getElem?_cons_succ, List.getElem?_cons_zero]; try rfl)); (· rfl)) | ((first | apply yieldP | apply yieldL); (· (simp only [List.getElem?_toArray, List.getElem?_cons_succ, List.getElem?_cons_zero]; try rfl)); (· rfl); (· (intros; go_simp; try with_reducible rfl)))); (· (simp only [Act.put, List.setIfInBounds_toArray, List.set_cons_zero, List.set_cons_succ]; try rfl)))
        exact rfl
      have h14 := HC.out.newCell (.cells #[.slice aa na ca, .slice (some ⟨z, 0, none⟩) l.length l.length, .int .i64 0, .slice ab nb cb] 69 (0, 0))
      have k14 := upd_cell (Upd.alloc0 w13 (.cells #[.slice aa na ca, .slice (some ⟨z, 0, none⟩) l.length l.length, .int .i64 0, .slice ab nb cb] 69 (0, 0)) []) k13
      obtain ⟨m', w15, hm', hrun, k15, hC15⟩ := h14.begun (x := newE l) HX.out (newE_wf hl4) (by omega) hid
      have e := k14.symm.trans hm'
      cases e
      have H15 := Lib.hid hC15
      clear h14 hm' hC15 HC
      refine wpAnyM_one (fuel := 1) (i := 13) (by kernel_rfl) (by rfl) (fun K hK => ?_)    -- box
      go_wp2_with fail
      refine hK _ _ k14 ?_
      clear hK
      refine wpAnyM_one (fuel := 0) (i := 14) (by kernel_rfl) (by rfl) (fun K hK => ?_)    -- mapUpdate
      go_wp2_with fail
      refine hK _ _ k15 ?_
      clear hK
      refine wpAnyM_done (by kernel_rfl) ?_ _
      go_wp2_with fail
      go_ret
      exact ⟨rfl, H15.out⟩
end
end Go.Proofs.Ytebmmbommkpjaaa
