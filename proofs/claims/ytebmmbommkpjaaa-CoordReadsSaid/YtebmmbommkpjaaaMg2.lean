/-
  Texts of this claim, laid together.
-/
import Derived.Test.YtebmmbommkpjaaaMg1
import Derived.WalkKit
import Derived.Deep.OwnRows
import Derived.Laws.OwnMore
import Derived.Sort.KeysCollected
import Derived.Lib.SlKeysI
import Derived.Shelf.SlIterI.Nil
import Derived.Shelf.SortM.Plain
import Derived.Shelf.SortM.SortNone
import Derived.Ground.GgzProg
import Derived.Ground.SlgmProg
import Derived.Test.YtebmmbommkpjaaaProg
import Derived.Deep.Matrix
import Derived.Deep.Slices
import Derived.ChangeSame
import Derived.Deep.LoopGhost
import Derived.Sort.Walk0

/-
  Decisions: Done.
-/
namespace Go.Proofs.Ytebmmbommkpjaaa
open Go.RowKit Go.Av

section
variable {w0 w : World} {c m : Nat} {S : CoS} {l1 l2 : List EntG} {g : EntG} {R : List Thing} {T : Thing} {rows : List (Value × Bs)}

theorem perm_last (A B R : List Thing) (T : Thing) : (T :: (A ++ (B ++ R))).Perm (A ++ (B ++ T :: R)) := by
  have := (List.perm_middle (a := T) (l₁ := A ++ B) (l₂ := R)).symm
  simpa [List.append_assoc] using this
theorem Co.newCell (h : Co w0 w c S R rows) (o : Obj) : Co w0 (w.alloc o) c S (ThCell w.heap.size o :: R) rows := by
  obtain ⟨m, gs, h1, h2, hS⟩ := h
  exact ⟨m, gs, h1, h2, (hS.newCell o).perm (perm_last _ _ _ _)⟩
theorem Co.addR (h : Co w0 w c S R rows) {w' : World} {D' : List Nat} (hu : Upd w w' [] D') (hT : T.P w' D') : Co w0 w' c S (T :: R) rows := by
  obtain ⟨m, gs, h1, h2, hS⟩ := h
  exact ⟨m, gs, h1, h2, (hS.add hu hT).perm (perm_last _ _ _ _)⟩
theorem Co.dropR (h : Co w0 w c S (T :: R) rows) : Co w0 w c S R rows := by
  obtain ⟨m, gs, h1, h2, hS⟩ := h
  exact ⟨m, gs, h1, h2, (hS.perm (perm_last _ _ _ _).symm).drop⟩

def doneF (k : Int) (x : EntS) : EntS := { x with owes := x.owes.filter fun y => !decide (y = k) }
def doneS (S : CoS) (id k : Int) : Int × CoS := match lookS id S with
  | none => (4, S)
  | some x => match idxF k x.shards with | none => (4, S) | some _ => if x.dec = 0 then (15, S) else (0, putS id (doneF k) S)

set_option maxRecDepth 100000 in
set_option maxHeartbeats 1000000 in
theorem done_any (h : Co w0 w c S R rows) (id k : Int) :
    Calls Try.prog 14 #[.pointer (some ⟨c, 0, none⟩), .int .i64 id, .int .i64 k] w fun e w' => e = .returned (.int .i64 (doneS S id k).1) ∧ Co w0 w' c (doneS S id k).2 R rows := by
  have h0 := h.newCell (.cells #[.int .i64 k] 3 (0, 0))
  have hq0 : w.heap.size < (w.alloc (.cells #[.int .i64 k] 3 (0, 0))).heap.size := by simp
  obtain ⟨q, hq⟩ : ∃ q, q = w.heap.size := ⟨_, rfl⟩
  have hqc : (w.alloc (.cells #[.int .i64 k] 3 (0, 0))).cell? ⟨w.heap.size, 0, none⟩ = some (.int .i64 k) := cell_of (heap_alloc_new w _) 0 rfl
  obtain ⟨w1, hw1⟩ : ∃ w1, w1 = w.alloc (.cells #[.int .i64 k] 3 (0, 0)) := ⟨_, rfl⟩
  unfold doneS
  cases hx : lookS id S with
  | none =>
    have hf := find_no h0 id k hx
    have H := Lib.hid h0
    have HF := Lib.hid hf
    clear h h0 hx hf hq hw1 hq0
    go_enter Try.func14, Try.ntmps14
    go_wp2_with fail
    refine HF.out.mono ?_
    rintro e w2 ⟨rfl, rfl⟩
    go_wp2_with fail
    go_ret
    exact ⟨rfl, H.out.dropR⟩
  | some x =>
    obtain ⟨m, l1, g, l2, rfl, rfl, hF, -, hSS⟩ := h0.take hx
    have hf := find_yes hF k
    unfold idxS at hf
    dsimp only
    cases hi : idxF k g.x.shards with
    | none =>
      rw [hi] at hf
      have H := Lib.hid h0
      have HF := Lib.hid hf
      clear h h0 hx hf hF hSS hi hq hw1 hq0
      go_enter Try.func14, Try.ntmps14
      go_wp2_with fail
      refine HF.out.mono ?_
      rintro e w2 ⟨rfl, rfl⟩
      go_wp2_with fail
      go_ret
      exact ⟨rfl, H.out.dropR⟩
    | some i =>
      rw [hi] at hf
      simp only at hf
      obtain ⟨hc, hl, hp⟩ := hF.facts
      have c2 := cell_of hp 2 rfl
      have c3 := cell_of hp 3 rfl
      show Calls _ _ _ _ (fun e w' => e = .returned (.int .i64 (if g.x.dec = 0 then (15, S) else (0, putS g.id (doneF k) S)).1) ∧ Co w0 w' c (if g.x.dec = 0 then (15, S) else (0, putS g.id (doneF k) S)).2 R rows)
      by_cases hd : g.x.dec = 0
      · rw [if_pos hd]
        have c2' : (w.alloc (.cells #[.int .i64 k] 3 (0, 0))).cell? ⟨g.p, 2, none⟩ = some (.int .i64 0) := by rw [c2]; simp [hd]
        have H := Lib.hid h0
        have HF := Lib.hid hf
        clear h h0 hx hf hF hSS hi hq hw1 hq0 c2 c3 hp hl hd
        go_enter Try.func14, Try.ntmps14
        go_wp2_with fail
        refine HF.out.mono ?_
        rintro e w2 ⟨rfl, rfl⟩
        go_wp2_with fail
        go_ret
        exact ⟨rfl, H.out.dropR⟩
      · rw [if_neg hd]
        have hd' : (g.x.dec == 0) = false := by simp [hd]
        have hput := hF.put (x := doneF k g.x) (doneF k) rfl
        rw [← hSS] at hput
        obtain ⟨R', hrow, hin, hall, hback⟩ := hF.setOwes (fun y => !decide (y = k))
        have hqR : ThCell w.heap.size (.cells #[.int .i64 k] 3 (0, 0)) ∈ R' := hall _ (List.mem_cons_self ..)
        have hdel := deleteFunc_any _ g.x.owes k w.heap.size 3 hrow hqR
        have HF := Lib.hid hf
        have HD := Lib.hid hdel
        have HB := Lib.hid hback
        have HP := Lib.hid hput
        have hmf : ∀ (fn : Fn) (first cap : Array Value) (w : World), (Instr.makeFunc fn first cap).run Try.prog w = .ok (.func fn first cap) w := fun _ _ _ _ => rfl
        clear h h0 hx hf hF hSS hi hq hw1 hq0 hp hl hd hput hrow hin hall hback hqR hdel
        go_enter Try.func14, Try.ntmps14
        go_wp2_with fail
        refine HF.out.mono ?_
        rintro e w2 ⟨rfl, rfl⟩
        go_wp2_with fail
        refine HD.out.mono ?_
        rintro e w3 ⟨v3, rfl, h3⟩
        obtain ⟨a3, n3, cc3, rfl, -⟩ := h3.rowLen
        obtain ⟨hp3, hF3⟩ := HB.out w3 _ h3
        have y3 := frz_of hp3 3
        have c3 := cell_of hp3 3 rfl
        have H3 := Lib.hid hF3
        clear h3 hp3 hF3
        go_wp2_with fail
        go_ret
        refine ⟨rfl, ?_⟩
        have := H3.out.back
        rw [show (l1 ++ ({ g with vo := .slice a3 n3 cc3, x := { g.x with owes := g.x.owes.filter fun y => !decide (y = k) } } : EntG) :: l2).map EntG.ent = (l1 ++ g.upd (doneF k g.x) :: l2).map EntG.ent by simp [EntG.ent, EntG.upd, doneF], HP.out] at this
        exact this.dropR
end
end Go.Proofs.Ytebmmbommkpjaaa

/-
  Regions whose order is drawn: several operations may come up.
-/
namespace Go.Av
section
variable {P : Program} {ops : Array Oper} {Q : Exit → Act → World → Prop} {md : Region.Mode} {S : World → Prop}
/-- Several operations may come up: each is walked. -/
theorem wpAnyM_each {N : Nat} {fuel : Nat} {listed : Array Bool} {a : Act} {w : World} (rs : List Nat) (hr : Region.ready md ops listed = rs) (hne : rs ≠ [])
    (h : ∀ i ∈ rs, ∃ o, ops[i]? = some o ∧ ∀ K : Act → World → Prop, (∀ a' w', S w' → wpAnyM P md ops Q S N fuel (listed.setIfInBounds i true) a' w' → K a' w') → wpList P ops (Exit.then K Q) [o] a w) :
    wpAnyM P md ops Q S N (fuel + 1) listed a w := by
  refine ⟨fun h0 => absurd (hr.symm.trans h0) hne, fun j hj => ?_⟩
  rw [hr] at hj
  obtain ⟨o, ho, h⟩ := h j hj
  have h := h (fun a' w' => (j < N → S w → S w') ∧ wpAnyM P md ops Q S N fuel (listed.setIfInBounds j true) a' w') (fun a' w' h1 h2 => ⟨fun _ _ => h1, h2⟩)
  unfold wpList at h
  unfold wpOp
  simp only [ho]
  by_cases hw : Region.wanted o (yielded ops a.tmps) = true
  · rw [if_pos hw] at h ⊢
    rcases h with h | ⟨h1, h2⟩
    · refine .inl ?_
      unfold Oper.wp at h ⊢
      generalize (execOp a.eval o).run P w = r at h ⊢
      cases r with
      | ok n w' =>
        cases n <;> simp only [Oper.upon, wpList, Exit.then] at h ⊢
        case value => exact h
        case skip => exact h
        case defer => exact h
        case enter =>
          refine Calls.mono h fun e w'' he => ?_
          cases e with
          | returned v => exact he
          | panicked c => exact he
          | outgrown => exact he
        case row => exact h
      | halt x w' => cases x <;> simp only [Oper.upon, Exit.then] at h ⊢ <;> exact h
    · exact .inr ⟨h1, h2⟩
  · rw [if_neg hw] at h ⊢
    exact h
end
end Go.Av

/-
  Decisions: Begin.
-/
namespace Go.Proofs.Ytebmmbommkpjaaa
open Go.RowKit Go.Av

theorem risF_len : ∀ (l : List Int) (last : Int), -1 ≤ last → risF last l = true → (l.length : Int) ≤ max 0 (3 - last)
  | [], last, h, _ => by simp; omega
  | x :: r, last, h, hr => by
    rw [risF_cons] at hr
    simp only [Bool.and_eq_true, Bool.not_eq_true', Bool.or_eq_false_iff, decide_eq_false_iff_not] at hr
    have := risF_len r x (by omega) hr.2
    simp only [List.length_cons]
    omega
theorem risS_len {l : List Int} (h : risS l = true) : l.length ≤ 4 := by
  have := risF_len l (-1) (Int.le_refl _) h
  omega

theorem zeroI_row (w : World) (z : Nat) (hz : z ≤ 30000) : OwnRow (w.alloc (.cells (madeCells #[.int .i64 0] z) 3)) 1 (.slice (some ⟨w.heap.size, 0, none⟩) z z) ((List.replicate z (0 : Int)).map iv) [w.heap.size] :=
  OwnRow.made w 3 1 z z (madeCells #[.int .i64 0] z) _ (by simp) (Nat.le_refl _) (by unfold maxLen; omega) (by rw [size_madeCells]; omega) (by
    rw [toList_madeCells_one, Nat.mul_one, List.take_of_length_le (by simp), List.map_replicate]
    rfl)

section
variable {w0 w : World} {c m : Nat} {S : CoS} {l1 l2 : List EntG} {g : EntG} {R : List Thing} {T : Thing} {rows : List (Value × Bs)}

theorem Co.permR (h : Co w0 w c S R rows) {R' : List Thing} (hp : R.Perm R') : Co w0 w c S R' rows := by
  obtain ⟨m, gs, h1, h2, hS⟩ := h
  exact ⟨m, gs, h1, h2, hS.perm (List.Perm.append_left _ (List.Perm.append_left _ hp))⟩
theorem Co.begun {p : Nat} {vs vv vo : Value} {x : EntS} (h : Co w0 w c S (ThCell p (.cells #[vs, vv, .int .i64 x.dec, vo] 69 (0, 0)) :: ThRow 1 vs (x.shards.map iv) :: ThRow 1 vv (x.votes.map iv) :: ThRow 1 vo (x.owes.map iv) :: R) rows)
    {id : Int} (hn : lookS id S = none) (hx : x.wf) (hi1 : 1 ≤ id) (hi2 : id ≤ 9223372036854775807) : ∃ m w', w.cell? ⟨c, 0, none⟩ = some (.map (some m)) ∧
      (Instr.mapUpdate 62 (.map (some m)) (.int .i64 id) (.pointer (some ⟨p, 0, none⟩))).run Try.prog w = .ok () w' ∧ w'.cell? ⟨c, 0, none⟩ = some (.map (some m)) ∧ Co w0 w' c (S ++ [(id, x)]) R rows := by
  obtain ⟨m, gs, rfl, hwf, hS⟩ := h
  have hno := look_none hn
  have hc := hS.block (b := c) (o := .cells #[.map (some m)] 64 (0, 0)) (by simp [coHead])
  have h2 := hS.perm (List.perm_middle (l₁ := [_]))
  obtain ⟨w', hrun, hM, hU⟩ := mp_new (P := Try.prog) h2.mapIs Try.underlying62 Try.underlying2 (key := .int .i64 id) (v := .pointer (some ⟨p, 0, none⟩)) (show MapKept.IsKey (.int .i64) (.int .i64 id) from rfl) (fun q hq e => by
    obtain ⟨g, hg, rfl⟩ := List.mem_map.1 hq
    unfold EntG.kv at e
    simp only [Value.int.injEq, true_and] at e
    exact hno (g.ent) (List.mem_map_of_mem hg) e)
  have h3 := (h2.mapTo hU hM).perm (List.perm_middle (l₁ := [_])).symm
  have hc' := h3.block (b := c) (o := .cells #[.map (some m)] 64 (0, 0)) (by simp [coHead])
  refine ⟨m, w', cell_of hc 0 rfl, hrun, cell_of hc' 0 rfl, m, gs ++ [⟨id, p, vs, vv, vo, x⟩], by simp [EntG.ent], fun e he => ?_, ?_⟩
  · rcases List.mem_append.1 he with he | he
    · exact hwf e he
    · rw [List.mem_singleton.1 he]; exact ⟨hx, hi1, hi2⟩
  · simpa [coHead, EntG.kv, EntG.th] using h3

def newE (l : List Int) : EntS := { shards := l, votes := List.replicate l.length 0, dec := 0, owes := l }
theorem newE_wf {l : List Int} (h : l.length ≤ 4) : (newE l).wf := ⟨by simp [newE], h, h⟩
def beginS (S : CoS) (id : Int) (l : List Int) : Int × CoS :=
  if id < 1 ∨ l.length = 0 ∨ risS l = false then (1, S) else match lookS id S with | some _ => (5, S) | none => (0, S ++ [(id, newE l)])

set_option maxRecDepth 100000 in
set_option maxHeartbeats 2000000 in
theorem begin_any (h : Co w0 w c S R rows) (id : Int) (v : Value) (l : List Int) (E : List Nat) (hid : id ≤ 9223372036854775807) (hv : ReadRow w 1 v (l.map iv) E) :
    Calls Try.prog 12 #[.pointer (some ⟨c, 0, none⟩), .int .i64 id, v] w fun e w' => e = .returned (.int .i64 (beginS S id l).1) ∧ Co w0 w' c (beginS S id l).2 R rows := by
  obtain ⟨a, n, cv, rfl, hln, hnc, hcm, -⟩ := _root_.id hv
  rw [List.length_map, Nat.mul_one] at hln
  subst hln
  unfold maxLen at hcm
  have hri := rising_any _ l E w hv
  unfold beginS
  by_cases h1 : id < 1
  · rw [if_pos (.inl h1)]
    have H := Lib.hid h
    clear h hv hri
    go_enter Try.func12, Try.ntmps12
    go_wp2_with fail
    go_ret
    exact ⟨rfl, H.out⟩
  by_cases h2 : l.length = 0
  · rw [if_pos (.inr (.inl h2))]
    have b2 : ((l.length : Int) == 0) = true := beq_iff_eq.2 (by omega)
    have H := Lib.hid h
    clear h hv hri h2
    go_enter Try.func12, Try.ntmps12
    go_wp2_with fail
    go_ret
    exact ⟨rfl, H.out⟩
  have b2 : ((l.length : Int) == 0) = false := beq_eq_false_iff_ne.2 (by omega)
  cases hr : risS l with
  | false =>
    rw [if_pos (.inr (.inr rfl))]
    rw [hr] at hri
    have H := Lib.hid h
    have HR := Lib.hid hri
    clear h hv hri h2 hr
    go_enter Try.func12, Try.ntmps12
    go_wp2_with fail
    refine HR.out.mono ?_
    rintro e w1 ⟨rfl, rfl⟩
    go_wp2_with fail
    go_ret
    exact ⟨rfl, H.out⟩
  | true =>
  rw [if_neg (by simp [h1, h2])]
  rw [hr] at hri
  have hl4 := risS_len hr
  cases hx : lookS id S with
  | some x =>
    obtain ⟨m, l1, g, l2, rfl, rfl, hF, -, hSS⟩ := h.take hx
    obtain ⟨hc, hl, hp⟩ := hF.facts
    have hl := hl w rfl
    have H := Lib.hid h
    have HR := Lib.hid hri
    clear h hv hri h2 hr hF hSS hp hx
    go_enter Try.func12, Try.ntmps12
    go_wp2_with fail
    refine HR.out.mono ?_
    rintro e w1 ⟨rfl, rfl⟩
    go_wp2_with fail
    go_ret
    exact ⟨rfl, H.out⟩
  | none =>
    obtain ⟨m, hc, hl⟩ := h.absent hx
    have hl := hl w rfl
    have H := Lib.hid h
    have HR := Lib.hid hri
    have HV := Lib.hid hv
    have HX := Lib.hid hx
    have hmk := fun W => run_make_row' (P := Try.prog) 22 3 (.int .i64 0) 8 Try.underlying22 infoI rfl .i64 .i64 l.length (by omega) (by omega) W
    clear h hv hri h2 hr hx
    go_enter Try.func12, Try.ntmps12
    go_wp2_with fail
    refine HR.out.mono ?_
    rintro e w1 ⟨rfl, rfl⟩
    go_wp2_with fail
    refine wp_region_M (fun W => W.cell? ⟨c, 0, none⟩ = some (.map (some m))) 15 (by kernel_rfl) ?_
    refine wpAnyM_take (by kernel_rfl) (by intro c a d v w h; cases d <;> exact h) [(0, false), (1, false), (2, false), (3, true), (4, false), (5, false), (7, false), (8, false), (10, false)] (fuel := 6) (by kernel_rfl) ?_
    apply Exists.intro; refine ⟨?_, hc, ?_⟩
    · iterate 9 ((first | (apply yieldN; (· (simp only [List.getElem?_toArray, List.getElem?_cons_succ, List.getElem?_cons_zero]; try rfl)); (· rfl)) | ((first | apply yieldP | apply yieldL); (· (simp only [List.getElem?_toArray, List.getElem?_cons_succ, List.getElem?_cons_zero]; try rfl)); (· rfl); (· (intros; go_simp; try with_reducible rfl)))); (· (simp only [Act.put, List.setIfInBounds_toArray, List.set_cons_zero, List.set_cons_succ]; try rfl)))
      exact rfl
    obtain ⟨w10, hw10⟩ : ∃ x, x = w1.drew := ⟨_, rfl⟩
    have k10 : w10.cell? ⟨c, 0, none⟩ = some (.map (some m)) := by rw [hw10]; exact hc
    have HV10 := Lib.hid (show ReadRow w10 1 (.slice a l.length cv) (l.map iv) E by rw [hw10]; exact HV.out.frame (fun _ _ => rfl))
    have HC10 := Lib.hid (show Co w0 w10 c S R rows by rw [hw10]; exact H.out.keep (Upd.refl w1 []).drew)
    rw [← hw10]
    clear hw10 hc hl H HV
    refine wpAnyM_each (fuel := 5) [6, 9] (by kernel_rfl) (by simp) (fun i hi => ?_)
    simp only [List.mem_cons, List.not_mem_nil, or_false] at hi
    rcases hi with rfl | rfl
    case' inr =>
      refine ⟨_, by rfl, fun K hK => ?_⟩
      have hzr := zeroI_row w10 l.length (by omega)
      have hzu := Upd.alloc1 w10 (.cells (madeCells #[.int .i64 0] l.length) 3) []
      have k11 := upd_cell hzu k10
      have HV11 := Lib.hid (HV10.out.frame (hzu.same HV10.out.lt (by simp)))
      have HC11 := Lib.hid (HC10.out.addR (T := ThRow 1 (.slice (some ⟨w10.heap.size, 0, none⟩) l.length l.length) ((List.replicate l.length 0).map iv)) hzu hzr)
      clear hzr hzu
      go_wp2_with fail
      obtain ⟨z, hz⟩ : ∃ z, z = w10.heap.size := ⟨_, rfl⟩
      obtain ⟨w11, hw⟩ : ∃ x, x = w10.alloc (.cells (madeCells #[.int .i64 0] l.length) 3) := ⟨_, rfl⟩
      rw [← hw, ← hz] at HC11 ⊢
      rw [← hw] at HV11 k11
      clear hw hz
      refine hK _ _ k11 ?_
      clear hK
      refine wpAnyM_one (fuel := 4) (i := 6) (by kernel_rfl) (by rfl) (fun K hK => ?_)
      go_wp2_with fail
      refine (cloneI_any _ l E _ HV11.out (by omega)).mono ?_
      rintro e w12 ⟨va, Da, rfl, ho, hu⟩
      obtain ⟨aa, na, ca, rfl, -⟩ := ho.len
      have k12 := upd_cell hu k11
      have HV12 := Lib.hid (HV11.out.frame (hu.same HV11.out.lt (by simp)))
      have HC12 := Lib.hid (HC11.out.addR (T := ThRow 1 (.slice aa na ca) (l.map iv)) hu ho)
      clear hu ho
      go_wp2_with fail
      refine hK _ _ k12 ?_
      clear hK
      refine wpAnyM_one (fuel := 3) (i := 11) (by kernel_rfl) (by rfl) (fun K hK => ?_)
      go_wp2_with fail
      refine (cloneI_any _ l E _ HV12.out (by omega)).mono ?_
      rintro e w13 ⟨vb, Db, rfl, ho, hu⟩
      obtain ⟨ab, nb, cb, rfl, -⟩ := ho.len
      have k13 := upd_cell hu k12
      have HV13 := Lib.hid (HV12.out.frame (hu.same HV12.out.lt (by simp)))
      have HC13 := Lib.hid (HC12.out.addR (T := ThRow 1 (.slice ab nb cb) (l.map iv)) hu ho)
      clear hu ho
      go_wp2_with fail
      refine hK _ _ k13 ?_
      clear hK
      have HC := Lib.hid (show Co w0 w13 c S (ThRow 1 (.slice aa na ca) (l.map iv) :: ThRow 1 (.slice (some ⟨z, 0, none⟩) l.length l.length) ((List.replicate l.length 0).map iv) :: ThRow 1 (.slice ab nb cb) (l.map iv) :: R) rows from HC13.out.permR ((List.Perm.swap _ _ _).trans ((List.Perm.cons _ (List.Perm.swap _ _ _)))))
      clear HC10 HC11 HC12 HC13 HV10 HV11 HV12 HV13
    case' inl =>
      refine ⟨_, by rfl, fun K hK => ?_⟩
      go_wp2_with fail
      refine (cloneI_any _ l E _ HV10.out (by omega)).mono ?_
      rintro e w11 ⟨va, Da, rfl, ho, hu⟩
      obtain ⟨aa, na, ca, rfl, -⟩ := ho.len
      have k11 := upd_cell hu k10
      have HV11 := Lib.hid (HV10.out.frame (hu.same HV10.out.lt (by simp)))
      have HC11 := Lib.hid (HC10.out.addR (T := ThRow 1 (.slice aa na ca) (l.map iv)) hu ho)
      clear hu ho
      go_wp2_with fail
      refine hK _ _ k11 ?_
      clear hK
      refine wpAnyM_each (fuel := 4) [9, 11] (by kernel_rfl) (by simp) (fun i hi => ?_)
      simp only [List.mem_cons, List.not_mem_nil, or_false] at hi
      rcases hi with rfl | rfl
      case' inl =>
        refine ⟨_, by rfl, fun K hK => ?_⟩
        have hzr := zeroI_row w11 l.length (by omega)
        have hzu := Upd.alloc1 w11 (.cells (madeCells #[.int .i64 0] l.length) 3) []
        have k12 := upd_cell hzu k11
        have HV12 := Lib.hid (HV11.out.frame (hzu.same HV11.out.lt (by simp)))
        have HC12 := Lib.hid (HC11.out.addR (T := ThRow 1 (.slice (some ⟨w11.heap.size, 0, none⟩) l.length l.length) ((List.replicate l.length 0).map iv)) hzu hzr)
        clear hzr hzu
        go_wp2_with fail
        obtain ⟨z, hz⟩ : ∃ z, z = w11.heap.size := ⟨_, rfl⟩
        obtain ⟨w12, hw⟩ : ∃ x, x = w11.alloc (.cells (madeCells #[.int .i64 0] l.length) 3) := ⟨_, rfl⟩
        rw [← hw, ← hz] at HC12 ⊢
        rw [← hw] at HV12 k12
        clear hw hz
        refine hK _ _ k12 ?_
        clear hK
        refine wpAnyM_one (fuel := 3) (i := 11) (by kernel_rfl) (by rfl) (fun K hK => ?_)
        go_wp2_with fail
        refine (cloneI_any _ l E _ HV12.out (by omega)).mono ?_
        rintro e w13 ⟨vb, Db, rfl, ho, hu⟩
        obtain ⟨ab, nb, cb, rfl, -⟩ := ho.len
        have k13 := upd_cell hu k12
        have HV13 := Lib.hid (HV12.out.frame (hu.same HV12.out.lt (by simp)))
        have HC13 := Lib.hid (HC12.out.addR (T := ThRow 1 (.slice ab nb cb) (l.map iv)) hu ho)
        clear hu ho
        go_wp2_with fail
        refine hK _ _ k13 ?_
        clear hK
        have HC := Lib.hid (show Co w0 w13 c S (ThRow 1 (.slice aa na ca) (l.map iv) :: ThRow 1 (.slice (some ⟨z, 0, none⟩) l.length l.length) ((List.replicate l.length 0).map iv) :: ThRow 1 (.slice ab nb cb) (l.map iv) :: R) rows from HC13.out.permR ((List.perm_middle (l₁ := [_, _]) (l₂ := R)).symm.trans ((List.Perm.swap _ _ _))))
        clear HC10 HC11 HC12 HC13 HV10 HV11 HV12 HV13
      case' inr =>
        refine ⟨_, by rfl, fun K hK => ?_⟩
        go_wp2_with fail
        refine (cloneI_any _ l E _ HV11.out (by omega)).mono ?_
        rintro e w12 ⟨vb, Db, rfl, ho, hu⟩
        obtain ⟨ab, nb, cb, rfl, -⟩ := ho.len
        have k12 := upd_cell hu k11
        have HV12 := Lib.hid (HV11.out.frame (hu.same HV11.out.lt (by simp)))
        have HC12 := Lib.hid (HC11.out.addR (T := ThRow 1 (.slice ab nb cb) (l.map iv)) hu ho)
        clear hu ho
        go_wp2_with fail
        refine hK _ _ k12 ?_
        clear hK
        refine wpAnyM_one (fuel := 3) (i := 9) (by kernel_rfl) (by rfl) (fun K hK => ?_)
        have hzr := zeroI_row w12 l.length (by omega)
        have hzu := Upd.alloc1 w12 (.cells (madeCells #[.int .i64 0] l.length) 3) []
        have k13 := upd_cell hzu k12
        have HV13 := Lib.hid (HV12.out.frame (hzu.same HV12.out.lt (by simp)))
        have HC13 := Lib.hid (HC12.out.addR (T := ThRow 1 (.slice (some ⟨w12.heap.size, 0, none⟩) l.length l.length) ((List.replicate l.length 0).map iv)) hzu hzr)
        clear hzr hzu
        go_wp2_with fail
        obtain ⟨z, hz⟩ : ∃ z, z = w12.heap.size := ⟨_, rfl⟩
        obtain ⟨w13, hw⟩ : ∃ x, x = w12.alloc (.cells (madeCells #[.int .i64 0] l.length) 3) := ⟨_, rfl⟩
        rw [← hw, ← hz] at HC13 ⊢
        rw [← hw] at HV13 k13
        clear hw hz
        refine hK _ _ k13 ?_
        clear hK
        have HC := Lib.hid (show Co w0 w13 c S (ThRow 1 (.slice aa na ca) (l.map iv) :: ThRow 1 (.slice (some ⟨z, 0, none⟩) l.length l.length) ((List.replicate l.length 0).map iv) :: ThRow 1 (.slice ab nb cb) (l.map iv) :: R) rows from HC13.out.permR (List.perm_middle (l₁ := [_, _]) (l₂ := R)))
        clear HC10 HC11 HC12 HC13 HV10 HV11 HV12 HV13
    all_goals
      refine wpAnyM_take (by kernel_rfl) (by intro c a d v w h; cases d <;> exact h) [(12, false)] (fuel := 2) (by kernel_rfl) ?_
      apply Exists.intro; refine ⟨?_, k13, ?_⟩
      · iterate 1 ((first | (apply yieldN; (· (simp only [List.getElem?_toArray, List.getElem?_cons_succ, List.getElem?_cons_zero]; try rfl)); (· rfl)) | ((first | apply yieldP | apply yieldL); (· (simp only [List.getElem?_toArray, List.getElem?_cons_succ, List.getElem?_cons_zero]; try rfl)); (· rfl); (· (intros; go_simp; try with_reducible rfl)))); (· (simp only [Act.put, List.setIfInBounds_toArray, List.set_cons_zero, List.set_cons_succ]; try rfl)))
        exact rfl
      have h14 := HC.out.newCell (.cells #[.slice aa na ca, .slice (some ⟨z, 0, none⟩) l.length l.length, .int .i64 0, .slice ab nb cb] 69 (0, 0))
      have k14 := upd_cell (Upd.alloc0 w13 (.cells #[.slice aa na ca, .slice (some ⟨z, 0, none⟩) l.length l.length, .int .i64 0, .slice ab nb cb] 69 (0, 0)) []) k13
      obtain ⟨m', w15, hm', hrun, k15, hC15⟩ := h14.begun (x := newE l) HX.out (newE_wf hl4) (by omega) hid
      have e := k14.symm.trans hm'
      cases e
      have H15 := Lib.hid hC15
      clear h14 hm' hC15 HC
      refine wpAnyM_one (fuel := 1) (i := 13) (by kernel_rfl) (by rfl) (fun K hK => ?_)    -- box
      go_wp2_with fail
      refine hK _ _ k14 ?_
      clear hK
      refine wpAnyM_one (fuel := 0) (i := 14) (by kernel_rfl) (by rfl) (fun K hK => ?_)    -- mapUpdate
      go_wp2_with fail
      refine hK _ _ k15 ?_
      clear hK
      refine wpAnyM_done (by kernel_rfl) ?_ _
      go_wp2_with fail
      go_ret
      exact ⟨rfl, H15.out⟩
end
end Go.Proofs.Ytebmmbommkpjaaa

/-
  Maps' keys, as the library's contracts take them.
-/
namespace Go.Av
open Go.RowKit Go.Maps Go.Sort

def noRead : Value → Option (DataW Unit × List MemPlace) := fun _ => some (.nil, [])
theorem rg_str {P : Program} {k : TypeId} (hk : P.underlying k = some .string) (s : ByteArray) (hs : s.size ≤ maxLen) (e : MapEntry) (he : e.key = .string s) : WideElems.rd P k noRead e = some (.string s.data.toList, .nil) := by
  simp [WideElems.rd, he, keyOf, hk, mapKey, hs, noRead]

/-- A map of names, as the library's contracts take it. -/
theorem owns_names {P : Program} {w : World} {k : TypeId} {m : Nat} {l : List (ByteArray × Value)} (h : MapIs w .string m (l.map fun x => (.string x.1, x.2))) (hk : P.underlying k = some .string) (hn : l.length ≤ 1000000) (hs : ∀ x ∈ l, x.1.size ≤ maxLen) :
    ∃ D0 : DataW Unit, w.ownsMap P k noRead m l.length D0 ∧ size D0 = l.length ∧ (strKeys D0).Perm (l.map fun x => x.1.data.toList) := by
  obtain ⟨es, clock, h1, h2, h3, h4⟩ := h
  have hlen : es.size = l.length := by
    have := congrArg List.length h4
    simpa using this
  have hall : ∀ e ∈ es.toList, ∃ x ∈ l, e.key = .string x.1 := by
    intro e he
    have hm : kv e ∈ l.map fun x => (Value.string x.1, x.2) := by rw [← h4]; exact List.mem_map_of_mem he
    obtain ⟨x, hx, hxe⟩ := List.mem_map.1 hm
    exact ⟨x, hx, (congrArg Prod.fst hxe).symm⟩
  refine ⟨_, ⟨es, clock, h1, ⟨by rw [hlen]; unfold maxLen; omega, h2, fun e he => ?_⟩, by omega, rfl⟩, ?_, ?_⟩
  · obtain ⟨x, hx, hk'⟩ := hall e he
    exact ⟨_, rg_str hk x.1 (hs x hx) e hk'⟩
  · rw [size_eq, (WideShapes.sorted_perm _).length_eq]
    simpa using hlen
  · have e1 : (es.toList.map (WideElems.rg P k noRead)).map (fun p => strOf p.1) = l.map fun x => x.1.data.toList := by
      have e2 : es.toList.map (fun e => (kv e).1) = l.map fun x => Value.string x.1 := by
        have := congrArg (List.map Prod.fst) h4
        simpa [Function.comp_def] using this
      have e3 : es.toList.map (fun e => strOf (WideElems.rg P k noRead e).1) = (es.toList.map (fun e => (kv e).1)).map fun v => match v with | .string s => s.data.toList | _ => [] := by
        rw [List.map_map]
        refine List.map_congr_left fun e he => ?_
        obtain ⟨x, hx, hk'⟩ := hall e he
        have hke : (kv e).1 = .string x.1 := hk'
        simp [Function.comp, hke, WideElems.rg, rg_str hk x.1 (hs x hx) e hk', strOf]
      rw [List.map_map, Function.comp_def, e3, e2, List.map_map]
      rfl
    rw [← e1]
    exact (WideShapes.sorted_perm _).map _

theorem rg_int {P : Program} {k : TypeId} (hk : P.underlying k = some (.int .i64)) (x : Int) (hx : (Lit.int .i64 x).wf = true) (e : MapEntry) (he : e.key = .int .i64 x) : WideElems.rd P k noRead e = some (.int .i64 x, .nil) := by
  simp [WideElems.rd, he, keyOf, hk, mapKey, hx, noRead]
/-- A map of numbers, as the library's contracts take it. -/
theorem owns_ids {P : Program} {w : World} {k : TypeId} {m : Nat} {l : List (Int × Value)} (h : MapIs w (.int .i64) m (l.map fun x => (.int .i64 x.1, x.2))) (hk : P.underlying k = some (.int .i64)) (hn : l.length ≤ 1000000) (hs : ∀ x ∈ l, (Lit.int .i64 x.1).wf = true) :
    ∃ D0 : DataW Unit, w.ownsMap P k noRead m l.length D0 ∧ Maps.size D0 = l.length ∧ (intKeys D0).Perm (l.map fun x => x.1) := by
  obtain ⟨es, clock, h1, h2, h3, h4⟩ := h
  have hlen : es.size = l.length := by
    have := congrArg List.length h4
    simpa using this
  have hall : ∀ e ∈ es.toList, ∃ x ∈ l, e.key = .int .i64 x.1 := by
    intro e he
    have hm : kv e ∈ l.map fun x => (Value.int .i64 x.1, x.2) := by rw [← h4]; exact List.mem_map_of_mem he
    obtain ⟨x, hx, hxe⟩ := List.mem_map.1 hm
    exact ⟨x, hx, (congrArg Prod.fst hxe).symm⟩
  refine ⟨_, ⟨es, clock, h1, ⟨by rw [hlen]; unfold maxLen; omega, h2, fun e he => ?_⟩, by omega, rfl⟩, ?_, ?_⟩
  · obtain ⟨x, hx, hk'⟩ := hall e he
    exact ⟨_, rg_int hk x.1 (hs x hx) e hk'⟩
  · rw [size_eq, (WideShapes.sorted_perm _).length_eq]
    simpa using hlen
  · have e1 : (es.toList.map (WideElems.rg P k noRead)).map (fun p => Go.intOf p.1) = l.map fun x => x.1 := by
      have e2 : es.toList.map (fun e => (kv e).1) = l.map fun x => Value.int .i64 x.1 := by
        have := congrArg (List.map Prod.fst) h4
        simpa [Function.comp_def] using this
      have e3 : es.toList.map (fun e => Go.intOf (WideElems.rg P k noRead e).1) = (es.toList.map (fun e => (kv e).1)).map fun v => match v with | .int _ q => q | _ => 0 := by
        rw [List.map_map]
        refine List.map_congr_left fun e he => ?_
        obtain ⟨x, hx, hk'⟩ := hall e he
        have hke : (kv e).1 = .int .i64 x.1 := hk'
        simp [Function.comp, hke, WideElems.rg, rg_int hk x.1 (hs x hx) e hk', Go.intOf]
      rw [List.map_map, Function.comp_def, e3, e2, List.map_map]
      rfl
    rw [← e1]
    exact (WideShapes.sorted_perm _).map _
theorem own_of {w : World} {base : Nat} {e : TypeId} {v : Value} {n : Nat} {xs : List Value} (h : w.ownsRow base e 1 v n xs) : ∃ D, OwnRow w 1 v xs D ∧ ∀ b ∈ D, base ≤ b ∧ b < w.heap.size := by
  obtain ⟨hl, ⟨rfl, rfl⟩ | ⟨g, cap, cur, rfl, hg, hh, hn, hc, hs, hx⟩⟩ := h
  · obtain rfl : xs = [] := List.length_eq_zero_iff.1 (by omega)
    exact ⟨[], OwnRow.nil _ _, by simp⟩
  · exact ⟨[g], ⟨_, n, cap, rfl, hl, hn, hc, (fun h => by cases h), .inr ⟨g, 0, cur, e, rfl, rfl, hh, by omega, by simpa using hx⟩⟩, by simpa using ⟨hg, lt_of_heap hh⟩⟩

theorem read_own {w : World} {base : Nat} {e : TypeId} {v : Value} {n : Nat} {xs : List Value} (h : w.ownsRow base e 1 v n xs) : ∃ E, ReadRow w 1 v xs E ∧ ∀ b ∈ E, base ≤ b := by
  obtain ⟨hl, ⟨rfl, rfl⟩ | ⟨g, cap, cur, rfl, hg, hh, hn, hc, hs, hx⟩⟩ := h
  · obtain rfl : xs = [] := List.length_eq_zero_iff.1 (by omega)
    exact ⟨[], ⟨none, 0, 0, rfl, rfl, Nat.le_refl _, by decide, fun _ => rfl, .inl ⟨rfl, rfl⟩⟩, by simp⟩
  · refine ⟨[g], ⟨_, n, cap, rfl, hl, hn, hc, (fun h => by cases h), .inr ⟨g, 0, rfl, rfl, lt_of_heap hh, fun i x hi => ?_⟩⟩, by simpa using hg⟩
    rw [cell_of_row w g (0 + i) cur e _ hh, ← hx] at *
    rw [List.getElem?_take] at hi
    split at hi
    · simpa using hi
    · cases hi

theorem wf_i64 {n : Int} (h1 : -9223372036854775808 ≤ n) (h2 : n ≤ 9223372036854775807) : (Lit.int .i64 n).wf = true := by
  have e1 : IntKind.i64.min = -9223372036854775808 := by decide
  have e2 : IntKind.i64.max = 9223372036854775807 := by decide
  simp only [Lit.wf, Bool.and_eq_true, decide_eq_true_eq, e1, e2]
  omega

end Go.Av

/-
  The library's contracts on 'slices.Sorted(maps.Keys(m))' laid at this program, in plain words (written by the kit's tools).
-/
namespace Go.Proofs
open Go.Shelf
def Try.keys40_ren : Go.Shelf.Ren := ⟨fun | 7 => 40 | 10 => 63 | n => n, fun | 23 => 62 | 26 => 2 | 3 => 66 | 28 => 76 | 0 => 0 | 27 => 75 | 33 => 96 | 4 => 4 | n => n, fun | n => n⟩
theorem Try.keys40 : Go.Proofs.SlLaysZI.n7 Try.prog Try.keys40_ren := {
  mixed := by kernel_rfl
  f7 := ⟨Try.f40.name, by decide, Try.func40.trans (congrArg some (by kernel_rfl))⟩
  f10 := ⟨Try.f63.name, by decide, Try.func63.trans (congrArg some (by kernel_rfl))⟩
  t0 := Try.underlying0
  a0 := Try.isAgg0
  z0 := Try.sizeOf0
  v0 := Try.zeroValue0
  t4 := Try.underlying4
  a4 := Try.isAgg4
  z4 := Try.sizeOf4
  v4 := Try.zeroValue4
  t23 := Try.underlying62
  a23 := Try.isAgg62
  z23 := Try.sizeOf62
  v23 := Try.zeroValue62
  t26 := Try.underlying2
  a26 := Try.isAgg2
  z26 := Try.sizeOf2
  v26 := Try.zeroValue2
  t27 := Try.underlying75
  a27 := Try.isAgg75
  z27 := Try.sizeOf75
  v27 := Try.zeroValue75
  t28 := Try.underlying76
  a28 := Try.isAgg76
  z28 := Try.sizeOf76
  v28 := Try.zeroValue76
  t33 := Try.underlying96
  a33 := Try.isAgg96
  z33 := Try.sizeOf96
  v33 := Try.zeroValue96 }
def Try.sorted39_ren : Go.Shelf.Ren := ⟨fun | 6 => 39 | 8 => 61 | 9 => 62 | 11 => 67 | 13 => 69 | 12 => 68 | 23 => 79 | 24 => 80 | 14 => 70 | 15 => 71 | 16 => 72 | 17 => 73 | 18 => 74 | 19 => 75 | 20 => 76 | 21 => 77 | 22 => 78 | 25 => 81 | 26 => 82 | 27 => 83 | 28 => 84 | 29 => 85 | 30 => 86 | 31 => 87 | n => n, fun | 26 => 2 | 28 => 76 | 24 => 32 | 0 => 0 | 3 => 3 | 37 => 100 | 48 => 115 | 50 => 99 | 4 => 4 | 40 => 107 | 39 => 106 | 45 => 112 | 5 => 5 | 9 => 9 | 51 => 117 | 55 => 121 | 57 => 123 | 58 => 124 | 33 => 96 | n => n, fun | n => n⟩
theorem Try.sorted39 : Go.Proofs.SlLaysZI.n6 Try.prog Try.sorted39_ren := {
  mixed := by kernel_rfl
  f6 := ⟨Try.f39.name, by decide, Try.func39.trans (congrArg some (by kernel_rfl))⟩
  f8 := ⟨Try.f61.name, by decide, Try.func61.trans (congrArg some (by kernel_rfl))⟩
  f11 := ⟨Try.f67.name, by decide, Try.func67.trans (congrArg some (by kernel_rfl))⟩
  t0 := Try.underlying0
  a0 := Try.isAgg0
  z0 := Try.sizeOf0
  v0 := Try.zeroValue0
  t24 := Try.underlying32
  a24 := Try.isAgg32
  z24 := Try.sizeOf32
  v24 := Try.zeroValue32
  t26 := Try.underlying2
  a26 := Try.isAgg2
  z26 := Try.sizeOf2
  v26 := Try.zeroValue2
  t28 := Try.underlying76
  a28 := Try.isAgg76
  z28 := Try.sizeOf76
  v28 := Try.zeroValue76
  i26 := by kernel_rfl }
def Try.sort62_ren : Go.Shelf.Ren := ⟨fun | 5 => 62 | 8 => 69 | 7 => 68 | 19 => 79 | 20 => 80 | 10 => 70 | 11 => 71 | 12 => 72 | 13 => 73 | 14 => 74 | 15 => 75 | 16 => 76 | 17 => 77 | 18 => 78 | 30 => 81 | 31 => 82 | 32 => 83 | 33 => 84 | 34 => 85 | 35 => 86 | 40 => 87 | n => n, fun | 23 => 32 | 25 => 2 | 3 => 3 | 32 => 100 | 22 => 32 | 0 => 0 | 44 => 115 | 46 => 99 | 4 => 4 | 36 => 107 | 35 => 106 | 41 => 112 | 5 => 5 | 9 => 9 | 53 => 117 | 57 => 121 | 63 => 123 | 64 => 124 | n => n, fun | n => n⟩
theorem Try.sort62 : Go.Proofs.SlLaysM.n5 Try.prog Try.sort62_ren := {
  mixed := by kernel_rfl
  f5 := ⟨Try.f62.name, by decide, Try.func62.trans (congrArg some (by kernel_rfl))⟩
  f7 := ⟨Try.f68.name, by decide, Try.func68.trans (congrArg some (by kernel_rfl))⟩
  f8 := Try.func69.trans (congrArg some (by kernel_rfl))
  f10 := ⟨Try.f70.name, by decide, Try.func70.trans (congrArg some (by kernel_rfl))⟩
  f11 := ⟨Try.f71.name, by decide, Try.func71.trans (congrArg some (by kernel_rfl))⟩
  f12 := ⟨Try.f72.name, by decide, Try.func72.trans (congrArg some (by kernel_rfl))⟩
  f13 := ⟨Try.f73.name, by decide, Try.func73.trans (congrArg some (by kernel_rfl))⟩
  f14 := ⟨Try.f74.name, by decide, Try.func74.trans (congrArg some (by kernel_rfl))⟩
  f15 := ⟨Try.f75.name, by decide, Try.func75.trans (congrArg some (by kernel_rfl))⟩
  f16 := ⟨Try.f76.name, by decide, Try.func76.trans (congrArg some (by kernel_rfl))⟩
  f17 := ⟨Try.f77.name, by decide, Try.func77.trans (congrArg some (by kernel_rfl))⟩
  f18 := ⟨Try.f78.name, by decide, Try.func78.trans (congrArg some (by kernel_rfl))⟩
  f19 := Try.func79.trans (congrArg some (by kernel_rfl))
  f20 := Try.func80.trans (congrArg some (by kernel_rfl))
  f30 := ⟨Try.f81.name, by decide, Try.func81.trans (congrArg some (by kernel_rfl))⟩
  f31 := Try.func82.trans (congrArg some (by kernel_rfl))
  f32 := Try.func83.trans (congrArg some (by kernel_rfl))
  f33 := ⟨Try.f84.name, by decide, Try.func84.trans (congrArg some (by kernel_rfl))⟩
  f34 := ⟨Try.f85.name, by decide, Try.func85.trans (congrArg some (by kernel_rfl))⟩
  f35 := ⟨Try.f86.name, by decide, Try.func86.trans (congrArg some (by kernel_rfl))⟩
  f40 := ⟨Try.f87.name, by decide, Try.func87.trans (congrArg some (by kernel_rfl))⟩
  t0 := Try.underlying0
  a0 := Try.isAgg0
  z0 := Try.sizeOf0
  v0 := Try.zeroValue0
  t3 := Try.underlying3
  a3 := Try.isAgg3
  z3 := Try.sizeOf3
  v3 := Try.zeroValue3
  t4 := Try.underlying4
  a4 := Try.isAgg4
  z4 := Try.sizeOf4
  v4 := Try.zeroValue4
  t5 := Try.underlying5
  a5 := Try.isAgg5
  z5 := Try.sizeOf5
  v5 := Try.zeroValue5
  t9 := Try.underlying9
  a9 := Try.isAgg9
  z9 := Try.sizeOf9
  v9 := Try.zeroValue9
  t22 := Try.underlying32
  a22 := Try.isAgg32
  z22 := Try.sizeOf32
  v22 := Try.zeroValue32
  t23 := Try.underlying32
  a23 := Try.isAgg32
  z23 := Try.sizeOf32
  v23 := Try.zeroValue32
  t25 := Try.underlying2
  a25 := Try.isAgg2
  z25 := Try.sizeOf2
  v25 := Try.zeroValue2
  t32 := Try.underlying100
  a32 := Try.isAgg100
  z32 := Try.sizeOf100
  v32 := Try.zeroValue100
  t35 := Try.underlying106
  a35 := Try.isAgg106
  z35 := Try.sizeOf106
  v35 := Try.zeroValue106
  t36 := Try.underlying107
  a36 := Try.isAgg107
  z36 := Try.sizeOf107
  v36 := Try.zeroValue107
  t41 := Try.underlying112
  a41 := Try.isAgg112
  z41 := Try.sizeOf112
  v41 := Try.zeroValue112
  t44 := Try.underlying115
  a44 := Try.isAgg115
  z44 := Try.sizeOf115
  v44 := Try.zeroValue115
  t46 := Try.underlying99
  a46 := Try.isAgg99
  z46 := Try.sizeOf99
  v46 := Try.zeroValue99
  t53 := Try.underlying117
  a53 := Try.isAgg117
  z53 := Try.sizeOf117
  v53 := Try.zeroValue117
  t57 := Try.underlying121
  a57 := Try.isAgg121
  z57 := Try.sizeOf121
  v57 := Try.zeroValue121
  t63 := Try.underlying123
  a63 := Try.isAgg123
  z63 := Try.sizeOf123
  v63 := Try.zeroValue123
  t64 := Try.underlying124
  a64 := Try.isAgg124
  z64 := Try.sizeOf124
  v64 := Try.zeroValue124 }
open Go.RowKit Go.Maps Go.Sort Go.Shelf
theorem Try.sorts39 (m : Nat) : AnyZI.SortsIn Try.prog Try.sorted39_ren Fence.wide m :=
  ⟨fun blk off cap ss W hH hblk hsz => callsIn_wide.2 (AnyM.slices_Sort_int Try.sort62 blk off cap ss W hH hblk hsz),
   fun p cap W => callsIn_wide.2 (AnyM.slices_Sort_int_none Try.sort62 p cap W)⟩

theorem Try.maps_Keys_40 (mb : Option Nat) (W : World) : CallsIn Fence.wide 5 Try.prog 40 #[.map mb] W fun e w' => e = .returned (.func (.func 63) #[] #[.pointer (some ⟨W.heap.size, 0, none⟩)]) ∧ w' = W.alloc (.cells #[.map mb] 62) :=
  AnyZI.keys_in Try.keys40 Fence.wide 5 trivial rfl mb W

set_option maxHeartbeats 1000000 in
theorem Try.slices_Sorted_keys_39_40 {H : Type} (b nn : Nat) (D0 : DataW H) (R : Value → Option (DataW H × List MemPlace)) (w : World) (hown : w.ownsMap Try.prog 2 R b nn D0) (hmax : Maps.size D0 ≤ maxLen) (hbytes : Maps.size D0 * 8 ≤ 140737488355328) :
    CallsIn Fence.wide 5 Try.prog 39 #[.func (.func 63) #[] #[.pointer (some ⟨w.heap.size, 0, none⟩)]] (w.alloc (.cells #[.map (some b)] 62)) fun e w' => ∃ (v : Value) (ss : List Int), e = .returned v ∧ ss.Perm (intKeys D0) ∧
      w'.ownsRow (w.alloc (.cells #[.map (some b)] 62)).heap.size 2 1 v ss.length ((ss.mergeSort (fun x y => decide (x ≤ y))).map encZ) ∧ (v = .slice none 0 0 ↔ ss = []) ∧ Below (w.alloc (.cells #[.map (some b)] 62)).heap.size (w.alloc (.cells #[.map (some b)] 62)) w' := by
  have hbl := hown.lt
  have hseq : SeqGives Fence.wide 2 Try.prog 63 #[.pointer (some ⟨w.heap.size, 0, none⟩)] encZ (fun ss => ss.Perm (intKeys D0)) (Maps.size D0) (w.alloc (.cells #[.map (some b)] 62)) :=
    AnyZI.keys_gives (ρ := Try.keys40_ren) { Try.keys40 with } Fence.wide _ trivial rfl (by omega) w.heap.size b nn D0 _ (by simp) (by simp) (by
      obtain ⟨es, clock, hb, Ft, hs, hD⟩ := hown
      exact ⟨es, clock, (Below.heap_alloc _ _ b hbl).trans hb, Ft, hs, hD⟩)
  exact AnyZI.sorted_in Try.sorted39 Fence.wide 5 trivial trivial trivial trivial rfl (by omega) (Try.sorts39 _) (enters_of Try.func62 (by kernel_rfl) rfl) 63 #[.pointer (some ⟨w.heap.size, 0, none⟩)] trivial (enters_of Try.func63 (by kernel_rfl) rfl) _ _ hmax hbytes _ hseq

set_option maxHeartbeats 1000000 in
theorem Try.slices_Sorted_keys_nil_39_40 (w : World) :
    CallsIn Fence.wide 5 Try.prog 39 #[.func (.func 63) #[] #[.pointer (some ⟨w.heap.size, 0, none⟩)]] (w.alloc (.cells #[.map none] 62)) fun e w' => ∃ (v : Value) (ss : List Int), e = .returned v ∧ ss = [] ∧
      w'.ownsRow (w.alloc (.cells #[.map none] 62)).heap.size 2 1 v ss.length ((ss.mergeSort (fun x y => decide (x ≤ y))).map encZ) ∧ (v = .slice none 0 0 ↔ ss = []) ∧ Below (w.alloc (.cells #[.map none] 62)).heap.size (w.alloc (.cells #[.map none] 62)) w' := by
  have hseq : SeqGives Fence.wide 2 Try.prog 63 #[.pointer (some ⟨w.heap.size, 0, none⟩)] encZ (fun ss : List Int => ss = []) 0 (w.alloc (.cells #[.map none] 62)) :=
    AnyZI.keys_gives_nil (ρ := Try.keys40_ren) { Try.keys40 with } Fence.wide _ trivial rfl w.heap.size _ (by simp) (by simp)
  exact AnyZI.sorted_in Try.sorted39 Fence.wide 5 trivial trivial trivial trivial rfl (by omega) (Try.sorts39 _) (enters_of Try.func62 (by kernel_rfl) rfl) 63 #[.pointer (some ⟨w.heap.size, 0, none⟩)] trivial (enters_of Try.func63 (by kernel_rfl) rfl) _ 0 (Nat.zero_le _) (by omega) _ hseq



end Go.Proofs

/-
  Decisions: what is open.
-/
namespace Go.Proofs.Ytebmmbommkpjaaa
open Go.RowKit Go.Av Go.Maps

theorem infoL : (Try.prog.info? 2).map (fun i => (i.zero, i.size, i.bytes)) = some (some (.int .i64 0), 1, 8) := by kernel_rfl
def keysS (S : CoS) : List Int := (S.map (·.1)).mergeSort fun x y => decide (x ≤ y)

section
variable {w0 w : World} {c m : Nat} {S : CoS} {l1 l2 : List EntG} {g : EntG} {R : List Thing} {T : Thing} {rows : List (Value × Bs)}

theorem co_keys (h : Co w0 w c S R rows) (hn : S.length ≤ 1000000) : ∃ m, w.cell? ⟨c, 0, none⟩ = some (.map (some m)) ∧
    (Calls Try.prog 40 #[.map (some m)] w fun e w' => e = .returned (.func (.func 63) #[] #[.pointer (some ⟨w.heap.size, 0, none⟩)]) ∧ w' = w.alloc (.cells #[.map (some m)] 62)) ∧
    (Calls Try.prog 39 #[.func (.func 63) #[] #[.pointer (some ⟨w.heap.size, 0, none⟩)]] (w.alloc (.cells #[.map (some m)] 62)) fun e w' => ∃ v, e = .returned v ∧ Co w0 w' c S (ThRow 1 v ((keysS S).map iv) :: R) rows) := by
  have hco := h
  obtain ⟨m, gs, rfl, hwf, hS⟩ := h
  have hc := hS.block (b := c) (o := .cells #[.map (some m)] 64 (0, 0)) (by simp [coHead])
  obtain ⟨E, hM, -⟩ := hS.has (T := ThMap (.int .i64) m (gs.map EntG.kv)) (by simp [coHead])
  obtain ⟨D0, ho, hz, hp⟩ := owns_ids (P := Try.prog) (k := 2) (l := gs.map fun g => (g.id, Value.pointer (some ⟨g.p, 0, none⟩))) (by rw [List.map_map]; exact hM) Try.underlying2 (by simp at hn ⊢; exact hn) (by
    intro x hx
    obtain ⟨g, hg, rfl⟩ := List.mem_map.1 hx
    have := (hwf g.ent (List.mem_map_of_mem hg)).2
    exact wf_i64 (by have := this.1; have h2 : g.ent.1 = g.id := rfl; omega) this.2)
  rw [List.length_map] at hz
  have hsz : gs.length ≤ 1000000 := by simpa using hn
  refine ⟨m, cell_of hc 0 rfl, callsIn_wide.1 (Try.maps_Keys_40 (some m) w), ?_⟩
  refine (callsIn_wide.1 (Try.slices_Sorted_keys_39_40 m _ D0 noRead w ho (by rw [hz]; unfold maxLen; omega) (by rw [hz]; omega))).mono ?_
  rintro e w' ⟨v, ss, rfl, hS2, hrow, hnil, hb⟩
  refine ⟨v, rfl, ?_⟩
  obtain ⟨D, hown, hD⟩ := own_of hrow
  have hk : ss.mergeSort (fun x y => decide (x ≤ y)) = keysS (gs.map EntG.ent) := by
    unfold keysS
    refine mergeSort_of_perm_i (hS2.trans (hp.trans ?_))
    rw [List.map_map, List.map_map]
    exact List.Perm.refl _
  rw [hk] at hown
  have hu : Upd w w' [] [] := (Upd.alloc0 w _ []).trans (Upd.of_below hb)
  exact hco.addR (T := ThRow 1 v ((keysS (gs.map EntG.ent)).map iv)) (D' := D) ⟨hu.os, hu.tape, hu.output, hu.size, hu.keep, fun b hb' => .inr ⟨by have := (hD b hb').1; simp at this; omega, (hD b hb').2⟩⟩ hown

theorem Co.row {v : Value} {xs : List Value} (h : Co w0 w c S (ThRow 1 v xs :: R) rows) : ∃ D, OwnRow w 1 v xs D ∧ ∀ (w' : World) D' v' xs', OwnRow w' 1 v' xs' D' → Upd w w' D D' → Co w0 w' c S (ThRow 1 v' xs' :: R) rows := by
  obtain ⟨m, gs, h1, h2, hS⟩ := h
  have h3 := hS.perm (perm_last _ _ _ _).symm
  obtain ⟨D, hP, _, back⟩ := h3.use
  exact ⟨D, hP, fun w' D' v' xs' ho hu => ⟨m, gs, h1, h2, (back w' D' (ThRow 1 v' xs') hu ho).perm (perm_last _ _ _ _)⟩⟩

def openF (S : CoS) (id : Int) : Bool := match lookS id S with | some x => x.dec == 0 || decide (0 < (x.owes.length : Int)) | none => false
def openSt (S : CoS) : List Int := (keysS S).filter (openF S)
theorem keys_look {S : CoS} {id : Int} (h : id ∈ keysS S) : ∃ x, lookS id S = some x := by
  unfold keysS at h
  rw [List.mem_mergeSort] at h
  obtain ⟨e, he, rfl⟩ := List.mem_map.1 h
  cases hl : lookS e.1 S with
  | some x => exact ⟨x, rfl⟩
  | none => exact absurd rfl (look_none hl e he)
theorem keys_len (S : CoS) : (keysS S).length = S.length := by unfold keysS; rw [List.length_mergeSort, List.length_map]

set_option maxRecDepth 100000 in
set_option maxHeartbeats 2000000 in
theorem open_coord (h : Co w0 w c S R rows) (hn : S.length ≤ 1000) :
    Calls Try.prog 17 #[.pointer (some ⟨c, 0, none⟩)] w fun e w' => ∃ v, e = .returned v ∧ Co w0 w' c S (ThRow 1 v ((openSt S).map iv) :: R) rows := by
  obtain ⟨i0, hi0, hz0, hz1, hz2⟩ := info_parts infoL
  obtain ⟨m, hc, hK, hSo⟩ := co_keys h (by omega)
  have HK := Lib.hid hK
  have HS := Lib.hid hSo
  clear h hK hSo
  go_enter Try.func17, Try.ntmps17
  go_wp2_with fail
  refine HK.out.mono ?_
  rintro e w1 ⟨rfl, rfl⟩
  go_wp2_with fail
  refine HS.out.mono ?_
  rintro e w2 ⟨v, rfl, h⟩
  obtain ⟨D, ho, -⟩ := h.row
  obtain ⟨ak, nk, ck, rfl, hlk, hnk, hck, -⟩ := _root_.id ho
  rw [List.length_map, Nat.mul_one] at hlk
  subst hlk
  unfold maxLen at hck
  have HC := Lib.hid (show Co w0 w2 c S (ThRow 1 (.slice none 0 0) (([] : List Int).map iv) :: ThRow 1 (.slice ak (keysS S).length ck) ((keysS S).map iv) :: R) rows from h.addR (D' := []) (Upd.refl w2 []) (OwnRow.nil _ _))
  clear h ho
  go_wp2_with fail
  go_loopg [3, 14] (keysS S).length (fun k vl vi wr => ∃ p : Nat, p ≤ (keysS S).length ∧ k = (keysS S).length - p ∧ vi = .int .i64 (p : Int) ∧ Co w0 wr c S (ThRow 1 vl ((((keysS S).take p).filter (openF S)).map iv) :: ThRow 1 (.slice ak (keysS S).length ck) ((keysS S).map iv) :: R) rows)
  case atStart => exact ⟨0, Nat.zero_le _, rfl, rfl, by simpa using HC.out⟩
  case round =>
    obtain ⟨p, hp, hk, hv, hC⟩ := hrel
    subst hv
    by_cases hlt : p < (keysS S).length
    · have hkp : (keysS S)[p] ∈ keysS S := List.getElem_mem hlt
      obtain ⟨x, hx⟩ := keys_look hkp
      obtain ⟨D2, ho2, -⟩ := (hC.permR (List.Perm.swap _ _ _)).row
      obtain ⟨y, rfl, hys, hcy⟩ := ownCell ho2 (i := p) (x := iv (keysS S)[p]) (by rw [List.getElem?_map, List.getElem?_eq_getElem hlt]; rfl)
      obtain ⟨Dl, hol, backl⟩ := hC.row
      obtain ⟨al, nl, cl, rfl, hll, -⟩ := _root_.id hol
      obtain ⟨m2, l1, g, l2, hgid, hgx, hF, -, -⟩ := hC.take hx
      obtain ⟨hc2, hlk2, hp2⟩ := hF.facts
      have hlk2 := hlk2 wr rfl
      have c2 := cell_of hp2 2 rfl
      have c3 := cell_of hp2 3 rfl
      obtain ⟨ao, no, co, hvo, hlo, hno, hco⟩ := (hF.2.perm (List.perm_middle (l₁ := [_, _, _]))).rowLen
      rw [List.length_map, Nat.mul_one] at hlo
      unfold maxLen at hco
      rw [show (#[g.vs, g.vv, Value.int .i64 g.x.dec, g.vo] : Array Value)[3] = .slice ao no co from hvo] at c3
      rw [show (#[g.vs, g.vv, Value.int .i64 g.x.dec, g.vo] : Array Value)[2] = .int .i64 g.x.dec from rfl] at c2
      obtain ⟨idv, hidv⟩ : ∃ idv, (keysS S)[p] = idv := ⟨_, rfl⟩
      rw [hidv] at hcy hx hgid
      rw [hgid] at hlk2
      have hts : (keysS S).take (p + 1) = (keysS S).take p ++ [idv] := by rw [List.take_succ_eq_append_getElem hlt, hidv]
      have hof : openF S idv = (x.dec == 0 || decide (0 < (x.owes.length : Int))) := by unfold openF; rw [hx]
      rw [← hgx] at hof
      rw [hlo] at hof
      obtain ⟨dc, hdc⟩ : ∃ dc, g.x.dec = dc := ⟨_, rfl⟩
      rw [hdc] at hof c2
      have hlen2 : (((keysS S).take p).filter (openF S)).length ≤ 1000 := by
        have := List.length_filter_le (openF S) ((keysS S).take p)
        rw [List.length_take, keys_len] at this
        omega
      have hpk : (keysS S).length ≤ 1000 := by rw [keys_len]; exact hn
      unfold iv at hcy
      have HBK := Lib.hid backl
      have HCR := Lib.hid hC
      have HTS := Lib.hid (show _ ∧ _ from ⟨hts, hof⟩)
      have HOL := Lib.hid hol
      have ha1 := Upd.alloc0 wr (.cells #[.int .i64 idv] 2 (0, 0)) []
      have hownA := hol.frame (ha1.same hol.lt (by simp))
      obtain ⟨nb, hnb, hsrc⟩ := (cell_new wr (.int .i64 idv) 2 (0, 0)).src (P := Try.prog) (tx := 32) Try.underlying32 (by intro u hu; rw [List.mem_singleton.1 hu]; rfl)
      obtain rfl : 1 = nb := by simpa using hnb
      have HBD := Lib.hid (show ∀ n', ((((keysS S).take p).filter (openF S)).map iv).length = n' * 1 → n' + 1 ≤ 140737488355328 ∧ (n' + 1) * i0.bytes ≤ 140737488355328 from fun n' hn' => by
        rw [List.length_map] at hn'
        rw [hz2]; omega)
      clear hkp hx ho2 hol backl hgid hgx hF hp2 hvo hlo hidv hts hof hC hll hdc HC hnb
      by_cases hop : dc = 0 ∨ 0 < no
      · have hof : openF S idv = true := by rw [HTS.out.2]; rcases hop with h | h <;> simp [h]
        have hflt : ((keysS S).take (p + 1)).filter (openF S) = ((keysS S).take p).filter (openF S) ++ [idv] := by rw [HTS.out.1, List.filter_append, List.filter_cons, if_pos hof, List.filter_nil]
        have HFL := Lib.hid hflt
        clear hof hflt
        by_cases hd0 : dc = 0
        case' pos =>
          subst hd0
          clear hop
        case' neg =>
          have hno0 : 0 < no := by rcases hop with h | h; exact absurd h hd0; exact h
          have hd0' : (dc == 0) = false := by simp [hd0]
          clear hop hd0
        all_goals
          go_wp2_with (at_builtin; go_must (refine wpList_app rfl _ _ 32 32 rfl 1 _ _ _ rfl hownA _ i0 _ Try.underlying32 hi0 hz0 hz1 rfl _ _ _ rfl hsrc HBD.out ?_); intro a7 n7 c7 w7 D7 hown7 hu7)
          have HN := Lib.hid (HBK.out w7 D7 _ ((((keysS S).take (p + 1)).filter (openF S)).map iv) (by rw [HFL.out, List.map_append]; exact hown7) ((ha1.mono (by simp) (fun b hb => .inr hb) : Upd wr _ Dl Dl).trans hu7))
          clear hown7 hu7 hsrc hownA
          go_roundg ((keysS S).length - (p + 1))
          case rel => exact ⟨p + 1, by omega, rfl, by go_num, HN.out⟩
          case measure => omega
      · have hof : openF S idv = false := by rw [HTS.out.2]; simp only [not_or] at hop; simp [hop.1]; omega
        have hflt : ((keysS S).take (p + 1)).filter (openF S) = ((keysS S).take p).filter (openF S) := by rw [HTS.out.1, List.filter_append, List.filter_cons, if_neg (by simp [hof]), List.filter_nil, List.append_nil]
        have HFL := Lib.hid hflt
        have hno0 : ¬ 0 < no := fun h => hop (.inr h)
        have hd0' : (dc == 0) = false := by simp only [not_or] at hop; simp [hop.1]
        clear hof hflt hop
        go_wp2_with fail
        go_roundg ((keysS S).length - (p + 1))
        case rel => exact ⟨p + 1, by omega, rfl, by go_num, by rw [HFL.out]; exact HCR.out⟩
        case measure => omega
    · obtain rfl : p = (keysS S).length := by omega
      rw [List.take_length] at hC
      have HC2 := Lib.hid hC
      clear hC HC
      go_wp2_with fail
      go_ret
      exact ⟨_, rfl, (HC2.out.permR (List.Perm.swap _ _ _)).dropR⟩
end
end Go.Proofs.Ytebmmbommkpjaaa

/-
  The statements of layer 20: what they share: same, same64, awake.
-/
namespace Go.Proofs.Ytebmmbommkpjaaa
open Go.RowKit Go.Av

theorem frozen_heap {w W : World} (h : W.heap = w.heap) (a : Addr) : W.cell? a = w.cell? a := by unfold World.cell?; rw [h]
theorem take_eq {l1 l2 : List Int} {p : Nat} (h : l1.take p = l2.take p) (h1 : p < l1.length) (h2 : p < l2.length) (he : l1[p] = l2[p]) : l1.take (p + 1) = l2.take (p + 1) := by
  rw [List.take_succ_eq_append_getElem h1, List.take_succ_eq_append_getElem h2, h, he]

set_option maxRecDepth 100000 in
set_option maxHeartbeats 1000000 in
theorem same_any (v1 v2 : Value) (l1 l2 : List Int) (E1 E2 : List Nat) (w : World) (h1 : ReadRow w 1 v1 (l1.map iv) E1) (h2 : ReadRow w 1 v2 (l2.map iv) E2) :
    Calls Try.prog 15 #[v1, v2] w fun e w' => e = .returned (.bool (decide (l1 = l2))) ∧ Upd w w' [] [] := by
  obtain ⟨a1, n1, c1, rfl, -⟩ := id h1
  obtain ⟨hn1, hnc1, hcm1, hcell1⟩ := row_cell h1
  obtain ⟨a2, n2, c2, rfl, -⟩ := id h2
  obtain ⟨hn2, hnc2, hcm2, hcell2⟩ := row_cell h2
  rw [List.length_map] at hn1 hn2
  subst hn1
  subst hn2
  unfold maxLen at hcm1 hcm2
  have HC1 := Lib.hid hcell1
  have HC2 := Lib.hid hcell2
  clear hcell1 hcell2 h1 h2
  by_cases hll : l1.length = l2.length
  case neg =>
    have hb : ((l1.length : Int) != (l2.length : Int)) = true := by simp; omega
    have HD := Lib.hid (show decide (l1 = l2) = false by simp; intro e; exact hll (by rw [e]))
    clear hll
    go_enter Try.func15, Try.ntmps15
    go_wp2_with fail
    go_ret
    rw [HD.out]
    exact ⟨rfl, Upd.refl _ _⟩
  have hb : ((l1.length : Int) != (l2.length : Int)) = false := by simp; omega
  have HLL := Lib.hid hll
  clear hll
  go_enter Try.func15, Try.ntmps15
  go_wp2_with fail
  go_loopg [5] l1.length (fun k i wr => ∃ p : Nat, p ≤ l1.length ∧ k = l1.length - p ∧ i = .int .i64 (p : Int) ∧ l1.take p = l2.take p ∧ wr.heap = w.heap ∧ Upd w wr [] [])
  case atStart => exact ⟨0, Nat.zero_le _, rfl, rfl, rfl, rfl, Upd.refl _ _⟩
  case round =>
    obtain ⟨p, hp, hk, hv, ht, hh, hu⟩ := hrel
    subst hv
    by_cases hlt : p < l1.length
    · have hlt2 : p < l2.length := by rw [← HLL.out]; exact hlt
      obtain ⟨x1, rfl, hs1, hx1⟩ := HC1.out (by omega)
      obtain ⟨x2, rfl, hs2, hx2⟩ := HC2.out (by omega)
      have k1 := fun (W : World) (hW : W.heap = wr.heap) => (frozen_heap (hW.trans hh) _).trans (hx1 p (iv l1[p]) (by rw [List.getElem?_map, List.getElem?_eq_getElem hlt]; rfl))
      have k2 := fun (W : World) (hW : W.heap = wr.heap) => (frozen_heap (hW.trans hh) _).trans (hx2 p (iv l2[p]) (by rw [List.getElem?_map, List.getElem?_eq_getElem hlt2]; rfl))
      obtain ⟨u1, hu1⟩ : ∃ u, l1[p] = u := ⟨_, rfl⟩
      obtain ⟨u2, hu2⟩ : ∃ u, l2[p] = u := ⟨_, rfl⟩
      rw [hu1] at k1
      rw [hu2] at k2
      unfold iv at k1 k2
      have HT := Lib.hid (show _ ∧ _ ∧ _ ∧ _ ∧ _ from ⟨ht, hu1, hu2, hh, hu⟩)
      clear hx1 hx2 ht hu1 hu2 hh hu
      obtain ⟨b, hbb⟩ : ∃ b, (u1 != u2) = b := ⟨_, rfl⟩
      have HB := Lib.hid hbb
      go_wp2_with fail
      refine wp_region_M (fun W => W.heap = wr.heap) 9 (by kernel_rfl) ?_
      refine wpAnyM_take (by kernel_rfl) (by intro c a d v w h; cases d <;> exact h) [(0, false), (1, false), (2, false), (3, true), (4, false), (5, false), (6, false), (7, true), (8, false)] (fuel := 0) (by kernel_rfl) ?_
      apply Exists.intro; refine ⟨?_, rfl, ?_⟩
      · iterate 9 ((first | (apply yieldN; (· (simp only [List.getElem?_toArray, List.getElem?_cons_succ, List.getElem?_cons_zero]; try rfl)); (· rfl)) | ((first | apply yieldP | apply yieldL); (· (simp only [List.getElem?_toArray, List.getElem?_cons_succ, List.getElem?_cons_zero]; try rfl)); (· rfl); (· (intros; go_simp; try with_reducible rfl)))); (· (simp only [Act.put, List.setIfInBounds_toArray, List.set_cons_zero, List.set_cons_succ]; try rfl)))
        exact rfl
      refine wpAnyM_done (by kernel_rfl) ?_ _
      cases b with
      | true =>
        have hne : u1 ≠ u2 := by simpa using HB.out
        have HNE := Lib.hid hne
        clear hne
        go_wp2_with fail
        go_ret
        obtain ⟨ht, hu1, hu2, hh, hu⟩ := HT.out
        refine ⟨?_, hu.drew⟩
        have : decide (l1 = l2) = false := by
          simp
          intro e
          subst e
          exact HNE.out (hu1.symm.trans hu2)
        rw [this]
        rfl
      | false =>
        have heq : u1 = u2 := by simpa using HB.out
        have HEQ := Lib.hid heq
        clear heq
        go_wp2_with fail
        go_roundg (l1.length - (p + 1))
        case rel =>
          obtain ⟨ht, hu1, hu2, hh, hu⟩ := HT.out
          exact ⟨p + 1, by omega, rfl, by go_num, take_eq ht hlt hlt2 (by rw [hu1, hu2, HEQ.out]), hh, hu.drew⟩
        case measure => omega
    · obtain rfl : p = l1.length := by omega
      have HU := Lib.hid (show _ ∧ _ from ⟨ht, hu⟩)
      clear ht hu hh
      go_wp2_with fail
      go_ret
      obtain ⟨ht, hu⟩ := HU.out
      rw [List.take_length, HLL.out, List.take_length] at ht
      exact ⟨by simp [ht], hu⟩

set_option maxRecDepth 100000 in
set_option maxHeartbeats 1000000 in
theorem same64_any (v1 v2 : Value) (l1 l2 : List Int) (E1 E2 : List Nat) (w : World) (h1 : ReadRow w 1 v1 (l1.map iv) E1) (h2 : ReadRow w 1 v2 (l2.map iv) E2) :
    Calls Try.prog 29 #[v1, v2] w fun e w' => e = .returned (.bool (decide (l1 = l2))) ∧ Upd w w' [] [] := by
  obtain ⟨a1, n1, c1, rfl, -⟩ := id h1
  obtain ⟨hn1, hnc1, hcm1, hcell1⟩ := row_cell h1
  obtain ⟨a2, n2, c2, rfl, -⟩ := id h2
  obtain ⟨hn2, hnc2, hcm2, hcell2⟩ := row_cell h2
  rw [List.length_map] at hn1 hn2
  subst hn1
  subst hn2
  unfold maxLen at hcm1 hcm2
  have HC1 := Lib.hid hcell1
  have HC2 := Lib.hid hcell2
  clear hcell1 hcell2 h1 h2
  by_cases hll : l1.length = l2.length
  case neg =>
    have hb : ((l1.length : Int) != (l2.length : Int)) = true := by simp; omega
    have HD := Lib.hid (show decide (l1 = l2) = false by simp; intro e; exact hll (by rw [e]))
    clear hll
    go_enter Try.func29, Try.ntmps29
    go_wp2_with fail
    go_ret
    rw [HD.out]
    exact ⟨rfl, Upd.refl _ _⟩
  have hb : ((l1.length : Int) != (l2.length : Int)) = false := by simp; omega
  have HLL := Lib.hid hll
  clear hll
  go_enter Try.func29, Try.ntmps29
  go_wp2_with fail
  go_loopg [5] l1.length (fun k i wr => ∃ p : Nat, p ≤ l1.length ∧ k = l1.length - p ∧ i = .int .i64 (p : Int) ∧ l1.take p = l2.take p ∧ wr.heap = w.heap ∧ Upd w wr [] [])
  case atStart => exact ⟨0, Nat.zero_le _, rfl, rfl, rfl, rfl, Upd.refl _ _⟩
  case round =>
    obtain ⟨p, hp, hk, hv, ht, hh, hu⟩ := hrel
    subst hv
    by_cases hlt : p < l1.length
    · have hlt2 : p < l2.length := by rw [← HLL.out]; exact hlt
      obtain ⟨x1, rfl, hs1, hx1⟩ := HC1.out (by omega)
      obtain ⟨x2, rfl, hs2, hx2⟩ := HC2.out (by omega)
      have k1 := fun (W : World) (hW : W.heap = wr.heap) => (frozen_heap (hW.trans hh) _).trans (hx1 p (iv l1[p]) (by rw [List.getElem?_map, List.getElem?_eq_getElem hlt]; rfl))
      have k2 := fun (W : World) (hW : W.heap = wr.heap) => (frozen_heap (hW.trans hh) _).trans (hx2 p (iv l2[p]) (by rw [List.getElem?_map, List.getElem?_eq_getElem hlt2]; rfl))
      obtain ⟨u1, hu1⟩ : ∃ u, l1[p] = u := ⟨_, rfl⟩
      obtain ⟨u2, hu2⟩ : ∃ u, l2[p] = u := ⟨_, rfl⟩
      rw [hu1] at k1
      rw [hu2] at k2
      unfold iv at k1 k2
      have HT := Lib.hid (show _ ∧ _ ∧ _ ∧ _ ∧ _ from ⟨ht, hu1, hu2, hh, hu⟩)
      clear hx1 hx2 ht hu1 hu2 hh hu
      obtain ⟨b, hbb⟩ : ∃ b, (u1 != u2) = b := ⟨_, rfl⟩
      have HB := Lib.hid hbb
      go_wp2_with fail
      refine wp_region_M (fun W => W.heap = wr.heap) 9 (by kernel_rfl) ?_
      refine wpAnyM_take (by kernel_rfl) (by intro c a d v w h; cases d <;> exact h) [(0, false), (1, false), (2, false), (3, true), (4, false), (5, false), (6, false), (7, true), (8, false)] (fuel := 0) (by kernel_rfl) ?_
      apply Exists.intro; refine ⟨?_, rfl, ?_⟩
      · iterate 9 ((first | (apply yieldN; (· (simp only [List.getElem?_toArray, List.getElem?_cons_succ, List.getElem?_cons_zero]; try rfl)); (· rfl)) | ((first | apply yieldP | apply yieldL); (· (simp only [List.getElem?_toArray, List.getElem?_cons_succ, List.getElem?_cons_zero]; try rfl)); (· rfl); (· (intros; go_simp; try with_reducible rfl)))); (· (simp only [Act.put, List.setIfInBounds_toArray, List.set_cons_zero, List.set_cons_succ]; try rfl)))
        exact rfl
      refine wpAnyM_done (by kernel_rfl) ?_ _
      cases b with
      | true =>
        have hne : u1 ≠ u2 := by simpa using HB.out
        have HNE := Lib.hid hne
        clear hne
        go_wp2_with fail
        go_ret
        obtain ⟨ht, hu1, hu2, hh, hu⟩ := HT.out
        refine ⟨?_, hu.drew⟩
        have : decide (l1 = l2) = false := by
          simp
          intro e
          subst e
          exact HNE.out (hu1.symm.trans hu2)
        rw [this]
        rfl
      | false =>
        have heq : u1 = u2 := by simpa using HB.out
        have HEQ := Lib.hid heq
        clear heq
        go_wp2_with fail
        go_roundg (l1.length - (p + 1))
        case rel =>
          obtain ⟨ht, hu1, hu2, hh, hu⟩ := HT.out
          exact ⟨p + 1, by omega, rfl, by go_num, take_eq ht hlt hlt2 (by rw [hu1, hu2, HEQ.out]), hh, hu.drew⟩
        case measure => omega
    · obtain rfl : p = l1.length := by omega
      have HU := Lib.hid (show _ ∧ _ from ⟨ht, hu⟩)
      clear ht hu hh
      go_wp2_with fail
      go_ret
      obtain ⟨ht, hu⟩ := HU.out
      rw [List.take_length, HLL.out, List.take_length] at ht
      exact ⟨by simp [ht], hu⟩

theorem read_cells (w : World) (cs : Array Value) (T : TypeId) (fr : Nat × Nat) (h : cs.size ≤ 1000) : ReadRow (w.alloc (.cells cs T fr)) 1 (.slice (some ⟨w.heap.size, 0, none⟩) cs.size cs.size) cs.toList [w.heap.size] :=
  ⟨_, cs.size, cs.size, rfl, by simp, Nat.le_refl _, by unfold maxLen; omega, by simp, .inr ⟨w.heap.size, 0, rfl, rfl, by simp, fun i x hx => by
    rw [cell_of_row _ _ _ _ _ _ (heap_alloc_new w (.cells cs T fr)), Nat.zero_add, ← Array.getElem?_toList]; exact hx⟩⟩

def aS1 : CoS := [(1, newE [0, 1])]
def aS2 : CoS := [(1, { newE [0, 1] with votes := [1, 0] })]
def aS3 : CoS := [(1, { newE [0, 1] with votes := [1, 1], dec := 1 })]
theorem aB1 : beginS [] 1 [0, 1] = (0, aS1) := by rfl
theorem aB2 : voteS aS1 1 0 true = (0, aS2) := by rfl
theorem aB3 : voteS aS2 1 1 true = (0, aS3) := by rfl
theorem aB4 : decS aS2 1 = (false, false) := by rfl
theorem aB5 : decS aS3 1 = (true, true) := by rfl
theorem aB6 : owesS aS3 1 = [0, 1] := by rfl
theorem aB7 : openSt aS3 = [1] := by
  have : keysS aS3 = [1] := by simp [keysS, aS3]
  unfold openSt
  rw [this]
  rfl

set_option maxRecDepth 100000 in
set_option maxHeartbeats 1000000 in
theorem awake20_any (w : World) : Calls Try.prog 10 #[] w fun e w' => e = .returned (.bool true) ∧ Upd w w' [] [] := by
  go_enter Try.func10, Try.ntmps10
  go_wp2_with fail
  refine (new_coord (Sep.start w)).mono ?_
  rintro e w1 ⟨c, rfl, H⟩
  go_wp2_with fail
  have hr1 : ReadRow (w1.alloc (.cells #[.int .i64 0, .int .i64 1] 3 (0, 0))) 1 (.slice (some ⟨w1.heap.size, 0, none⟩) 2 2) (([0, 1] : List Int).map iv) [w1.heap.size] := read_cells w1 #[.int .i64 0, .int .i64 1] 3 (0, 0) (by decide)
  have hb := begin_any (H.keep (Upd.alloc0 w1 _ [])) 1 _ [0, 1] _ (by decide) hr1
  rw [aB1] at hb
  refine hb.mono ?_
  clear H hr1 hb
  rintro e w2 ⟨rfl, H⟩
  go_wp2_with fail
  have hv := vote_any H 1 0 true
  rw [aB2] at hv
  refine hv.mono ?_
  clear H hv
  rintro e w3 ⟨rfl, H⟩
  go_wp2_with fail
  have hv := decision_any H 1
  rw [aB4] at hv
  refine hv.mono ?_
  clear H hv
  rintro e w4 ⟨rfl, H⟩
  go_wp2_with fail
  have hv := vote_any H 1 1 true
  rw [aB3] at hv
  refine hv.mono ?_
  clear H hv
  rintro e w5 ⟨rfl, H⟩
  go_wp2_with fail
  have hv := decision_any H 1
  rw [aB5] at hv
  refine hv.mono ?_
  clear H hv
  rintro e w6 ⟨rfl, H⟩
  have HH := Lib.hid H
  clear H
  go_wp2_with fail
  have hv := owes_any HH.out 1
  rw [aB6] at hv
  refine hv.mono ?_
  clear hv
  rintro e w7 ⟨v7, D7, rfl, ho, hu⟩
  obtain ⟨E7, hr7, -⟩ := ho.read
  have H7 := Lib.hid (HH.out.keep hu)
  have HR7 := Lib.hid hr7
  clear ho hu hr7
  go_wp2_with fail
  have hr8 : ReadRow (w7.alloc (.cells #[.int .i64 0, .int .i64 1] 3 (0, 0))) 1 (.slice (some ⟨w7.heap.size, 0, none⟩) 2 2) (([0, 1] : List Int).map iv) [w7.heap.size] := read_cells w7 #[.int .i64 0, .int .i64 1] 3 (0, 0) (by decide)
  refine (same_any _ _ [0, 1] [0, 1] E7 _ _ (HR7.out.frame ((Upd.alloc0 w7 _ []).same HR7.out.lt (by simp))) hr8).mono ?_
  clear hr8
  rintro e w8 ⟨rfl, hu⟩
  have H8 := Lib.hid ((H7.out.keep (Upd.alloc0 w7 _ [])).keep hu)
  clear hu
  go_wp2_with fail
  have hv := open_coord H8.out (by decide)
  rw [aB7] at hv
  refine hv.mono ?_
  clear hv
  rintro e w9 ⟨v9, rfl, H⟩
  obtain ⟨D9, ho, -⟩ := H.row
  obtain ⟨E9, hr9, -⟩ := ho.read
  have H9 := Lib.hid H
  have HR9 := Lib.hid hr9
  clear H ho hr9
  go_wp2_with fail
  have hr8 : ReadRow (w9.alloc (.cells #[.int .i64 1] 2 (0, 0))) 1 (.slice (some ⟨w9.heap.size, 0, none⟩) 1 1) (([1] : List Int).map iv) [w9.heap.size] := read_cells w9 #[.int .i64 1] 2 (0, 0) (by decide)
  refine (same64_any _ _ [1] [1] E9 _ _ (HR9.out.frame ((Upd.alloc0 w9 _ []).same HR9.out.lt (by simp))) hr8).mono ?_
  clear hr8
  rintro e w10 ⟨rfl, hu⟩
  have HB := Lib.hid ((H9.out.keep (Upd.alloc0 w9 _ [])).keep hu).below
  clear hu
  go_wp2_with fail
  go_ret
  exact ⟨rfl, Upd.of_below HB.out⟩
end Go.Proofs.Ytebmmbommkpjaaa

/-
  CoordOwes: once it is decided each shard owes till it has Done, then it is over.
-/
namespace Go.Proofs.Ytebmmbommkpjaaa
open Go.RowKit Go.Av

theorem risF_gt : ∀ {l : List Int} {last : Int}, risF last l = true → ∀ y ∈ l, last < y
  | [], _, _, y, hy => by cases hy
  | x :: r, last, h, y, hy => by
    rw [risF_cons] at h
    simp only [Bool.and_eq_true, Bool.not_eq_true', Bool.or_eq_false_iff, decide_eq_false_iff_not] at h
    rcases List.mem_cons.1 hy with rfl | hy
    · omega
    · have := risF_gt h.2 y hy; omega
theorem idxF_get : ∀ {l : List Int} {last : Int}, risF last l = true → ∀ (k : Nat) (hk : k < l.length), idxF l[k] l = some k
  | [], _, _, k, hk => by cases hk
  | x :: r, last, h, 0, _ => by simp [idxF_cons]
  | x :: r, last, h, k + 1, hk => by
    rw [risF_cons] at h
    simp only [Bool.and_eq_true] at h
    have hkr : k < r.length := by simpa using hk
    have hgt := risF_gt h.2 r[k] (List.getElem_mem hkr)
    rw [List.getElem_cons_succ, idxF_cons, if_neg (by omega), idxF_get h.2 k hkr]
    rfl
theorem idxF_none {k : Int} : ∀ {l : List Int}, idxF k l = none → k ∉ l
  | [], _ => by simp
  | x :: r, h => by
    rw [idxF_cons] at h
    by_cases hx : x = k
    · rw [if_pos hx] at h; cases h
    · rw [if_neg hx, Option.map_eq_none_iff] at h
      have := idxF_none h
      simp only [List.mem_cons, not_or]
      exact ⟨fun e => hx e.symm, this⟩

def ownE (l : List Int) (cm : Bool) (k : Nat) : EntS :=
  if cm then { shards := l, votes := List.replicate k 1 ++ List.replicate (l.length - k) 0, dec := if k = l.length then 1 else 0, owes := l }
  else { shards := l, votes := if k = 0 then List.replicate l.length 0 else 2 :: List.replicate (l.length - 1) 0, dec := if k = 0 then 0 else 2, owes := l }
theorem look_one (id : Int) (x : EntS) : lookS id [(id, x)] = some x := look_mid (S1 := []) (S2 := []) (by simp)
theorem put_one (id : Int) (x : EntS) (φ : EntS → EntS) : putS id φ [(id, x)] = [(id, φ x)] := put_mid (S1 := []) (S2 := []) φ (by simp) (by simp)
theorem whole_rep (k m : Nat) : wholeS (List.replicate k 1 ++ List.replicate m 0) = decide (m = 0) := by
  unfold wholeS
  rw [List.all_append]
  cases m with
  | zero => simp
  | succ m => simp [List.replicate_succ]
theorem rep_set (k m : Nat) : (List.replicate k (1 : Int) ++ List.replicate (m + 1) 0).set k 1 = List.replicate (k + 1) 1 ++ List.replicate m 0 := by
  rw [List.set_append_right _ _ (by simp), List.length_replicate, Nat.sub_self, List.replicate_succ (n := m), List.set_cons_zero, List.replicate_succ' (n := k), List.append_assoc]
  rfl
theorem vote_own (l : List Int) (hr : risS l = true) (cm : Bool) (k : Nat) (hk : k < l.length) : voteS [(3, ownE l cm k)] 3 l[k] (cm || decide (0 < k)) = (0, [(3, ownE l cm (k + 1))]) := by
  unfold voteS
  rw [look_one]
  have hsh : (ownE l cm k).shards = l := by unfold ownE; cases cm <;> rfl
  simp only [hsh, idxF_get hr k hk, put_one, Prod.mk.injEq, true_and]
  congr 2
  unfold voteF
  cases cm with
  | true =>
    obtain ⟨m, hm⟩ : ∃ m, l.length - k = m + 1 := ⟨l.length - k - 1, by omega⟩
    have e1 : (ownE l true k).votes = List.replicate k 1 ++ List.replicate (m + 1) 0 := by simp [ownE, hm]
    have e2 : (ownE l true k).dec = 0 := by simp [ownE]; omega
    rw [if_neg (by rw [e1, e2]; simp [List.getD_eq_getElem?_getD, List.getElem?_append_right])]
    rw [e1]
    simp only [Bool.true_or, if_true, rep_set, whole_rep, decide_eq_true_eq]
    have h1 : l.length - (k + 1) = m := by omega
    simp only [ownE, if_true, h1]
    congr 1
    by_cases hm0 : m = 0
    · rw [if_pos hm0, if_pos (by omega)]
    · rw [if_neg hm0, if_neg (by omega)]
  | false =>
    by_cases hk0 : k = 0
    · subst hk0
      obtain ⟨m, hm⟩ : ∃ m, l.length = m + 1 := ⟨l.length - 1, by omega⟩
      rw [if_neg (by simp [ownE, List.getD_eq_getElem?_getD, hm])]
      simp [ownE, hm, List.replicate_succ]
    · rw [if_pos (.inr (by simp [ownE, hk0]))]
      simp [ownE, hk0]
theorem own_zero (l : List Int) (cm : Bool) (h : l.length ≠ 0) : ownE l cm 0 = newE l := by
  unfold ownE newE
  cases cm <;> simp
  exact fun e => h (by rw [e])

def owesE (x : EntS) (o : List Int) : EntS := { x with owes := o }
theorem done_own (x : EntS) (o : List Int) (d : Int) (hd : x.dec ≠ 0) (ho : ∀ z ∈ o, z ∈ x.shards) : (doneS [(3, owesE x o)] 3 d).2 = [(3, owesE x (o.filter fun y => !decide (y = d)))] := by
  unfold doneS
  rw [look_one]
  dsimp only
  cases hi : idxF d (owesE x o).shards with
  | none =>
    have hn := idxF_none hi
    have : o.filter (fun y => !decide (y = d)) = o := List.filter_eq_self.2 fun y hy => by
      have h1 : y ≠ d := fun e => hn (by rw [← e]; exact ho y hy)
      simp [h1]
    rw [this]
  | some i =>
    dsimp only
    rw [if_neg (show ¬ (owesE x o).dec = 0 from hd), put_one]
    rfl
theorem open_own (x : EntS) (o : List Int) (hd : x.dec ≠ 0) : openSt [(3, owesE x o)] = if o.length = 0 then [] else [3] := by
  have hk : keysS [((3 : Int), owesE x o)] = [3] := by simp [keysS]
  unfold openSt
  rw [hk]
  have hf : openF [(3, owesE x o)] 3 = decide (0 < (o.length : Int)) := by
    unfold openF
    rw [look_one]
    simp [owesE, hd]
  rw [List.filter_cons, hf, List.filter_nil]
  by_cases h0 : o.length = 0
  · rw [if_pos h0, if_neg (by rw [h0]; simp)]
  · rw [if_neg h0, if_pos (decide_eq_true (by omega))]

/-- What the walk is told of a slice of numbers. -/
def IsInts (w : World) (a : Option Addr) (len cap : Nat) (zs : List Int) : Prop :=
  (a = none ∧ len = 0 ∧ cap = 0 ∧ zs = []) ∨
  ∃ x, a = some x ∧ len ≤ cap ∧ cap ≤ maxLen ∧ zs.length = cap ∧ (∀ i, i < zs.length → w.cell? (x.add i) = some (.int .i64 (zs.getD i 0))) ∧ ∀ n ∈ zs, (Lit.int .i64 n).wf = true
theorem IsInts.read {w : World} {a : Option Addr} {len cap : Nat} {zs : List Int} (h : IsInts w a len cap zs) : ∃ (l : List Int) (E : List Nat), l.length = len ∧ ReadRow w 1 (.slice a len cap) (l.map iv) E := by
  rcases h with ⟨rfl, rfl, rfl, rfl⟩ | ⟨x, rfl, h1, h2, h3, h4, h5⟩
  · exact ⟨[], [], rfl, none, 0, 0, rfl, rfl, Nat.le_refl _, by decide, fun _ => rfl, .inl ⟨rfl, rfl⟩⟩
  · refine ⟨zs.take len, if len = 0 then [] else [x.block], by simp; omega, some x, len, cap, rfl, by simp; omega, h1, h2, by simp, ?_⟩
    by_cases h0 : len = 0
    · subst h0; exact .inl ⟨by simp, by simp⟩
    · refine .inr ?_
      have hc0 := h4 0 (by omega)
      have hsp : x.spot = none := by
        cases hs : x.spot with
        | none => rfl
        | some _ =>
          have : x.add 0 = x := by simp [Addr.add]
          rw [this] at hc0
          unfold World.cell? at hc0
          split at hc0 <;> simp [hs] at hc0
      obtain ⟨b, o, sp⟩ := x
      simp only at hsp
      subst hsp
      refine ⟨b, o, rfl, by simp [h0], ?_, fun i u hu => ?_⟩
      · have := World.block_lt_of_cell? w _ hc0
        simpa [Addr.add_lit] using this
      · rw [List.getElem?_map, List.getElem?_take] at hu
        split at hu
        · rename_i hi
          cases hz : zs[i]? with
          | none => rw [hz] at hu; cases hu
          | some z =>
            rw [hz] at hu
            cases hu
            have := h4 i (by omega)
            rw [Addr.add_lit] at this
            rw [this, List.getD_eq_getElem?_getD, hz]
            rfl
        · cases hu

set_option maxRecDepth 100000 in
set_option maxHeartbeats 4000000 in
theorem coordOwes_walk (a : Option Addr) (len cap : Nat) (z : List Int) (a1 : Option Addr) (len1 cap1 : Nat) (z1 : List Int) (cm : Bool) (w : World) (h : IsInts w a len cap z) (h1 : IsInts w a1 len1 cap1 z1) :
    Calls Try.prog 3 #[.slice a len cap, .slice a1 len1 cap1, .bool cm] w fun e w' => e = .returned (.bool true) ∧ Below w.heap.size w w' := by
  obtain ⟨i0, hi0, hz0, hz1, hz2⟩ := info_parts infoI
  obtain ⟨l, El, hl, hrl⟩ := h.read
  obtain ⟨dn, Ed, hd, hrd⟩ := h1.read
  subst hl; subst hd
  obtain ⟨hnl, hncl, hcml, hcl⟩ := row_cell hrl
  obtain ⟨hnd, hncd, hcmd, hcd⟩ := row_cell hrd
  unfold maxLen at hcml hcmd
  have HRL := Lib.hid hrl
  have HCL := Lib.hid hcl
  have HCD := Lib.hid hcd
  clear h h1 hrl hrd hcl hcd hnl hnd
  by_cases hok1 : 4 < l.length
  · go_enter Try.func3, Try.ntmps3
    go_wp2_with fail
    refine (awake20_any _).mono ?_
    rintro e w1 ⟨rfl, hu1⟩
    go_wp2_with fail
    go_ret
    exact ⟨rfl, hu1.below⟩
  by_cases hok2 : 12 < dn.length
  · go_enter Try.func3, Try.ntmps3
    go_wp2_with fail
    refine (awake20_any _).mono ?_
    rintro e w1 ⟨rfl, hu1⟩
    go_wp2_with fail
    go_ret
    exact ⟨rfl, hu1.below⟩
  go_enter Try.func3, Try.ntmps3
  go_wp2_with fail
  refine (awake20_any _).mono ?_
  rintro e w1 ⟨rfl, hu1⟩
  go_wp2_with fail
  refine (new_coord ((Sep.start w).keep hu1)).mono ?_
  rintro e w2 ⟨c, rfl, H⟩
  have hb2 := H.below
  have hb := begin_any H 3 _ l El (by decide) (HRL.out.frame (fun b hb => hb2.block b (HRL.out.lt b hb)))
  obtain ⟨r, hr⟩ : ∃ r, beginS [] 3 l = r := ⟨_, rfl⟩
  rw [hr] at hb
  have HB := Lib.hid hb
  have HRB := Lib.hid hr
  clear H hb hb2 hr hu1
  go_wp2_with fail
  refine HB.out.mono ?_
  rintro e w3 ⟨rfl, H⟩
  by_cases hr0 : r.1 = 0
  case neg =>
    have hb : (r.1 != 0) = true := by simp [hr0]
    have HBB := Lib.hid H.below
    clear H hr0
    go_wp2_with fail
    go_ret
    exact ⟨rfl, HBB.out⟩
  have hb : (r.1 != 0) = false := by simp [hr0]
  have hbg : l.length ≠ 0 ∧ risS l = true ∧ r.2 = [(3, newE l)] := by
    have h1 := HRB.out
    unfold beginS at h1
    by_cases hc : (3 : Int) < 1 ∨ l.length = 0 ∨ risS l = false
    · rw [if_pos hc] at h1; rw [← h1] at hr0; cases hr0
    · rw [if_neg hc] at h1
      refine ⟨fun e => hc (.inr (.inl e)), by simpa using fun e => hc (.inr (.inr e)), ?_⟩
      rw [← h1]; rfl
  obtain ⟨hl0, hris, hr2⟩ := hbg
  rw [hr2, ← own_zero l cm hl0] at H
  have HST := Lib.hid H
  have HRIS := Lib.hid hris
  clear H hr2 hris HRB HB
  go_wp2_with fail
  go_loopg [8] l.length (fun k v wr => ∃ p : Nat, p ≤ l.length ∧ k = l.length - p ∧ v = .int .i64 (p : Int) ∧ Co w wr c [(3, ownE l cm p)] [] [])
  case atStart => exact ⟨0, Nat.zero_le _, rfl, rfl, HST.out⟩
  case round =>
    obtain ⟨p, hp, hk, hv, H⟩ := hrel
    subst hv
    clear HST
    by_cases hlt : p < l.length
    · obtain ⟨x, rfl, hsx, hcx⟩ := HCL.out (by omega)
      have hcx := hcx p (iv l[p]) (by rw [List.getElem?_map, List.getElem?_eq_getElem hlt]; rfl)
      unfold iv at hcx
      have hblt : (x.add p).block < w.heap.size := World.block_lt_of_cell? w _ hcx
      have hcx2 : wr.cell? (x.add p) = some (.int .i64 l[p]) := (H.below.cell hblt).trans hcx
      have hvote := vote_any H 3 l[p] (cm || decide (0 < p))
      rw [vote_own l HRIS.out cm p hlt] at hvote
      obtain ⟨u, hu⟩ : ∃ u, l[p] = u := ⟨_, rfl⟩
      rw [hu] at hvote hcx2
      have HV := Lib.hid hvote
      clear H hvote hcx hu
      cases cm with
      | true =>
        simp only [Bool.true_or] at HV
        go_wp2_with fail
        refine HV.out.mono ?_
        rintro e w4 ⟨rfl, H⟩
        have HN := Lib.hid H
        clear H
        go_wp2_with fail
        go_roundg (l.length - (p + 1))
        case rel => exact ⟨p + 1, by omega, rfl, by go_num, HN.out⟩
        case measure => omega
      | false =>
        simp only [Bool.false_or] at HV
        go_wp2_with fail
        refine HV.out.mono ?_
        rintro e w4 ⟨rfl, H⟩
        have HN := Lib.hid H
        clear H
        go_wp2_with fail
        go_roundg (l.length - (p + 1))
        case rel => exact ⟨p + 1, by omega, rfl, by go_num, HN.out⟩
        case measure => omega
    · obtain rfl : p = l.length := by omega
      obtain ⟨y, hy⟩ : ∃ y, y = ownE l cm l.length := ⟨_, rfl⟩
      have hyd : y.dec ≠ 0 := by rw [hy]; cases cm <;> simp [ownE, hl0]
      have hys : y.shards = l := by rw [hy]; cases cm <;> rfl
      have hyo : owesE y l = y := by rw [hy]; cases cm <;> rfl
      have hdec : ∀ o, decS [(3, owesE y o)] 3 = (cm, true) := fun o => by
        unfold decS
        rw [look_one, hy]
        cases cm <;> simp [owesE, ownE, hl0]
      rw [← hy, ← hyo] at H
      have HY := Lib.hid (show _ ∧ _ ∧ _ from ⟨hyd, hys, hdec⟩)
      have HCO := Lib.hid H
      have hbl := H.below
      have hrl2 := HRL.out.frame (w' := wr) (fun b hb => hbl.block b (HRL.out.lt b hb))
      obtain ⟨nb, hnb, hsrc⟩ := (hrl2.frame ((Upd.alloc0 wr (.cells #[] 3) []).same hrl2.lt (by simp))).src (P := Try.prog) (tx := 22) Try.underlying22 iv_one
      obtain rfl : l.length = nb := by simpa using hnb
      have HBD := Lib.hid (show ∀ n, ([] : List Value).length = n * 1 → n + l.length ≤ 140737488355328 ∧ (n + l.length) * i0.bytes ≤ 140737488355328 from fun n hn => by simp at hn; rw [hz2]; omega)
      clear H hbl hrl2 hnb hy hyd hys hyo hdec
      go_wp2_with (at_builtin; go_must (refine wpList_app rfl _ _ 22 22 rfl 1 _ _ _ rfl (OwnRow.zero _ _ _) _ i0 _ Try.underlying22 hi0 hz0 hz1 rfl _ _ _ rfl hsrc HBD.out ?_); intro a5 n5 c5 w5 D5 hown5 hu5)
      have HO := Lib.hid (HCO.out.addR (T := ThRow 1 (.slice a5 n5 c5) (l.map iv)) ((Upd.alloc0 wr _ []).trans hu5) (show OwnRow w5 1 (.slice a5 n5 c5) (l.map iv) D5 from by simpa using hown5))
      clear hown5 hu5 hsrc HCO
      go_loopg [9, 10] dn.length (fun k vl v wr => ∃ (p : Nat) (o : List Int), p ≤ dn.length ∧ k = dn.length - p ∧ v = .int .i64 (p : Int) ∧ (∀ z ∈ o, z ∈ l) ∧ o.length ≤ 4 ∧ Co w wr c [(3, owesE y o)] [ThRow 1 vl (o.map iv)] [])
      case atStart => exact ⟨0, l, Nat.zero_le _, rfl, rfl, fun _ h => h, by omega, HO.out⟩
      case round =>
        obtain ⟨p, o, hp, hk, hv, hsub, ho4, H⟩ := hrel
        subst hv
        clear HO
        by_cases hlt : p < dn.length
        · obtain ⟨x, rfl, hsx, hcx⟩ := HCD.out (by omega)
          have hcx := hcx p (iv dn[p]) (by rw [List.getElem?_map, List.getElem?_eq_getElem hlt]; rfl)
          unfold iv at hcx
          have hblt : (x.add p).block < w.heap.size := World.block_lt_of_cell? w _ hcx
          obtain ⟨d, hdd⟩ : ∃ d, dn[p] = d := ⟨_, rfl⟩
          rw [hdd] at hcx
          have hcxW := fun (W : World) (S : CoS) (R : List Thing) (hW : Co w W c S R []) => (hW.below.cell hblt).trans hcx
          have hcx2 := hcxW _ _ _ H
          have HCX := Lib.hid hcxW
          have hdone := done_any H 3 d
          rw [done_own y o d HY.out.1 (by rw [HY.out.2.1]; exact hsub)] at hdone
          obtain ⟨o', ho'⟩ : ∃ o', o' = o.filter fun y => !decide (y = d) := ⟨_, rfl⟩
          rw [← ho'] at hdone
          have HD := Lib.hid hdone
          have HO' := Lib.hid (show _ ∧ _ from ⟨ho', hsub⟩)
          obtain ⟨Dl, hol, -⟩ := H.row
          obtain ⟨al, nl, cl, rfl, hll, hnl2, hcl2, -⟩ := _root_.id hol
          rw [List.length_map, Nat.mul_one] at hll
          subst hll
          unfold maxLen at hcl2
          clear H hdone hdd hcx hblt hcxW ho' hsub hol
          go_wp2_with fail
          refine HD.out.mono ?_
          rintro e w6 ⟨rfl, H⟩
          have hcx2 := HCX.out _ _ _ H
          have H0 := Lib.hid (show Co w w6 c [(3, owesE y o')] [ThRow 1 (.slice none 0 0) (([] : List Int).map iv), ThRow 1 (.slice al o.length cl) (o.map iv)] [] from H.addR (D' := []) (Upd.refl w6 []) (OwnRow.nil _ _))
          clear H
          go_wp2_with fail
          go_loopg [11, 12] o.length (fun k vr v wr => ∃ q : Nat, q ≤ o.length ∧ k = o.length - q ∧ v = .int .i64 (q : Int) ∧ Co w wr c [(3, owesE y o')] [ThRow 1 vr (((o.take q).filter fun y => !decide (y = d)).map iv), ThRow 1 (.slice al o.length cl) (o.map iv)] [])
          case atStart => exact ⟨0, Nat.zero_le _, rfl, rfl, by simpa using H0.out⟩
          case round =>
            obtain ⟨q, hq, hk2, hv2, H⟩ := hrel
            subst hv2
            clear H0
            by_cases hlt2 : q < o.length
            · obtain ⟨D2, ho2, -⟩ := (H.permR (List.Perm.swap _ _ _)).row
              obtain ⟨yy, rfl, hys2, hcy⟩ := ownCell ho2 (i := q) (x := iv o[q]) (by rw [List.getElem?_map, List.getElem?_eq_getElem hlt2]; rfl)
              obtain ⟨Dr, hor, backr⟩ := H.row
              obtain ⟨ar, nr, cr, rfl, hlr, -⟩ := _root_.id hor
              have hts : (o.take (q + 1)).filter (fun y => !decide (y = d)) = (o.take q).filter (fun y => !decide (y = d)) ++ if !decide (o[q] = d) then [o[q]] else [] := filter_step _ _ _ hlt2
              obtain ⟨u, hu⟩ : ∃ u, o[q] = u := ⟨_, rfl⟩
              rw [hu] at hcy hts
              unfold iv at hcy
              have hcx2 := HCX.out _ _ _ H
              have k1 := fun (W : World) (hW : W.heap = wr.heap) => (frozen_heap hW (yy.add q)).trans hcy
              have k2 := fun (W : World) (hW : W.heap = wr.heap) => (frozen_heap hW (x.add p)).trans hcx2
              have hlen2 : (((o.take q).filter fun y => !decide (y = d)).map iv).length ≤ 1000 := by
                have h1 := List.length_filter_le (fun y => !decide (y = d)) (o.take q)
                rw [List.length_take] at h1
                rw [List.length_map]
                omega
              have ha1 := Upd.alloc0 wr.drew (.cells #[.int .i64 u] 3 (0, 0)) []
              have hownA := (OwnRow.frame (w' := wr.drew) hor (fun _ _ => rfl)).frame (ha1.same hor.lt (by simp))
              obtain ⟨nb, hnb, hsrc⟩ := (cell_new wr.drew (.int .i64 u) 3 (0, 0)).src (P := Try.prog) (tx := 22) Try.underlying22 (by intro u hu; rw [List.mem_singleton.1 hu]; rfl)
              obtain rfl : 1 = nb := by simpa using hnb
              have HBD2 := Lib.hid (show ∀ n', (((o.take q).filter fun y => !decide (y = d)).map iv).length = n' * 1 → n' + 1 ≤ 140737488355328 ∧ (n' + 1) * i0.bytes ≤ 140737488355328 from fun n' hn' => by
                rw [hz2]; omega)
              have HBK := Lib.hid backr
              have HCR := Lib.hid H
              have HTS := Lib.hid hts
              clear ho2 hor backr hts hlr hnb H hu
              obtain ⟨b, hbb⟩ : ∃ b, (u != d) = b := ⟨_, rfl⟩
              have HB := Lib.hid hbb
              go_wp2_with fail
              refine wp_region_M (fun W => W.heap = wr.heap) 9 (by kernel_rfl) ?_
              refine wpAnyM_take (by kernel_rfl) (by intro c a d v w h; cases d <;> exact h) [(0, false), (1, false), (2, false), (3, true), (4, false), (5, false), (6, false), (7, true), (8, false)] (fuel := 0) (by kernel_rfl) ?_
              apply Exists.intro; refine ⟨?_, rfl, ?_⟩
              · iterate 9 ((first | (apply yieldN; (· (simp only [List.getElem?_toArray, List.getElem?_cons_succ, List.getElem?_cons_zero]; try rfl)); (· rfl)) | ((first | apply yieldP | apply yieldL); (· (simp only [List.getElem?_toArray, List.getElem?_cons_succ, List.getElem?_cons_zero]; try rfl)); (· rfl); (· (intros; go_simp; try with_reducible rfl)))); (· (simp only [Act.put, List.setIfInBounds_toArray, List.set_cons_zero, List.set_cons_succ]; try rfl)))
                exact rfl
              refine wpAnyM_done (by kernel_rfl) ?_ _
              cases b with
              | true =>
                have hne : decide (u = d) = false := by have := HB.out; simpa using this
                have hflt := HTS.out
                rw [hne] at hflt
                simp only [Bool.not_false, if_true] at hflt
                have HFL := Lib.hid hflt
                clear hne hflt
                have hcy2 : wr.drew.cell? (yy.add q) = some (.int .i64 u) := hcy
                go_wp2_with (at_builtin; go_must (refine wpList_app rfl _ _ 22 22 rfl 1 _ _ _ rfl hownA _ i0 _ Try.underlying22 hi0 hz0 hz1 rfl _ _ _ rfl hsrc HBD2.out ?_); intro a7 n7 c7 w7 D7 hown7 hu7)
                have HN := Lib.hid (HBK.out w7 D7 _ (((o.take (q + 1)).filter fun y => !decide (y = d)).map iv) (by rw [HFL.out, List.map_append]; exact hown7) (((Upd.refl wr Dr).drew.trans (ha1.mono (by simp) (fun b hb => .inr hb) : Upd wr.drew _ Dr Dr)).trans hu7))
                clear hown7 hu7 hsrc hownA
                go_roundg (o.length - (q + 1))
                case rel => exact ⟨q + 1, by omega, rfl, by go_num, HN.out⟩
                case measure => omega
              | false =>
                have hne : decide (u = d) = true := by have := HB.out; simpa using this
                have hflt := HTS.out
                rw [hne] at hflt
                simp only [Bool.not_true, Bool.false_eq_true, if_false, List.append_nil] at hflt
                have HFL := Lib.hid hflt
                clear hne hflt hsrc hownA
                go_wp2_with fail
                go_roundg (o.length - (q + 1))
                case rel => exact ⟨q + 1, by omega, rfl, by go_num, by rw [HFL.out]; exact HCR.out.keep (Upd.refl wr []).drew⟩
                case measure => omega
            · obtain rfl : q = o.length := by omega
              rw [List.take_length, ← HO'.out.1] at H
              have H1 := (H.permR (List.Perm.swap _ _ _)).dropR
              obtain ⟨Dr, hor, -⟩ := H1.row
              obtain ⟨ar, nr, cr, rfl, hlr, hnr, hcr, -⟩ := _root_.id hor
              rw [List.length_map, Nat.mul_one] at hlr
              subst hlr
              unfold maxLen at hcr
              have how := owes_any H1 3
              rw [show owesS [(3, owesE y o')] 3 = o' by unfold owesS; rw [look_one]; rfl] at how
              have HW := Lib.hid how
              have HH := Lib.hid H1
              clear H H1 hor how
              go_wp2_with fail
              refine HW.out.mono ?_
              rintro e w7 ⟨v7, D7, rfl, ho7, hu7⟩
              obtain ⟨E7, hr7, -⟩ := ho7.read
              have H7 := HH.out.keep hu7
              obtain ⟨D8, ho8, -⟩ := H7.row
              obtain ⟨E8, hr8, -⟩ := ho8.read
              have HS := Lib.hid (same_any _ _ o' o' E7 E8 w7 hr7 hr8)
              have HH7 := Lib.hid H7
              clear ho7 hu7 hr7 H7 ho8 hr8
              go_wp2_with fail
              refine HS.out.mono ?_
              rintro e w8 ⟨rfl, hu8⟩
              have H8 := HH7.out.keep hu8
              have hop := open_coord H8 (by simp)
              rw [open_own y o' HY.out.1] at hop
              have HOP := Lib.hid hop
              clear hu8 H8 hop
              go_wp2_with fail
              refine HOP.out.mono ?_
              rintro e w9 ⟨v9, rfl, H⟩
              obtain ⟨D9, ho9, -⟩ := H.row
              obtain ⟨a9, n9, c9, rfl, hl9, -⟩ := _root_.id ho9
              rw [List.length_map, Nat.mul_one] at hl9
              have hn9 : n9 = if o'.length = 0 then 0 else 1 := by rw [← hl9]; split <;> rfl
              have HN := Lib.hid H.dropR
              have ho'4 : o'.length ≤ 4 := by
                rw [HO'.out.1]
                exact Nat.le_trans (List.length_filter_le _ _) ho4
              have hsub' : ∀ z ∈ o', z ∈ l := fun z hz => by
                rw [HO'.out.1] at hz
                exact HO'.out.2 z ((List.mem_filter.1 hz).1)
              have HSU := Lib.hid (show _ ∧ _ from ⟨ho'4, hsub'⟩)
              clear H ho9 hl9 ho'4 hsub'
              by_cases hz : o'.length = 0
              · rw [if_pos hz] at hn9
                subst hn9
                have b1 : ((o'.length : Int) == 0) = true := beq_iff_eq.2 (by omega)
                clear hz
                go_wp2_with fail
                go_roundg (dn.length - (p + 1))
                case rel => exact ⟨p + 1, o', by omega, rfl, by go_num, HSU.out.2, HSU.out.1, HN.out⟩
                case measure => omega
              · rw [if_neg hz] at hn9
                subst hn9
                have b1 : ((o'.length : Int) == 0) = false := beq_eq_false_iff_ne.2 (by omega)
                clear hz
                go_wp2_with fail
                go_roundg (dn.length - (p + 1))
                case rel => exact ⟨p + 1, o', by omega, rfl, by go_num, HSU.out.2, HSU.out.1, HN.out⟩
                case measure => omega
        · obtain rfl : p = dn.length := by omega
          have hdc := decision_any H 3
          rw [HY.out.2.2 o] at hdc
          have HD := Lib.hid hdc
          clear H hdc
          go_wp2_with fail
          refine HD.out.mono ?_
          rintro e w6 ⟨rfl, H⟩
          have HBB := Lib.hid H.below
          clear H
          obtain ⟨bb, hbb⟩ : ∃ bb, (cm == cm) = bb := ⟨_, rfl⟩
          go_wp2_with fail
          go_ret
          exact ⟨by simp, HBB.out⟩
end Go.Proofs.Ytebmmbommkpjaaa

/-
  Inputs of layer 20: a slice of acts, opened.
-/
namespace Go.Proofs.Ytebmmbommkpjaaa
open Go.RowKit Go.Av Go.ChangeShapes Go.WideShapes

structure ActS where
  op : Int
  id : Int
  vs : Value
  shards : List Int
  shard : Int
  yes : Bool

instance : Inhabited ActS := ⟨⟨0, 0, .bool false, [], 0, false⟩⟩

/-- What the walk is told of a slice of acts. -/
def IsActs (w : World) (a : Option Addr) (len cap : Nat) (acts : List ActS) : Prop :=
  acts.length = len ∧ len ≤ cap ∧ cap ≤ maxLen ∧ (a = none → cap = 0) ∧
    (∀ x, a = some x → ∀ i, (h : i < acts.length) → w.cell? (x.add (i * 5)) = some (.int .i64 acts[i].op) ∧ w.cell? (x.add (i * 5 + 1)) = some (.int .i64 acts[i].id) ∧ w.cell? (x.add (i * 5 + 2)) = some acts[i].vs ∧
      w.cell? (x.add (i * 5 + 3)) = some (.int .i64 acts[i].shard) ∧ w.cell? (x.add (i * 5 + 4)) = some (.bool acts[i].yes)) ∧
    ∀ c ∈ acts, c.id ≤ 9223372036854775807 ∧ ∃ E, ReadRow w 1 c.vs (c.shards.map iv) E

theorem actCells : Try.prog.cellsOf 40 = 5 ∧ Try.prog.cellsOf 3 = 1 ∧ Try.prog.cellsOf 2 = 1 ∧ Try.prog.cellsOf 22 = 1 ∧ Try.prog.cellsOf 4 = 1 := by
  refine ⟨?_, ?_, ?_, ?_, ?_⟩ <;> kernel_rfl
theorem add_twice (x : Addr) (i j : Nat) : (x.add i).add j = x.add (i + j) := (Go.Deep.add_add x i j).symm ▸ rfl

theorem ints_of {H : Type} {enc : TypeId × Value → H} {w : World} {base : Nat} {held : Bool} {fuel : Nat} {c : Value} {x : DataW H × List MemPlace} (h : DataW.trod enc Try.prog w base (fun _ => true) held fuel 22 [c] = some x) :
    ∃ (l : List Int) (E : List Nat), ReadRow w 1 c (l.map iv) E := by
  rcases open_ints Try.underlying22 Try.underlying3 (by kernel_rfl) h with ⟨hcs, _⟩ | ⟨x, l, c, zs, hcs, _, hl, hm, hz, _, hcell, hwz⟩
  · cases hcs
    exact ⟨[], [], none, 0, 0, rfl, by simp, Nat.le_refl _, by decide, fun _ => rfl, .inl ⟨by simp, rfl⟩⟩
  · cases hcs
    obtain ⟨l', E, _, hr⟩ := IsInts.read (w := w) (a := some x) (len := l) (cap := c) (zs := zs) (.inr ⟨x, rfl, hl, hm, by simpa using hz, hcell, hwz⟩)
    exact ⟨l', E, hr⟩

set_option maxRecDepth 100000 in
theorem acts_of {H : Type} {enc : TypeId × Value → H} {w : World} {base : Nat} {held : Bool} {fuel : Nat} {a : Option Addr} {len cap : Nat} {x : DataW H × List MemPlace}
    (h : DataW.trod enc Try.prog w base (fun _ => true) held fuel 37 [.slice a len cap] = some x) : ∃ acts, IsActs w a len cap acts := by
  obtain ⟨c1, c2, c3, c4, c5⟩ := actCells
  rcases Deep.open_slice Try.underlying37 h with ⟨hcs, _⟩ | ⟨x, l, c, m, n, D, Pl, hcs, hb, hl, hm, hmm, hx, hi⟩
  · cases hcs
    exact ⟨[], rfl, Nat.le_refl _, by decide, fun _ => rfl, by simp, by simp⟩
  · cases hcs
    rw [c1] at hi
    have each : ∀ i, i < len → ∃ q : ActS, (w.cell? (x.add (i * 5)) = some (.int .i64 q.op) ∧ w.cell? (x.add (i * 5 + 1)) = some (.int .i64 q.id) ∧ w.cell? (x.add (i * 5 + 2)) = some q.vs ∧
        w.cell? (x.add (i * 5 + 3)) = some (.int .i64 q.shard) ∧ w.cell? (x.add (i * 5 + 4)) = some (.bool q.yes)) ∧ q.id ≤ 9223372036854775807 ∧ ∃ E, ReadRow w 1 q.vs (q.shards.map iv) E := by
      intro i hil
      obtain ⟨cs', hc, ht⟩ := hi i (by rw [hmm]; split <;> omega)
      obtain ⟨_, hcl, hat⟩ := World.cells?_some hc
      obtain ⟨ys, n', -, -, -, hyl, hf⟩ := DataW.trod_struct Try.underlying40 ht
      match cs', hcl with
      | [k0, k1, k2, k3, k4], _ =>
        have f0 : DataW.trod enc Try.prog w base (fun _ => true) held n' 3 (List.take (Try.prog.cellsOf 3) (List.drop 0 [k0, k1, k2, k3, k4])) = ys[0]? := hf 0 _ rfl
        have f1 : DataW.trod enc Try.prog w base (fun _ => true) held n' 2 (List.take (Try.prog.cellsOf 2) (List.drop 1 [k0, k1, k2, k3, k4])) = ys[1]? := hf 1 _ rfl
        have f2 : DataW.trod enc Try.prog w base (fun _ => true) held n' 22 (List.take (Try.prog.cellsOf 22) (List.drop 2 [k0, k1, k2, k3, k4])) = ys[2]? := hf 2 _ rfl
        have f3 : DataW.trod enc Try.prog w base (fun _ => true) held n' 3 (List.take (Try.prog.cellsOf 3) (List.drop 3 [k0, k1, k2, k3, k4])) = ys[3]? := hf 3 _ rfl
        have f4 : DataW.trod enc Try.prog w base (fun _ => true) held n' 4 (List.take (Try.prog.cellsOf 4) (List.drop 4 [k0, k1, k2, k3, k4])) = ys[4]? := hf 4 _ rfl
        rw [c2] at f0 f3
        rw [c3] at f1
        rw [c4] at f2
        rw [c5] at f4
        have hy : ∀ j, j < 5 → ∃ y, ys[j]? = some y := fun j hj => ⟨ys[j]'(by rw [hyl]; exact hj), List.getElem?_eq_getElem _⟩
        obtain ⟨y0, e0⟩ := hy 0 (by omega)
        obtain ⟨y1, e1⟩ := hy 1 (by omega)
        obtain ⟨y2, e2⟩ := hy 2 (by omega)
        obtain ⟨y3, e3⟩ := hy 3 (by omega)
        obtain ⟨y4, e4⟩ := hy 4 (by omega)
        obtain ⟨n0, g0, -, -⟩ := DataW.trod_int Try.underlying3 (f0.trans e0)
        obtain ⟨n1, g1, -, w1⟩ := DataW.trod_int Try.underlying2 (f1.trans e1)
        obtain ⟨l2, E2, r2⟩ := ints_of (c := k2) (f2.trans e2)
        obtain ⟨n3, g3, -, -⟩ := DataW.trod_int Try.underlying3 (f3.trans e3)
        obtain ⟨b4, g4, -⟩ := DataW.trod_bool Try.underlying4 (f4.trans e4)
        simp at g0 g1 g3 g4
        subst g0 g1 g3 g4
        have hw1 : n1 ≤ 9223372036854775807 := by
          simp only [Lit.wf, Bool.and_eq_true, decide_eq_true_eq, show IntKind.i64.max = 9223372036854775807 by decide] at w1
          exact w1.2
        refine ⟨⟨n0, n1, k2, l2, n3, b4⟩, ⟨?_, ?_, ?_, ?_, ?_⟩, hw1, E2, r2⟩
        · have := hat 0 (by omega); rw [add_twice] at this; exact this
        · have := hat 1 (by omega); rw [add_twice] at this; exact this
        · have := hat 2 (by omega); rw [add_twice] at this; exact this
        · have := hat 3 (by omega); rw [add_twice] at this; exact this
        · have := hat 4 (by omega); rw [add_twice] at this; exact this
    obtain ⟨y, hy⟩ := Deep.choose_lt each
    refine ⟨(List.range len).map y, by simp, hl, hm, by simp, ?_, ?_⟩
    · intro x' hx' i hi'
      cases hx'
      simp at hi'
      simpa using (hy i hi').1
    · intro q hq
      obtain ⟨i, hi', rfl⟩ := List.mem_map.1 hq
      exact (hy i (List.mem_range.1 hi')).2
end Go.Proofs.Ytebmmbommkpjaaa

/-
  Decisions: an act of any kind; two that stand side by side.
-/
namespace Go.Proofs.Ytebmmbommkpjaaa
open Go.RowKit Go.Av

/-- What an act does to what is kept. -/
def stepS (S : CoS) (op id : Int) (l : List Int) (sh : Int) (yes : Bool) : CoS :=
  if op = 0 then (beginS S id l).2 else if op = 1 then (voteS S id sh yes).2 else if op = 2 then (doneS S id sh).2 else if op = 3 then (abortS S id).2.2 else S

theorem Co.cellR {w0 w : World} {c : Nat} {S : CoS} {R : List Thing} {rows : List (Value × Bs)} {q : Nat} {o : Obj} (h : Co w0 w c S (ThCell q o :: R) rows) : w.heap[q]? = some o := by
  obtain ⟨m, gs, h1, h2, hS⟩ := h
  obtain ⟨E, hP, -⟩ := hS.has (T := ThCell q o) (by simp)
  exact hP

set_option maxRecDepth 100000 in
set_option maxHeartbeats 4000000 in
theorem step_any {w0 w : World} {c : Nat} {S : CoS} {R : List Thing} {rows : List (Value × Bs)} (h : Co w0 w c S R rows) (op id : Int) (v : Value) (l : List Int) (E : List Nat) (sh : Int) (yes : Bool) (hid : id ≤ 9223372036854775807) (hv : ReadRow w 1 v (l.map iv) E) :
    Calls Try.prog 20 #[.pointer (some ⟨c, 0, none⟩), .agg #[.int .i64 op, .int .i64 id, v, .int .i64 sh, .bool yes]] w fun e w' => e = .returned (.bool true) ∧ Co w0 w' c (stepS S op id l sh yes) R rows := by
  obtain ⟨aS, nS, cS, rfl, -⟩ := _root_.id hv
  have h0 := h.newCell (.cells #[.int .i64 op, .int .i64 id, .slice aS nS cS, .int .i64 sh, .bool yes] 40 (0, 0))
  have hv1 := hv.frame ((Upd.alloc0 w (.cells #[.int .i64 op, .int .i64 id, .slice aS nS cS, .int .i64 sh, .bool yes] 40 (0, 0)) []).same hv.lt (by simp))
  have k0 := cell_of h0.cellR 0 rfl
  have k1 := cell_of h0.cellR 1 rfl
  have k2 := cell_of h0.cellR 2 rfl
  have k3 := cell_of h0.cellR 3 rfl
  have k4 := cell_of h0.cellR 4 rfl
  have hb := begin_any h0 id _ l E hid hv1
  have hvo := vote_any h0 id sh yes
  have hdo := done_any h0 id sh
  have hab := abort_any h0 id
  have H0 := Lib.hid h0
  have HB := Lib.hid hb
  have HV := Lib.hid hvo
  have HD := Lib.hid hdo
  have HA := Lib.hid hab
  clear h h0 hv hv1 hb hvo hdo hab
  unfold stepS
  by_cases e0 : op = 0
  · rw [if_pos e0]
    subst e0
    clear HV HD HA
    go_enter Try.func20, Try.ntmps20
    go_wp2_with fail
    refine HB.out.mono ?_
    rintro e w2 ⟨rfl, H⟩
    have H := Lib.hid H.dropR
    go_wp2_with fail
    go_ret
    exact ⟨rfl, H.out⟩
  rw [if_neg e0]
  have b0 : ((op : Int) == 0) = false := beq_eq_false_iff_ne.2 e0
  clear e0 HB
  by_cases e1 : op = 1
  · rw [if_pos e1]
    subst e1
    clear HD HA
    go_enter Try.func20, Try.ntmps20
    go_wp2_with fail
    refine HV.out.mono ?_
    rintro e w2 ⟨rfl, H⟩
    have H := Lib.hid H.dropR
    go_wp2_with fail
    go_ret
    exact ⟨rfl, H.out⟩
  rw [if_neg e1]
  have b1 : ((op : Int) == 1) = false := beq_eq_false_iff_ne.2 e1
  clear e1 HV
  by_cases e2 : op = 2
  · rw [if_pos e2]
    subst e2
    clear HA
    go_enter Try.func20, Try.ntmps20
    go_wp2_with fail
    refine HD.out.mono ?_
    rintro e w2 ⟨rfl, H⟩
    have H := Lib.hid H.dropR
    go_wp2_with fail
    go_ret
    exact ⟨rfl, H.out⟩
  rw [if_neg e2]
  have b2 : ((op : Int) == 2) = false := beq_eq_false_iff_ne.2 e2
  clear e2 HD
  by_cases e3 : op = 3
  · rw [if_pos e3]
    subst e3
    go_enter Try.func20, Try.ntmps20
    go_wp2_with fail
    refine HA.out.mono ?_
    rintro e w2 ⟨rfl, H⟩
    have H := Lib.hid H.dropR
    go_wp2_with fail
    go_ret
    exact ⟨rfl, H.out⟩
  rw [if_neg e3]
  have b3 : ((op : Int) == 3) = false := beq_eq_false_iff_ne.2 e3
  have HN := Lib.hid H0.out.dropR
  clear e3 HA
  go_enter Try.func20, Try.ntmps20
  go_wp2_with fail
  go_ret
  exact ⟨rfl, HN.out⟩

theorem look_put (id id' : Int) (φ : EntS → EntS) (S : CoS) : lookS id (putS id' φ S) = if id = id' then (lookS id S).map φ else lookS id S := by
  unfold lookS putS
  induction S with
  | nil => simp
  | cons e S ih =>
    rw [List.map_cons, List.find?_cons, List.find?_cons]
    by_cases h1 : e.1 = id'
    · rw [if_pos h1]
      by_cases h2 : e.1 = id
      · have h3 : id = id' := h2.symm.trans h1
        simp [h2, h3]
      · simp only [h2, decide_false]
        exact ih
    · rw [if_neg h1]
      by_cases h2 : e.1 = id
      · have h3 : id ≠ id' := fun h => h1 (h2.trans h)
        simp [h2, h3]
      · simp only [h2, decide_false]
        exact ih
theorem look_app (id : Int) (S T : CoS) : lookS id (S ++ T) = match lookS id S with | some x => some x | none => lookS id T := by
  unfold lookS
  rw [List.find?_append]
  cases S.find? (fun e => decide (e.1 = id)) <;> rfl
theorem step_other (S : CoS) (op id z : Int) (l : List Int) (sh : Int) (yes : Bool) (h : id ≠ z) : lookS z (stepS S op id l sh yes) = lookS z S := by
  have hz : z ≠ id := fun e => h e.symm
  unfold stepS
  split
  · unfold beginS
    split
    · rfl
    · split
      · rfl
      · rw [look_app]
        cases lookS z S with
        | some x => rfl
        | none => simp [lookS, h]
  split
  · unfold voteS
    split
    · rfl
    · split
      · rfl
      · rw [look_put, if_neg hz]
  split
  · unfold doneS
    split
    · rfl
    · split
      · rfl
      · split
        · rfl
        · rw [look_put, if_neg hz]
  split
  · unfold abortS
    split
    · rfl
    · rw [look_put, if_neg hz]
  rfl
theorem step_alike (S T : CoS) (op id : Int) (l : List Int) (sh : Int) (yes : Bool) (h : lookS id S = lookS id T) (hop : op ≠ 0) : lookS id (stepS S op id l sh yes) = lookS id (stepS T op id l sh yes) := by
  unfold stepS
  rw [if_neg hop, if_neg hop]
  split
  · unfold voteS
    rw [← h]
    cases hx : lookS id S with
    | none => exact h
    | some x =>
      dsimp only
      cases idxF sh x.shards with
      | none => exact h
      | some i => dsimp only; rw [look_put, look_put, if_pos rfl, if_pos rfl, h]
  split
  · unfold doneS
    rw [← h]
    cases hx : lookS id S with
    | none => exact h
    | some x =>
      dsimp only
      cases idxF sh x.shards with
      | none => exact h
      | some i =>
        dsimp only
        split
        · exact h
        · rw [look_put, look_put, if_pos rfl, if_pos rfl, h]
  split
  · unfold abortS
    rw [← h]
    cases hx : lookS id S with
    | none => exact h
    | some x => dsimp only; rw [look_put, look_put, if_pos rfl, if_pos rfl, h]
  exact h
theorem decS_of (S T : CoS) (id : Int) (h : lookS id S = lookS id T) : decS S id = decS T id ∧ owesS S id = owesS T id := by
  unfold decS owesS
  rw [h]
  exact ⟨rfl, rfl⟩

/-- Two that stand side by side. -/
def Two (w0 w : World) (c : Nat) (S : CoS) (d : Nat) (T : CoS) (R : List Thing) (rows : List (Value × Bs)) : Prop :=
  ∃ (m : Nat) (gs : List EntG), gs.map EntG.ent = T ∧ (∀ e ∈ T, okE e) ∧ Co w0 w c S (coHead d m (gs.map EntG.kv) ++ (gs.flatMap EntG.th ++ R)) rows
section
variable {w0 w : World} {c d : Nat} {S T : CoS} {R : List Thing} {rows : List (Value × Bs)}
theorem Two.flip (h : Two w0 w c S d T R rows) : Two w0 w d T c S R rows := by
  obtain ⟨m, gs, h1, h2, m', gs', h1', h2', hS⟩ := h
  refine ⟨m', gs', h1', h2', m, gs, h1, h2, hS.perm ?_⟩
  simpa only [List.append_assoc] using List.perm_append_comm_assoc (coHead c m' (gs'.map EntG.kv) ++ gs'.flatMap EntG.th) (coHead d m (gs.map EntG.kv) ++ gs.flatMap EntG.th) R
theorem Two.use (h : Two w0 w c S d T R rows) : ∃ R', Co w0 w c S R' rows ∧ ∀ w' S', Co w0 w' c S' R' rows → Two w0 w' c S' d T R rows := by
  obtain ⟨m, gs, h1, h2, h3⟩ := h
  exact ⟨_, h3, fun w' S' h' => ⟨m, gs, h1, h2, h'⟩⟩
theorem Two.below (h : Two w0 w c S d T R rows) : Below w0.heap.size w0 w := by
  obtain ⟨R', h1, -⟩ := h.use
  exact h1.below
theorem Two.keep (h : Two w0 w c S d T R rows) {w' : World} {D' : List Nat} (hu : Upd w w' [] D') : Two w0 w' c S d T R rows := by
  obtain ⟨R', h1, h2⟩ := h.use
  exact h2 _ _ (h1.keep hu)
theorem two_perm (A B R : List Thing) (x : Thing) : (x :: (A ++ (B ++ R))).Perm (A ++ (B ++ (x :: R))) := by
  have := List.perm_middle (a := x) (l₁ := A ++ B) (l₂ := R)
  simpa only [List.append_assoc] using this.symm
theorem Two.newCell (h : Two w0 w c S d T R rows) (o : Obj) : Two w0 (w.alloc o) c S d T (ThCell w.heap.size o :: R) rows := by
  obtain ⟨m, gs, h1, h2, h3⟩ := h
  exact ⟨m, gs, h1, h2, (h3.newCell o).permR (two_perm _ _ _ _)⟩
theorem Two.dropR {x : Thing} (h : Two w0 w c S d T (x :: R) rows) : Two w0 w c S d T R rows := by
  obtain ⟨m, gs, h1, h2, h3⟩ := h
  exact ⟨m, gs, h1, h2, (h3.permR (two_perm _ _ _ _).symm).dropR⟩
theorem Two.cellR {q : Nat} {o : Obj} (h : Two w0 w c S d T (ThCell q o :: R) rows) : w.heap[q]? = some o := by
  obtain ⟨m, gs, h1, h2, h3⟩ := h
  exact (h3.permR (two_perm _ _ _ _).symm).cellR
theorem Two.setR {q : Nat} {cs : Array Value} {A : TypeId} (h : Two w0 w c S d T (ThCell q (.cells cs A (0, 0)) :: R) rows) (i : Nat) (v : Value) :
    Two w0 (w.setCell ⟨q, i, none⟩ v) c S d T (ThCell q (.cells (cs.setIfInBounds i v) A (0, 0)) :: R) rows := by
  obtain ⟨m, gs, h1, h2, h3⟩ := h
  obtain ⟨m', gs', h1', h2', hS⟩ := h3.permR (two_perm _ _ _ _).symm
  refine ⟨m, gs, h1, h2, Co.permR ⟨m', gs', h1', h2', ?_⟩ (two_perm _ _ _ _)⟩
  exact ((hS.perm (perm_last _ _ _ _).symm).set i v).perm (perm_last _ _ _ _)
end
/-- A second one is made. -/
theorem two_new {w0 w : World} {c : Nat} {S : CoS} {rows : List (Value × Bs)} (h : Co w0 w c S [] rows) :
    Calls Try.prog 11 #[] w fun e w' => ∃ d, e = .returned (.pointer (some ⟨d, 0, none⟩)) ∧ Two w0 w' d [] c S [] rows := by
  obtain ⟨m, gs, h1, h2, hS⟩ := h
  refine (new_coord hS).mono ?_
  rintro e w' ⟨d, rfl, h3⟩
  exact ⟨d, rfl, m, gs, h1, h2, h3⟩
end Go.Proofs.Ytebmmbommkpjaaa

/-
  Numbers and texts in bytes, in plain words.
-/
namespace Go.Av
open Go.RowKit

def be8 (n : Nat) : Bs := [UInt8.ofNat (n / 72057594037927936), UInt8.ofNat (n / 281474976710656), UInt8.ofNat (n / 1099511627776), UInt8.ofNat (n / 4294967296), UInt8.ofNat (n / 16777216), UInt8.ofNat (n / 65536), UInt8.ofNat (n / 256), UInt8.ofNat n]
/-- A number's eight bytes. -/
def packI (v : Int) : Bs := be8 (v % 18446744073709551616).toNat
def rdStep (v : Nat) (x : UInt8) : Nat := v * 256 % 18446744073709551616 + x.toNat
def rdFold (l : Bs) : Nat := l.foldl rdStep 0
/-- The number that eight bytes are. -/
def rdI (l : Bs) : Int := IntKind.i64.wrap (rdFold (l.take 8) : Int)

theorem be8_length (n : Nat) : (be8 n).length = 8 := rfl
theorem packI_length (v : Int) : (packI v).length = 8 := rfl
theorem rdFold_be8 (n : Nat) (h : n < 18446744073709551616) : rdFold (be8 n) = n := by
  simp only [rdFold, be8, List.foldl_cons, List.foldl_nil, rdStep, UInt8.toNat_ofNat']
  omega
theorem rdI_pack (v : Int) (x : Bs) (h1 : -9223372036854775808 ≤ v) (h2 : v ≤ 9223372036854775807) : rdI (packI v ++ x) = v := by
  have ht : (packI v ++ x).take 8 = packI v := by rw [List.take_append_of_le_length (by rw [packI_length]; omega), List.take_of_length_le (by rw [packI_length]; omega)]
  unfold rdI
  rw [ht]
  unfold packI
  rw [rdFold_be8 _ (by omega), IntKind.wrap_i64]
  omega
theorem rdStep_lt {v : Nat} (x : UInt8) : rdStep v x < 18446744073709551616 := by
  have := x.toNat_lt
  unfold rdStep
  omega
end Go.Av

/-
  The walks of numbers in bytes.
-/
namespace Go.Proofs.Ytebmmbommkpjaaa
open Go.RowKit Go.Av

def byteAt (n j : Nat) : Nat := n / 2 ^ (8 * j) % 256
theorem packI_step (v : Int) (j : Nat) (hj : j < 8) : (packI v).take (7 - j + 1) = (packI v).take (7 - j) ++ [UInt8.ofNat ((v % 18446744073709551616).toNat / 2 ^ (8 * j))] := by
  unfold packI be8
  match j, hj with
  | 0, _ => simp
  | 1, _ => simp
  | 2, _ => simp
  | 3, _ => simp
  | 4, _ => simp
  | 5, _ => simp
  | 6, _ => simp
  | 7, _ => simp
  | n + 8, h => omega

set_option maxRecDepth 100000 in
set_option maxHeartbeats 1000000 in
theorem pack_any (b : Value) (l : Bs) (E : List Nat) (v : Int) (w : World) (h : ReadRow w 1 b (l.map bv) E) (hl : l.length ≤ 1073741824) :
    Calls Try.prog 51 #[b, .int .i64 v] w (AppPost w [] (l ++ packI v)) := by
  obtain ⟨i0, hi0, hz0, hz1, hz2⟩ := info_parts info5
  obtain ⟨nn, hnn⟩ : ∃ nn : Nat, nn = (v % 18446744073709551616).toNat := ⟨_, rfl⟩
  have e64 : IntKind.u64.wrap v = (nn : Int) := by rw [hnn, IntKind.wrap_u64]; omega
  have HN := Lib.hid hnn
  clear hnn
  have h0 := h.frame ((Upd.alloc0 w (.cells #[] 5 (0, 0)) []).same h.lt (by simp))
  obtain ⟨nb, hnb, hsrc⟩ := h0.src (P := Try.prog) (tx := 53) Try.underlying53 bv_one
  rw [List.length_map, Nat.mul_one] at hnb
  subst hnb
  have HBD := Lib.hid (show ∀ n', ([] : List Value).length = n' * 1 → n' + l.length ≤ 140737488355328 ∧ (n' + l.length) * i0.bytes ≤ 140737488355328 from fun n' hn' => by simp at hn'; rw [hz2]; omega)
  clear h0
  go_enter Try.func51, Try.ntmps51
  go_wp2_with (at_builtin; go_must (refine wpList_app rfl _ _ 53 53 rfl 1 _ [] [] rfl (OwnRow.zero _ _ _) _ i0 _ Try.underlying53 hi0 hz0 hz1 rfl _ _ _ rfl hsrc HBD.out ?_); intro a3 n3 c3' w3 D3 hown3 hu3)
  have hu0 : Upd w w3 [] D3 := (Upd.alloc0 w (.cells #[] 5 (0, 0)) []).trans hu3
  have hst : ∃ (m : Nat) (D : List Nat), m ≤ 8 ∧ (8 : Nat) = m ∧ (Value.int .i64 7) = .int .i64 ((m : Int) - 1) ∧ OwnRow w3 1 (.slice a3 n3 c3') ((l ++ (packI v).take (8 - m)).map bv) D ∧ Upd w w3 [] D :=
    ⟨8, D3, by omega, rfl, rfl, by simpa using hown3, hu0⟩
  clear hown3 hu3 hu0 hsrc
  go_loopg [5, 6] 8 (fun k o i wr => ∃ (m : Nat) (D : List Nat), m ≤ 8 ∧ k = m ∧ i = .int .i64 ((m : Int) - 1) ∧ OwnRow wr 1 o ((l ++ (packI v).take (8 - m)).map bv) D ∧ Upd w wr [] D)
  case atStart => exact hst
  case round =>
    obtain ⟨m, D, hm, hk, rfl, hown, hu⟩ := hrel
    cases m with
    | zero =>
      have HO := Lib.hid hown
      have HU := Lib.hid hu
      clear hown hu
      go_wp2_with fail
      go_ret
      exact ⟨_, D, rfl, by have := HO.out; rwa [List.take_of_length_le (by rw [packI_length]; omega)] at this, HU.out⟩
    | succ j =>
      rw [show ((j + 1 : Nat) : Int) - 1 = (j : Int) by omega]
      obtain ⟨bt, hbt⟩ : ∃ bt : Nat, bt = nn / 2 ^ (8 * j) % 256 := ⟨_, rfl⟩
      have e8 : IntKind.i64.wrap (8 * (j : Int)) = ((8 * j : Nat) : Int) := by rw [IntWalk.i64_in _ (by omega)]; omega
      have eb : IntKind.u8.wrap ((nn : Int) / 2 ^ (8 * j)) = (bt : Int) := by
        rw [hbt, IntKind.wrap_u8]
        simp
      have HB := Lib.hid hbt
      have hU2 := Upd.alloc0 wr (.cells #[.int .u8 bt] 5 (0, 0)) []
      have hown2 := hown.frame (hU2.same hown.lt (by simp))
      obtain ⟨nb, hnb, hsrc⟩ := (cell_new wr (.int .u8 bt) 5 (0, 0)).src (P := Try.prog) (tx := 53) Try.underlying53 (by intro u hu; rw [List.mem_singleton.1 hu]; rfl)
      have hnb1 : 1 = nb := by simpa using hnb
      subst hnb1
      have HBD := Lib.hid (show ∀ n', ((l ++ (packI v).take (8 - (j + 1))).map bv).length = n' * 1 → n' + 1 ≤ 140737488355328 ∧ (n' + 1) * i0.bytes ≤ 140737488355328 from fun n' hn' => by simp at hn'; rw [hz2]; omega)
      have HU := Lib.hid (hu.trans (Upd.alloc0 wr (.cells #[.int .u8 bt] 5 (0, 0)) D))
      clear hbt hown hu hnb hU2
      go_wp2_with (at_builtin; go_must (refine wpList_app rfl _ _ 53 53 rfl 1 _ _ _ rfl hown2 _ i0 _ Try.underlying53 hi0 hz0 hz1 rfl _ _ _ rfl hsrc HBD.out ?_); intro a4 n4 c4 w4 D4 hown4 hu4)
      go_roundg j
      case rel =>
        refine ⟨j, D4, by omega, rfl, rfl, ?_, HU.out.trans hu4⟩
        have e1 : 8 - j = 7 - j + 1 := by omega
        have e2 : 8 - (j + 1) = 7 - j := by omega
        rw [e2] at hown4
        rw [e1, packI_step v j (by omega), ← HN.out, ← List.append_assoc, List.map_append]
        have e3 : ([UInt8.ofNat (nn / 2 ^ (8 * j))] : Bs).map bv = [.int .u8 bt] := by simp [bv, HB.out]
        rw [e3]
        exact hown4
      case measure => omega
end Go.Proofs.Ytebmmbommkpjaaa

/-
  The walks of a reader of numbers.
-/
namespace Go.Proofs.Ytebmmbommkpjaaa
open Go.RowKit Go.Av

def ReaderAt (w : World) (r : Nat) (l : Bs) (bad : Bool) (D : List Nat) : Prop :=
  ∃ v E T, w.heap[r]? = some (.cells #[v, .bool bad] T (0, 0)) ∧ ReadRow w 1 v (l.map bv) E ∧ (∀ x ∈ E, x ≠ r) ∧ D = r :: E

theorem ReaderAt.frame {w w' : World} {r : Nat} {l : Bs} {bad : Bool} {D : List Nat} (h : ReaderAt w r l bad D) (hs : Same w w' D) : ReaderAt w' r l bad D := by
  obtain ⟨v, E, T, h1, h2, h3, rfl⟩ := h
  exact ⟨v, E, T, (hs r (by simp)).trans h1, h2.frame (fun b hb => hs b (by simp [hb])), h3, rfl⟩
theorem ReaderAt.lt {w : World} {r : Nat} {l : Bs} {bad : Bool} {D : List Nat} (h : ReaderAt w r l bad D) : ∀ b ∈ D, b < w.heap.size := by
  obtain ⟨v, E, T, h1, h2, h3, rfl⟩ := h
  intro b hb
  rcases List.mem_cons.1 hb with rfl | hb
  · exact lt_of_heap h1
  · exact h2.lt b hb

def RdrPost (w : World) (D : List Nat) (r : Nat) (l : Bs) (bad : Bool) (ret : Ending) (e : Ending) (w' : World) : Prop := e = ret ∧ ∃ D', ReaderAt w' r l bad D' ∧ Upd w w' D D'

theorem wrap_is (x : Int) : wrap64 x = IntKind.i64.wrap x := by
  rw [IntKind.wrap_i64]
  unfold wrap64
  omega
theorem or_join64 (x y : Nat) (hx : x % 256 = 0) (hx1 : x < 18446744073709551616) (hy : y < 256) : bits .or .u64 (x : Int) (y : Int) = ((x + y : Nat) : Int) := by
  have := bits_join .u64 64 (by decide) (fun n h0 h1 => by rw [IntKind.wrap_u64]; omega) 8 (x : Int) (y : Int) (by omega) (by omega) (by omega) (by omega) (by omega) (by omega)
  rw [this]
  omega
theorem rd_join (v x : Nat) (hx : x < 256) (u : UInt8) (hu : u.toNat = x) : bits .or .u64 (IntKind.u64.wrap ((v : Int) * 256)) (x : Int) = ((rdStep v u : Nat) : Int) := by
  have e1 : IntKind.u64.wrap ((v : Int) * 256) = ((v * 256 % 18446744073709551616 : Nat) : Int) := by rw [IntKind.wrap_u64]; omega
  rw [e1, or_join64 _ _ (by omega) (by omega) hx]
  unfold rdStep
  rw [hu]

set_option maxRecDepth 100000 in
set_option maxHeartbeats 1000000 in
theorem rdr_new (b : Value) (l : Bs) (E : List Nat) (w : World) (h : ReadRow w 1 b (l.map bv) E) (hl : l.length ≤ 1073741824) :
    Calls Try.prog 41 #[b] w fun e w' => ∃ r D, e = .returned (.pointer (some ⟨r, 0, none⟩)) ∧ ReaderAt w' r l false D ∧ Upd w w' [] D := by
  obtain ⟨i0, hi0, hz0, hz1, hz2⟩ := info_parts info5
  have h0 := h.frame ((Upd.alloc0 w (.cells #[] 5 (0, 0)) []).same h.lt (by simp))
  obtain ⟨nb, hnb, hsrc⟩ := h0.src (P := Try.prog) (tx := 53) Try.underlying53 bv_one
  rw [List.length_map, Nat.mul_one] at hnb
  subst hnb
  have HBD := Lib.hid (show ∀ n', ([] : List Value).length = n' * 1 → n' + l.length ≤ 140737488355328 ∧ (n' + l.length) * i0.bytes ≤ 140737488355328 from fun n' hn' => by simp at hn'; rw [hz2]; omega)
  clear h0
  go_enter Try.func41, Try.ntmps41
  go_wp2_with (at_builtin; go_must (refine wpList_app rfl _ _ 53 53 rfl 1 _ [] [] rfl (OwnRow.zero _ _ _) _ i0 _ Try.underlying53 hi0 hz0 hz1 rfl _ _ _ rfl hsrc HBD.out ?_); intro a3 n3 c3' w3 D3 hown3 hu3)
  go_ret
  have hu0 : Upd w w3 [] D3 := (Upd.alloc0 w (.cells #[] 5 (0, 0)) []).trans hu3
  rw [List.nil_append] at hown3
  obtain ⟨E3, hr3, hE3⟩ := hown3.read
  refine ⟨w3.heap.size, w3.heap.size :: E3, rfl, ⟨_, E3, _, heap_alloc_new w3 _, hr3.frame ((Upd.alloc0 w3 _ []).same hr3.lt (by simp)), fun x hx he => ?_, rfl⟩, ?_⟩
  · have := hr3.lt x hx; omega
  · refine (hu0.trans (Upd.alloc1 w3 _ D3)).mono (by simp) (fun b hb => .inl ?_)
    rcases List.mem_cons.1 hb with rfl | hb
    · simp
    · simp [hE3 b hb]

theorem rdr_spoil (r : Nat) (l : Bs) (bad : Bool) (D : List Nat) (w : World) (h : ReaderAt w r l bad D) :
    Calls Try.prog 64 #[.pointer (some ⟨r, 0, none⟩)] w (RdrPost w D r [] true (.returned (.tuple #[]))) := by
  obtain ⟨v, E, T, h1, h2, h3, rfl⟩ := h
  have y0 := frz_of h1 0
  have y1 := frz_of h1 1
  have c0 := cell_of h1 0 rfl
  have c1 := cell_of h1 1 rfl
  have H1 := Lib.hid h1
  clear h1
  go_enter Try.func64, Try.ntmps64
  go_wp2_with fail
  go_end0
  have e1 := heap_setCell_same w r 0 _ T (.slice none 0 0) H1.out
  have e2 := heap_setCell_same _ r 1 _ T (.bool true) e1
  refine ⟨rfl, [r], ⟨.slice none 0 0, [], T, e2, ⟨none, 0, 0, rfl, by simp, Nat.le_refl _, by decide, fun _ => rfl, .inl ⟨rfl, rfl⟩⟩, by simp, rfl⟩, ?_⟩
  exact (((Upd.refl w (r :: E)).setCell ⟨r, 0, none⟩ (.slice none 0 0) (by simp)).setCell ⟨r, 1, none⟩ (.bool true) (by simp)).mono (fun _ h => h) (by simp)

set_option maxRecDepth 100000 in
theorem rdr_end (r : Nat) (l : Bs) (bad : Bool) (D : List Nat) (w : World) (h : ReaderAt w r l bad D) :
    Calls Try.prog 47 #[.pointer (some ⟨r, 0, none⟩)] w fun e w' => e = .returned (.bool (!bad && l.isEmpty)) ∧ w' = w := by
  obtain ⟨v, E, T, h1, h2, h3, rfl⟩ := h
  obtain ⟨a, n, c, rfl, -⟩ := id h2
  obtain ⟨hn, hnc, hcm, -⟩ := row_cell h2
  rw [List.length_map] at hn
  subst hn
  have c0 := cell_of h1 0 rfl
  have c1 := cell_of h1 1 rfl
  clear h1 h2
  cases bad with
  | true =>
    go_enter Try.func47, Try.ntmps47
    go_wp2_with fail
    go_ret
    exact ⟨rfl, rfl⟩
  | false =>
    cases l with
    | nil =>
      go_enter Try.func47, Try.ntmps47
      go_wp2_with fail
      go_ret
      exact ⟨rfl, rfl⟩
    | cons x l =>
      have hne : ((((x :: l).length : Nat) : Int) == 0) = false := by simp; omega
      go_enter Try.func47, Try.ntmps47
      go_wp2_with fail
      go_ret
      exact ⟨congrArg (fun b => Ending.returned (.bool b)) (show (((l.length : Int) + 1) == 0) = false by simp; omega), rfl⟩

set_option maxRecDepth 100000 in
set_option maxHeartbeats 1000000 in
theorem rdr_i64 (r : Nat) (l : Bs) (bad : Bool) (D : List Nat) (w : World) (h : ReaderAt w r l bad D) :
    Calls Try.prog 43 #[.pointer (some ⟨r, 0, none⟩)] w
      (RdrPost w D r (if l.length < 8 then [] else l.drop 8) (if l.length < 8 then true else bad) (.returned (.int .i64 (if l.length < 8 then 0 else rdI l)))) := by
  obtain ⟨i0, hi0, hz0, hz1, hz2⟩ := info_parts info5
  obtain ⟨v, E, T, h1, h2, h3, rfl⟩ := h
  obtain ⟨a, n, c, rfl, -⟩ := id h2
  obtain ⟨hn, hnc, hcm, hcell⟩ := row_cell h2
  rw [List.length_map] at hn
  subst hn
  unfold maxLen at hcm
  have c0 : w.cell? ⟨r, 0, none⟩ = some (.slice a l.length c) := cell_of h1 0 rfl
  have y0 := frz_of h1 0
  have y1 := frz_of h1 1
  have H1 := Lib.hid h1
  have H2 := Lib.hid h2
  have H3 := Lib.hid h3
  clear h1 h2 h3
  by_cases h8 : l.length < 8
  · rw [if_pos h8, if_pos h8, if_pos h8]
    clear hcell
    have hsp := rdr_spoil r l bad (r :: E) w ⟨_, E, T, H1.out, H2.out, H3.out, rfl⟩
    have HSP := Lib.hid hsp
    clear hsp
    go_enter Try.func43, Try.ntmps43
    go_wp2_with fail
    refine HSP.out.mono ?_
    rintro e w1 ⟨rfl, D1, hR, hu⟩
    go_wp2_with fail
    go_ret
    exact ⟨rfl, D1, hR, hu⟩
  · rw [if_neg h8, if_neg h8, if_neg h8]
    have HC := Lib.hid hcell
    clear hcell
    have hsl1 : ∀ W : World, (Instr.slice 53 (.slice a l.length c) none (some (.int .i64 8)) none).run Try.prog W = .ok (.slice a 8 c) W := fun W => run_slice_hi (P := Try.prog) Try.underlying53 hi0 a l.length c 8 (by omega) W
    obtain ⟨ap, hsp, Ep, hrp, hEp⟩ := slice_from Try.underlying53 hi0 hz1 H2.out 8 (by omega)
    have hsp2 : ∀ W : World, (Instr.slice 53 (.slice a l.length c) (some (.int .i64 8)) none none).run Try.prog W = .ok (.slice ap (l.length - 8) (c - 8)) W := fun W => hsp W
    have HP := Lib.hid (show ReadRow w 1 (.slice ap (l.length - 8) (c - 8)) ((l.drop 8).map bv) Ep ∧ ∀ b ∈ Ep, b ∈ E from ⟨hrp, hEp⟩)
    clear hsp hrp hEp
    go_enter Try.func43, Try.ntmps43
    go_wp2_with fail
    go_loopg [3, 20] 8 (fun k s i wr => wr = w ∧ ∃ m : Nat, m ≤ 8 ∧ k = 8 - m ∧ i = .int .i64 m ∧ s = .int .u64 (rdFold (l.take m)))
    case atStart => exact ⟨rfl, 0, by omega, rfl, rfl, rfl⟩
    case round =>
      obtain ⟨hW, m, hm, hk, rfl, rfl⟩ := hrel
      subst wr
      by_cases hlt : m < 8
      · obtain ⟨x, rfl, -, hx⟩ := HC.out (by omega)
        have hcl : w.cell? (x.add m) = some (bv l[m]) := hx m _ (by rw [List.getElem?_map, List.getElem?_eq_getElem (by omega)]; rfl)
        unfold bv at hcl
        obtain ⟨xv, hxv⟩ : ∃ xv : Nat, xv = l[m].toNat := ⟨_, rfl⟩
        have hxl : xv < 256 := by rw [hxv]; exact UInt8.toNat_lt _
        rw [← hxv] at hcl
        have hj := rd_join (rdFold (l.take m)) xv hxl l[m] hxv.symm
        obtain ⟨f0, hf0⟩ : ∃ f0, f0 = rdFold (l.take m) := ⟨_, rfl⟩
        rw [← hf0] at hj ⊢
        have HJ := Lib.hid hj
        have HF := Lib.hid hf0
        clear hj hf0 hx hxv
        go_wp2_with fail
        go_roundg (8 - (m + 1))
        case rel =>
          refine ⟨rfl, m + 1, by omega, rfl, by go_num, ?_⟩
          have e : rdFold (l.take (m + 1)) = rdStep (rdFold (l.take m)) l[m] := by
            unfold rdFold
            rw [List.take_succ_eq_append_getElem (show m < l.length by omega), List.foldl_append]
            rfl
          rw [HJ.out, HF.out, e]
        case measure => omega
      · obtain rfl : m = 8 := by omega
        go_wp2_with fail
        go_ret
        refine ⟨congrArg (fun z => Ending.returned (.int .i64 z)) (wrap_is _), r :: Ep, ⟨_, Ep, T, heap_setCell_same w r 0 _ T (.slice ap (l.length - 8) (c - 8)) H1.out, HP.out.1.frame (fun b hb => heap_setCell_other _ _ _ _ (fun e => H3.out b (HP.out.2 b hb) e)), fun x hx => H3.out x (HP.out.2 x hx), rfl⟩, ?_⟩
        refine (Upd.set1 w ⟨r, 0, none⟩ (.slice ap (l.length - 8) (c - 8)) (r :: E) (by simp)).mono (fun _ h => h) (fun b hb => .inr ?_)
        rcases List.mem_cons.1 hb with rfl | hb
        · simp
        · simp [HP.out.2 b hb]
end Go.Proofs.Ytebmmbommkpjaaa

/-
  A reader's counts: the walk.
-/
namespace Go.Proofs.Ytebmmbommkpjaaa
open Go.RowKit Go.Av

def cntS (l : Bs) (bad : Bool) (most : Int) : Bs × Bool × Int :=
  if l.length < 8 then ([], true, 0) else if rdI l < 0 ∨ most < rdI l then ([], true, 0) else (l.drop 8, bad, rdI l)

set_option maxRecDepth 100000 in
set_option maxHeartbeats 1000000 in
theorem rdr_count (r : Nat) (l : Bs) (bad : Bool) (most : Int) (hm : 0 ≤ most) (D : List Nat) (w : World) (h : ReaderAt w r l bad D) :
    Calls Try.prog 42 #[.pointer (some ⟨r, 0, none⟩), .int .i64 most] w (RdrPost w D r (cntS l bad most).1 (cntS l bad most).2.1 (.returned (.int .i64 (cntS l bad most).2.2))) := by
  have hi := rdr_i64 r l bad D w h
  unfold cntS
  by_cases h8 : l.length < 8
  · rw [if_pos h8, if_pos h8, if_pos h8] at hi
    rw [if_pos h8]
    have HI := Lib.hid hi
    clear hi h h8
    go_enter Try.func42, Try.ntmps42
    go_wp2_with fail
    refine HI.out.mono ?_
    rintro e w1 ⟨rfl, D1, h1, hu1⟩
    have H1 := Lib.hid (show _ ∧ _ from ⟨h1, hu1⟩)
    have b1 : ¬ most < 0 := by omega
    clear h1 hu1
    go_wp2_with fail
    go_ret
    exact ⟨rfl, D1, H1.out.1, H1.out.2⟩
  · rw [if_neg h8, if_neg h8, if_neg h8] at hi
    rw [if_neg h8]
    obtain ⟨n, hn⟩ : ∃ n, rdI l = n := ⟨_, rfl⟩
    rw [hn] at hi ⊢
    have HI := Lib.hid hi
    clear hi h h8 hn
    by_cases hbad : n < 0 ∨ most < n
    · rw [if_pos hbad]
      by_cases hn0 : n < 0
      case' pos => clear hbad
      case' neg =>
        have hn1 : most < n := by omega
        clear hbad
      all_goals
        go_enter Try.func42, Try.ntmps42
        go_wp2_with fail
        refine HI.out.mono ?_
        rintro e w1 ⟨rfl, D1, h1, hu1⟩
        have hs := rdr_spoil r _ _ D1 w1 h1
        have HS := Lib.hid hs
        have HU := Lib.hid hu1
        clear h1 hu1 hs
        go_wp2_with fail
        refine HS.out.mono ?_
        rintro e w2 ⟨rfl, D2, h2, hu2⟩
        have H2 := Lib.hid (show _ ∧ _ from ⟨h2, HU.out.trans hu2⟩)
        clear h2 hu2
        go_wp2_with fail
        go_ret
        exact ⟨rfl, D2, H2.out.1, H2.out.2⟩
    · rw [if_neg hbad]
      have hn0 : ¬ n < 0 := fun h => hbad (.inl h)
      have hn1 : ¬ most < n := fun h => hbad (.inr h)
      clear hbad
      go_enter Try.func42, Try.ntmps42
      go_wp2_with fail
      refine HI.out.mono ?_
      rintro e w1 ⟨rfl, D1, h1, hu1⟩
      have H1 := Lib.hid (show _ ∧ _ from ⟨h1, hu1⟩)
      clear h1 hu1
      go_wp2_with fail
      go_ret
      exact ⟨rfl, D1, H1.out.1, H1.out.2⟩
end Go.Proofs.Ytebmmbommkpjaaa

/-
  A reader in plain words; side by side with all else.
-/
namespace Go.Proofs.Ytebmmbommkpjaaa
open Go.RowKit Go.Av

theorem packI_len (v : Int) : (packI v).length = 8 := rfl
theorem flat_len : ∀ l : List Int, (l.flatMap packI).length = 8 * l.length
  | [] => rfl
  | x :: l => by rw [List.flatMap_cons, List.length_append, packI_len, flat_len l, List.length_cons]; omega
/-! ### a reader, in plain words -/
abbrev Rd := Bs × Bool
def i64R (r : Rd) : Int × Rd := if r.1.length < 8 then (0, [], true) else (rdI r.1, r.1.drop 8, r.2)
def cntR (most : Int) (r : Rd) : Int × Rd := ((cntS r.1 r.2 most).2.2, (cntS r.1 r.2 most).1, (cntS r.1 r.2 most).2.1)
def cntN (most : Int) : Nat → Rd → List Int × Rd
  | 0, r => ([], r)
  | n + 1, r => ((cntR most r).1 :: (cntN most n (cntR most r).2).1, (cntN most n (cntR most r).2).2)
theorem cntN_snoc (most : Int) : ∀ (n : Nat) (r : Rd), cntN most (n + 1) r = ((cntN most n r).1 ++ [(cntR most (cntN most n r).2).1], (cntR most (cntN most n r).2).2)
  | 0, r => rfl
  | n + 1, r => by
    rw [cntN, cntN_snoc most n]
    rfl
theorem cntN_len (most : Int) : ∀ (n : Nat) (r : Rd), (cntN most n r).1.length = n
  | 0, r => rfl
  | n + 1, r => by rw [cntN, List.length_cons, cntN_len most n]
theorem cntR_bd {most : Int} (h : 0 ≤ most) (r : Rd) : 0 ≤ (cntR most r).1 ∧ (cntR most r).1 ≤ most := by
  unfold cntR cntS
  split
  · exact ⟨Int.le_refl _, h⟩
  · split
    · exact ⟨Int.le_refl _, h⟩
    · simp only; omega

theorem i64R_pack (v : Int) (x : Bs) (bad : Bool) (h1 : -9223372036854775808 ≤ v) (h2 : v ≤ 9223372036854775807) : i64R (packI v ++ x, bad) = (v, x, bad) := by
  unfold i64R
  rw [if_neg (by simp [packI_len])]
  simp only [rdI_pack v x h1 h2]
  rw [List.drop_append_of_le_length (by rw [packI_len]; omega), List.drop_of_length_le (by rw [packI_len]; omega)]
  rfl
theorem cntR_pack (most v : Int) (x : Bs) (bad : Bool) (h1 : 0 ≤ v) (h2 : v ≤ most) (h3 : most ≤ 9223372036854775807) : cntR most (packI v ++ x, bad) = (v, x, bad) := by
  unfold cntR cntS
  simp only
  rw [rdI_pack v x (by omega) (by omega), if_neg (by simp [packI_len]), if_neg (by omega)]
  simp only
  rw [List.drop_append_of_le_length (by rw [packI_len]; omega), List.drop_of_length_le (by rw [packI_len]; omega)]
  rfl
theorem cntN_pack (most : Int) (h3 : most ≤ 9223372036854775807) : ∀ (l : List Int) (x : Bs) (bad : Bool), (∀ v ∈ l, 0 ≤ v ∧ v ≤ most) → cntN most l.length (l.flatMap packI ++ x, bad) = (l, x, bad)
  | [], x, bad, _ => rfl
  | v :: l, x, bad, h => by
    have h1 := h v (by simp)
    rw [List.length_cons, cntN, List.flatMap_cons, List.append_assoc, cntR_pack most v _ bad h1.1 h1.2 h3]
    simp only
    rw [cntN_pack most h3 l x bad (fun v hv => h v (by simp [hv]))]
def ThRdr (r : Nat) (d : Rd) : Thing := ⟨fun w D => ReaderAt w r d.1 d.2 D, fun h hs => h.frame hs, fun h => h.lt⟩
section
variable {w0 w : World} {r : Nat} {d : Rd} {R : List Thing} {rows : List (Value × Bs)}
theorem rdrSep_count (h : Sep w0 w (ThRdr r d :: R) rows) (most : Int) (hm : 0 ≤ most) :
    Calls Try.prog 42 #[.pointer (some ⟨r, 0, none⟩), .int .i64 most] w fun e w' => e = .returned (.int .i64 (cntR most d).1) ∧ Sep w0 w' (ThRdr r (cntR most d).2 :: R) rows := by
  obtain ⟨D, hP, -, back⟩ := h.use
  refine (rdr_count r d.1 d.2 most hm D w hP).mono ?_
  rintro e w' ⟨rfl, D', h', hu⟩
  exact ⟨rfl, back w' D' (ThRdr r (cntR most d).2) hu h'⟩
theorem rdrSep_i64 (h : Sep w0 w (ThRdr r d :: R) rows) :
    Calls Try.prog 43 #[.pointer (some ⟨r, 0, none⟩)] w fun e w' => e = .returned (.int .i64 (i64R d).1) ∧ Sep w0 w' (ThRdr r (i64R d).2 :: R) rows := by
  obtain ⟨D, hP, -, back⟩ := h.use
  refine (rdr_i64 r d.1 d.2 D w hP).mono ?_
  rintro e w' ⟨rfl, D', h', hu⟩
  have e1 : (i64R d).1 = if d.1.length < 8 then 0 else rdI d.1 := by unfold i64R; split <;> rfl
  have e2 : (i64R d).2.1 = if d.1.length < 8 then [] else d.1.drop 8 := by unfold i64R; split <;> rfl
  have e3 : (i64R d).2.2 = if d.1.length < 8 then true else d.2 := by unfold i64R; split <;> rfl
  exact ⟨by rw [e1], back w' D' (ThRdr r (i64R d).2) hu (by show ReaderAt w' r (i64R d).2.1 (i64R d).2.2 D'; rw [e2, e3]; exact h')⟩
theorem rdrSep_bad (h : Sep w0 w (ThRdr r d :: R) rows) :
    Calls Try.prog 45 #[.pointer (some ⟨r, 0, none⟩)] w fun e w' => e = .returned (.bool d.2) ∧ w' = w := by
  obtain ⟨D, v, E, T, h1, -⟩ := h.fst
  have c1 := cell_of h1 1 rfl
  clear h h1
  obtain ⟨b, hb⟩ : ∃ b, b = d.2 := ⟨_, rfl⟩
  rw [show (#[v, Value.bool d.2] : Array Value)[1] = .bool b by rw [hb]; rfl] at c1
  rw [← hb]
  clear hb
  go_enter Try.func45, Try.ntmps45
  go_wp2_with fail
  go_ret
  exact ⟨rfl, rfl⟩
theorem rdrSep_end (h : Sep w0 w (ThRdr r d :: R) rows) :
    Calls Try.prog 47 #[.pointer (some ⟨r, 0, none⟩)] w fun e w' => e = .returned (.bool (!d.2 && d.1.isEmpty)) ∧ w' = w := by
  obtain ⟨D, hP⟩ := h.fst
  exact rdr_end r d.1 d.2 D w hP

end
end Go.Proofs.Ytebmmbommkpjaaa

/-
  Decisions in bytes: numbers are written.
-/
namespace Go.Proofs.Ytebmmbommkpjaaa
open Go.RowKit Go.Av

/-- How many numbers there are, and these. -/
def numsS (l : List Int) : Bs := packI l.length ++ l.flatMap packI

theorem numsS_step (b : Bs) (l : List Int) (p : Nat) (hp : p < l.length) : b ++ (packI l.length ++ (l.take (p + 1)).flatMap packI) = (b ++ (packI l.length ++ (l.take p).flatMap packI)) ++ packI l[p] := by
  rw [List.take_succ_eq_append_getElem hp, List.flatMap_append]
  simp


set_option maxRecDepth 100000 in
set_option maxHeartbeats 1000000 in
theorem numbers_any (b v : Value) (l : Bs) (xs : List Int) (E F : List Nat) (w : World) (h : ReadRow w 1 b (l.map bv) E) (hv : ReadRow w 1 v (xs.map iv) F) (hl : l.length ≤ 1000000) (hx : xs.length ≤ 1000) :
    Calls Try.prog 52 #[b, v] w (AppPost w [] (l ++ numsS xs)) := by
  obtain ⟨a, n, c, rfl, -⟩ := _root_.id hv
  obtain ⟨hn, hnc, hcm, hcell⟩ := row_cell hv
  rw [List.length_map] at hn
  subst hn
  have HP := Lib.hid (pack_any b l E (xs.length : Int) w h (by omega))
  have HC := Lib.hid hcell
  have HV := Lib.hid hv
  clear h hcell hv
  unfold maxLen at hcm
  go_enter Try.func52, Try.ntmps52
  go_wp2_with fail
  refine HP.out.mono ?_
  rintro e w1 ⟨v1, D1, rfl, ho1, hu1⟩
  have HST := Lib.hid (show _ ∧ _ from ⟨ho1, hu1⟩)
  clear ho1 hu1 HP
  go_wp2_with fail
  go_loopg [0, 13] xs.length (fun k vb vi wr => ∃ (p : Nat) (D : List Nat), p ≤ xs.length ∧ k = xs.length - p ∧ vi = .int .i64 (p : Int) ∧
    OwnRow wr 1 vb ((l ++ (packI xs.length ++ (xs.take p).flatMap packI)).map bv) D ∧ Upd w wr [] D)
  case atStart => exact ⟨0, D1, Nat.zero_le _, rfl, rfl, by simpa using HST.out.1, HST.out.2⟩
  case round =>
    obtain ⟨p, D, hp, hk, hvi, ho, hu⟩ := hrel
    subst hvi
    clear HST
    by_cases hlt : p < xs.length
    · obtain ⟨x, rfl, hsx, hcx⟩ := HC.out (by simpa using by omega)
      have hcx := hcx p (iv xs[p]) (by rw [List.getElem?_map, List.getElem?_eq_getElem hlt]; rfl)
      have hcx := (hu.below.cell (World.block_lt_of_cell? w _ hcx)).trans hcx
      have hst := numsS_step l xs p hlt
      obtain ⟨z, hz⟩ : ∃ z, xs[p] = z := ⟨_, rfl⟩
      rw [hz] at hcx hst
      unfold iv at hcx
      obtain ⟨E1, hr1, hE1⟩ := ho.read
      have hp2 := pack_any _ _ E1 z wr hr1 (by
        simp only [List.length_append, packI_len, flat_len, List.length_take]; omega)
      rw [← hst] at hp2
      have HP := Lib.hid hp2
      have HU := Lib.hid hu
      clear ho hu hr1 hE1 hp2 hz hst
      go_wp2_with fail
      refine HP.out.mono ?_
      rintro e w2 ⟨v2, D2, rfl, ho2, hu2⟩
      have HN := Lib.hid (show _ ∧ _ from ⟨ho2, HU.out.trans (hu2.mono (by simp) (fun _ hb => .inl hb))⟩)
      clear ho2 hu2 HU HP
      go_wp2_with fail
      go_roundg (xs.length - (p + 1))
      case rel => exact ⟨p + 1, D2, by omega, rfl, by go_num, HN.out.1, HN.out.2⟩
      case measure => omega
    · obtain rfl : p = xs.length := by omega
      rw [List.take_length] at ho
      have HO := Lib.hid (show _ ∧ _ from ⟨ho, hu⟩)
      clear ho hu
      go_wp2_with fail
      go_ret
      exact ⟨_, D, rfl, HO.out.1, HO.out.2⟩
end Go.Proofs.Ytebmmbommkpjaaa

/-
  Decisions in bytes, in plain words: what is written, what is read; what is written is read as it was.
-/
namespace Go.Proofs.Ytebmmbommkpjaaa
open Go.RowKit Go.Av

/-- An entry's bytes. -/
def entB (id : Int) (x : EntS) : Bs := packI id ++ (numsS x.shards ++ (x.votes.flatMap packI ++ (packI x.dec ++ numsS x.owes)))
def entK (S : CoS) (id : Int) : Bs := match lookS id S with | some x => entB id x | none => []
/-- All bytes. -/
def bytesS (S : CoS) : Bs := packI S.length ++ (keysS S).flatMap (entK S)

def readR (r : Rd) : List Int × Rd := cntN 3 (cntR 4 r).1.toNat (cntR 4 r).2

/-- What was read. -/
def entR (r : Rd) : (Int × EntS) × Rd :=
  let a := i64R r
  let s := readR a.2
  let v := cntN 2 s.1.length s.2
  let d := cntR 2 v.2
  let o := readR d.2
  ((a.1, ⟨s.1, v.1, d.1, o.1⟩), o.2)
def againstS (l : List Int) : Nat := l.countP fun v => v == 2
/-- Can calls have made it? -/
def goodS (x : EntS) : Bool :=
  if x.shards.length = 0 ∨ risS x.shards = false ∨ risS x.owes = false ∨ (x.owes.any fun s => !(x.shards.contains s)) = true ∨ 1 < againstS x.votes then false
  else if x.dec = 0 then (decide (againstS x.votes = 0) && !wholeS x.votes && decide (x.owes.length = x.shards.length))
  else if x.dec = 1 then wholeS x.votes else !wholeS x.votes
def getN : Nat → Int → Rd → CoS → Option (CoS × Rd)
  | 0, _, r, S => some (S, r)
  | n + 1, last, r, S => if (entR r).2.2 = true ∨ (entR r).1.1 ≤ last ∨ goodS (entR r).1.2 = false then none else getN n (entR r).1.1 (entR r).2 (S ++ [(entR r).1])
def getS (b : Bs) : Option CoS :=
  match getN (cntR 1048576 (b, false)).1.toNat 0 (cntR 1048576 (b, false)).2 [] with
  | none => none
  | some (S, r) => if r.2 = false ∧ r.1 = [] then some S else none

/-! ### what was written, read -/
theorem readR_nums (l : List Int) (x : Bs) (bad : Bool) (hl : l.length ≤ 4) (h : ∀ v ∈ l, 0 ≤ v ∧ v ≤ 3) : readR (numsS l ++ x, bad) = (l, x, bad) := by
  unfold readR numsS
  rw [List.append_assoc, cntR_pack 4 _ _ bad (by omega) (by omega) (by decide)]
  simp only [Int.toNat_natCast]
  exact cntN_pack 3 (by decide) l x bad h

/-- What calls keep of each entry. -/
structure InvE (x : EntS) : Prop where
  ne : x.shards ≠ []
  ris : risS x.shards = true
  sub : x.owes.Sublist x.shards
  len : x.votes.length = x.shards.length
  votes : ∀ v ∈ x.votes, 0 ≤ v ∧ v ≤ 2
  one : againstS x.votes ≤ 1
  how : (x.dec = 0 ∧ againstS x.votes = 0 ∧ wholeS x.votes = false ∧ x.owes = x.shards) ∨ (x.dec = 1 ∧ wholeS x.votes = true) ∨ (x.dec = 2 ∧ wholeS x.votes = false)

theorem risF_all : ∀ (l : List Int) (last : Int), risF last l = true → ∀ s ∈ l, last < s ∧ s < 4
  | [], _, _, s, hs => by cases hs
  | x :: r, last, h, s, hs => by
    rw [risF_cons] at h
    simp only [Bool.and_eq_true, Bool.not_eq_true', Bool.or_eq_false_iff, decide_eq_false_iff_not] at h
    rcases List.mem_cons.1 hs with rfl | hs
    · omega
    · have := risF_all r x h.2 s hs; omega
theorem risS_all {l : List Int} (h : risS l = true) : ∀ s ∈ l, 0 ≤ s ∧ s ≤ 3 := fun s hs => by
  have := risF_all l (-1) h s hs
  omega
theorem risF_mono : ∀ (l : List Int) {a b : Int}, a ≤ b → risF b l = true → risF a l = true
  | [], _, _, _, _ => rfl
  | x :: r, a, b, hab, h => by
    rw [risF_cons] at h ⊢
    simp only [Bool.and_eq_true, Bool.not_eq_true', Bool.or_eq_false_iff, decide_eq_false_iff_not] at h ⊢
    exact ⟨⟨by omega, h.1.2⟩, h.2⟩
theorem risF_sub {l l' : List Int} (h : l.Sublist l') : ∀ (last : Int), risF last l' = true → risF last l = true := by
  induction h with
  | slnil => exact fun _ h => h
  | cons a _ ih =>
    intro last h
    rw [risF_cons] at h
    simp only [Bool.and_eq_true, Bool.not_eq_true', Bool.or_eq_false_iff, decide_eq_false_iff_not] at h
    exact risF_mono _ (by omega) (ih _ h.2)
  | cons_cons a _ ih =>
    intro last h
    rw [risF_cons] at h ⊢
    simp only [Bool.and_eq_true] at h ⊢
    exact ⟨h.1, ih _ h.2⟩

theorem InvE.owes {x : EntS} (h : InvE x) : risS x.owes = true := risF_sub h.sub _ h.ris
theorem InvE.good {x : EntS} (h : InvE x) : goodS x = true := by
  have h0 : ¬ x.shards.length = 0 := fun e => h.ne (List.length_eq_zero_iff.1 e)
  have h1 : (x.owes.any fun s => !(x.shards.contains s)) = false := List.any_eq_false.2 fun s hs => by
    have := h.sub.subset hs
    simp [this]
  unfold goodS
  have h1' := h.one
  rw [if_neg (by rw [h.ris, h.owes, h1]; simp only [h0, false_or, Bool.true_eq_false, Bool.false_eq_true]; omega)]
  rcases h.how with ⟨e0, e1, e2, e3⟩ | ⟨e0, e1⟩ | ⟨e0, e1⟩
  · rw [if_pos e0, e1, e2, e3]; simp
  · rw [if_neg (by omega), if_pos e0, e1]
  · rw [if_neg (by omega), if_neg (by omega), e1]; rfl
theorem InvE.read {x : EntS} (h : InvE x) (id : Int) (t : Bs) (bad : Bool) (h1 : 1 ≤ id) (h2 : id ≤ 9223372036854775807) : entR (entB id x ++ t, bad) = ((id, x), t, bad) := by
  have hl := risS_len h.ris
  have ho := risS_len h.owes
  have hd : 0 ≤ x.dec ∧ x.dec ≤ 2 := by rcases h.how with h | h | h <;> omega
  unfold entR entB
  simp only [List.append_assoc]
  rw [i64R_pack id _ bad (by omega) h2]
  simp only
  rw [readR_nums x.shards _ bad hl (risS_all h.ris)]
  simp only
  rw [← h.len, cntN_pack 2 (by decide) x.votes _ bad h.votes]
  simp only
  rw [cntR_pack 2 x.dec _ bad hd.1 hd.2 (by decide)]
  simp only
  rw [readR_nums x.owes _ bad ho (risS_all h.owes)]

/-- What calls keep of all. -/
def InvC (S : CoS) : Prop := (S.map (·.1)).Nodup ∧ ∀ e ∈ S, InvE e.2 ∧ 1 ≤ e.1 ∧ e.1 ≤ 9223372036854775807
theorem look_mem {S : CoS} {id : Int} {x : EntS} (h : lookS id S = some x) : (id, x) ∈ S := by
  obtain ⟨S1, S2, rfl, _⟩ := look_some h
  simp
theorem mem_look {S : CoS} (hn : (S.map (·.1)).Nodup) {id : Int} {x : EntS} (h : (id, x) ∈ S) : lookS id S = some x := by
  cases hl : lookS id S with
  | none => exact absurd rfl (look_none hl _ h)
  | some y =>
    have := nodup_inj hn h (look_mem hl) rfl
    cases this
    rfl

theorem getN_put (S : CoS) (hI : InvC S) : ∀ (ks : List Int) (last : Int) (t : Bs) (T : CoS), 0 ≤ last → (last :: ks).Pairwise (· < ·) → (∀ k ∈ ks, k ∈ S.map (·.1)) →
    getN ks.length last (ks.flatMap (entK S) ++ t, false) T = some (T ++ ks.filterMap (fun k => (lookS k S).map fun x => (k, x)), t, false)
  | [], last, t, T, _, _, _ => by simp [getN]
  | k :: ks, last, t, T, h0, hp, hk => by
    obtain ⟨e, he, hek⟩ := List.mem_map.1 (hk k (by simp))
    obtain ⟨k', x⟩ := e
    simp only at hek
    subst hek
    have hl := mem_look hI.1 he
    obtain ⟨hx, h1, h2⟩ := hI.2 _ he
    have hlt : last < k' := (List.pairwise_cons.1 hp).1 k' (by simp)
    have hK : entK S k' = entB k' x := by unfold entK; rw [hl]
    rw [List.length_cons, getN, List.flatMap_cons, hK, List.append_assoc, hx.read k' _ false h1 h2]
    simp only
    rw [if_neg (by rw [hx.good]; simp; omega), getN_put S hI ks k' t _ (by omega) (List.pairwise_cons.1 hp).2 (fun k hk' => hk k (by simp [hk'])), List.filterMap_cons, hl]
    simp

/-- The same, by rising ids. -/
def sortS (S : CoS) : CoS := (keysS S).filterMap fun k => (lookS k S).map fun x => (k, x)
theorem keys_perm (S : CoS) : (keysS S).Perm (S.map (·.1)) := List.mergeSort_perm _ _
theorem keys_sorted (S : CoS) (hn : (S.map (·.1)).Nodup) : (keysS S).Pairwise (· < ·) := by
  have h1 : (keysS S).Pairwise (fun a b => decide (a ≤ b) = true) := List.pairwise_mergeSort (fun a b c h1 h2 => by simp at *; omega) (fun a b => by simp; omega) _
  have h2 : (keysS S).Pairwise (· ≠ ·) := (keys_perm S).nodup_iff.2 hn
  exact (h1.and h2).imp (fun {a b} h => by have := h.1; have := h.2; simp at *; omega)
theorem getS_put {S : CoS} (hI : InvC S) (hn : S.length ≤ 1048576) : getS (bytesS S) = some (sortS S) := by
  have hk : (keysS S).length = S.length := keys_len S
  unfold getS bytesS
  rw [cntR_pack 1048576 _ _ false (by omega) (by omega) (by decide)]
  simp only [Int.toNat_natCast]
  have hm : ∀ k ∈ keysS S, k ∈ S.map (·.1) := fun k hk => (keys_perm S).mem_iff.1 hk
  have := getN_put S hI (keysS S) 0 [] [] (Int.le_refl _) (List.pairwise_cons.2 ⟨fun k hk => by
    obtain ⟨e, he, rfl⟩ := List.mem_map.1 (hm k hk)
    have := (hI.2 e he).2
    omega, keys_sorted S hI.1⟩) hm
  rw [hk, List.append_nil] at this
  rw [this]
  simp [sortS]
theorem sort_look {S : CoS} (hI : InvC S) (id : Int) : lookS id (sortS S) = lookS id S := by
  have hk : ∀ e ∈ sortS S, lookS e.1 S = some e.2 := fun e he => by
    obtain ⟨k, _, hk⟩ := List.mem_filterMap.1 he
    cases hl : lookS k S with
    | none => rw [hl] at hk; cases hk
    | some x => rw [hl] at hk; cases hk; exact hl
  cases hl : lookS id (sortS S) with
  | some x => exact (hk _ (look_mem hl)).symm
  | none =>
    cases hl2 : lookS id S with
    | none => rfl
    | some x =>
      refine absurd rfl (look_none hl (id, x) (List.mem_filterMap.2 ⟨id, (keys_perm S).mem_iff.2 (List.mem_map.2 ⟨_, look_mem hl2, rfl⟩), by rw [hl2]; rfl⟩))
theorem filterMap_same {α β : Type} {f g : α → Option β} : ∀ {l : List α}, (∀ x ∈ l, f x = g x) → l.filterMap f = l.filterMap g
  | [], _ => rfl
  | x :: l, h => by rw [List.filterMap_cons, List.filterMap_cons, h x (by simp), filterMap_same (fun y hy => h y (by simp [hy]))]
theorem sort_map {S : CoS} (hI : InvC S) : (sortS S).map (·.1) = keysS S := by
  unfold sortS
  rw [List.map_filterMap]
  have : (keysS S).filterMap (fun k => ((lookS k S).map fun x => (k, x)).map (·.1)) = (keysS S).filterMap some := by
    refine filterMap_same fun k hk => ?_
    obtain ⟨x, hx⟩ := keys_look hk
    rw [hx]; rfl
  rw [this, List.filterMap_some]
theorem sort_inv {S : CoS} (hI : InvC S) : InvC (sortS S) := by
  refine ⟨by rw [sort_map hI]; exact (keys_perm S).nodup_iff.2 hI.1, fun e he => ?_⟩
  obtain ⟨k, _, hk⟩ := List.mem_filterMap.1 he
  cases hl : lookS k S with
  | none => rw [hl] at hk; cases hk
  | some x => rw [hl] at hk; cases hk; exact hI.2 _ (look_mem hl)
end Go.Proofs.Ytebmmbommkpjaaa

/-
  Decisions in plain words: what calls keep of all; two that are alike stay so.
-/
namespace Go.Proofs.Ytebmmbommkpjaaa
open Go.RowKit Go.Av

theorem put_ids (id : Int) (φ : EntS → EntS) (S : CoS) : (putS id φ S).map (·.1) = S.map (·.1) := by
  unfold putS
  rw [List.map_map]
  refine List.map_congr_left fun e _ => ?_
  simp only [Function.comp]
  split <;> rfl
theorem put_inv {id : Int} {φ : EntS → EntS} {S : CoS} (h : InvC S) (hφ : ∀ x, lookS id S = some x → InvE (φ x)) : InvC (putS id φ S) := by
  refine ⟨by rw [put_ids]; exact h.1, fun e he => ?_⟩
  unfold putS at he
  obtain ⟨e0, he0, rfl⟩ := List.mem_map.1 he
  by_cases hid : e0.1 = id
  · rw [if_pos hid]
    exact ⟨hφ _ (mem_look h.1 (by rw [← hid]; exact he0)), (h.2 e0 he0).2⟩
  · rw [if_neg hid]
    exact h.2 e0 he0
theorem new_inv {l : List Int} (h0 : ¬ l.length = 0) (hr : risS l = true) : InvE (newE l) where
  ne := by simp only [newE]; intro h; rw [h] at h0; exact h0 rfl
  ris := hr
  sub := List.Sublist.refl _
  len := by simp [newE]
  votes := by
    intro v hv
    simp only [newE] at hv
    rw [(List.mem_replicate.1 hv).2]
    omega
  one := by
    simp only [newE, againstS]
    rw [List.countP_eq_zero.2 (by intro v hv; rw [(List.mem_replicate.1 hv).2]; decide)]
    omega
  how := by
    refine .inl ⟨rfl, ?_, ?_, rfl⟩
    · simp only [newE, againstS]
      exact List.countP_eq_zero.2 (by intro v hv; rw [(List.mem_replicate.1 hv).2]; decide)
    · cases l with
      | nil => exact absurd rfl h0
      | cons x r => rfl
theorem whole_two {l : List Int} (h : (2 : Int) ∈ l) : wholeS l = false := by
  unfold wholeS
  exact List.all_eq_false.2 ⟨2, h, by decide⟩
theorem vote_inv {x : EntS} (h : InvE x) {i : Nat} (hi : i < x.votes.length) (ok : Bool) : InvE (voteF i ok x) := by
  unfold voteF
  by_cases hc : x.votes.getD i 0 ≠ 0 ∨ x.dec ≠ 0
  · rw [if_pos hc]; exact h
  rw [if_neg hc]
  simp only [not_or, Decidable.not_not] at hc
  have how : againstS x.votes = 0 ∧ x.owes = x.shards := by
    rcases h.how with h | h | h
    · exact ⟨h.2.1, h.2.2.2⟩
    · omega
    · omega
  have hcnt : ∀ v : Int, againstS (x.votes.set i v) = if v == 2 then 1 else 0 := fun v => by
    have h0 := how.1
    unfold againstS at h0 ⊢
    have hv : (x.votes[i] == 2) = false := by
      have := List.countP_eq_zero.1 h0 _ (List.getElem_mem hi)
      simpa using this
    rw [List.countP_set hi, h0]
    simp [hv]
  have hmem : ∀ v : Int, v ∈ x.votes.set i v := fun v => List.mem_iff_getElem.2 ⟨i, by simpa using hi, by simp⟩
  refine ⟨h.ne, h.ris, h.sub, by simpa using h.len, ?_, ?_, ?_⟩
  · intro v hv
    rcases List.mem_or_eq_of_mem_set hv with hv | hv
    · exact h.votes v hv
    · rw [hv]; split <;> omega
  · show againstS (x.votes.set i _) ≤ 1
    rw [hcnt]; cases ok <;> decide
  · cases ok with
    | false =>
      refine .inr (.inr ⟨rfl, ?_⟩)
      exact whole_two (hmem 2)
    | true =>
      simp only [if_true]
      cases hw : wholeS (x.votes.set i 1) with
      | true => exact .inr (.inl ⟨rfl, rfl⟩)
      | false => exact .inl ⟨rfl, by rw [hcnt]; rfl, rfl, how.2⟩
theorem done_inv {x : EntS} (h : InvE x) (k : Int) (hd : ¬ x.dec = 0) : InvE (doneF k x) := by
  refine ⟨h.ne, h.ris, (List.filter_sublist).trans h.sub, h.len, h.votes, h.one, ?_⟩
  rcases h.how with h | h | h
  · exact absurd h.1 hd
  · exact .inr (.inl h)
  · exact .inr (.inr h)
theorem abort_inv {x : EntS} (h : InvE x) : InvE (abortF x) := by
  unfold abortF
  split
  · rename_i hd
    refine ⟨h.ne, h.ris, h.sub, h.len, h.votes, h.one, .inr (.inr ⟨rfl, ?_⟩)⟩
    rcases h.how with h | h | h
    · exact h.2.2.1
    · omega
    · omega
  · exact h
theorem step_inv {S : CoS} (h : InvC S) (op id : Int) (l : List Int) (sh : Int) (yes : Bool) (hid : id ≤ 9223372036854775807) : InvC (stepS S op id l sh yes) := by
  unfold stepS
  split
  · unfold beginS
    split
    · exact h
    · rename_i hc
      simp only [not_or, Bool.not_eq_false] at hc
      split
      · exact h
      · rename_i hl
        refine ⟨?_, fun e he => ?_⟩
        · rw [List.map_append, List.nodup_append]
          refine ⟨h.1, by simp, ?_⟩
          intro a ha b hb he
          simp only [List.map_cons, List.map_nil, List.mem_singleton] at hb
          obtain ⟨q, hq, rfl⟩ := List.mem_map.1 ha
          exact look_none hl q hq (he.trans hb)
        · rcases List.mem_append.1 he with he | he
          · exact h.2 e he
          · rw [List.mem_singleton.1 he]
            exact ⟨new_inv hc.2.1 hc.2.2, by simp only; omega, hid⟩
  split
  · unfold voteS
    split
    · exact h
    · rename_i x hx
      split
      · exact h
      · rename_i i hi
        refine put_inv h fun y hy => ?_
        rw [hx] at hy
        cases hy
        have hI : InvE x := (h.2 _ (look_mem hx)).1
        exact vote_inv hI (by have h1 : i < x.shards.length := idxF_lt hi; have h2 : x.votes.length = x.shards.length := hI.len; omega) yes
  split
  · unfold doneS
    split
    · exact h
    · rename_i x hx
      split
      · exact h
      · split
        · exact h
        · rename_i hd
          refine put_inv h fun y hy => ?_
          rw [hx] at hy
          cases hy
          exact done_inv (h.2 _ (look_mem hx)).1 _ hd
  split
  · unfold abortS
    split
    · exact h
    · exact put_inv h fun y hy => abort_inv (h.2 _ (look_mem hy)).1
  exact h
theorem put_len (id : Int) (φ : EntS → EntS) (S : CoS) : (putS id φ S).length = S.length := by unfold putS; rw [List.length_map]
theorem step_len (S : CoS) (op id : Int) (l : List Int) (sh : Int) (yes : Bool) : (stepS S op id l sh yes).length ≤ S.length + 1 := by
  unfold stepS
  split
  · unfold beginS
    split
    · simp
    · split <;> simp
  split
  · unfold voteS
    split
    · simp
    · split <;> simp [put_len]
  split
  · unfold doneS
    split
    · simp
    · split
      · simp
      · split <;> simp [put_len]
  split
  · unfold abortS
    split <;> simp [put_len]
  simp
theorem step_all {S T : CoS} (h : ∀ z, lookS z S = lookS z T) (op id : Int) (l : List Int) (sh : Int) (yes : Bool) (z : Int) : lookS z (stepS S op id l sh yes) = lookS z (stepS T op id l sh yes) := by
  by_cases hz : id = z
  · subst hz
    by_cases hop : op = 0
    · unfold stepS
      rw [if_pos hop, if_pos hop]
      unfold beginS
      split
      · exact h id
      · rw [← h id]
        cases hx : lookS id S with
        | some x => exact h id
        | none =>
          dsimp only
          rw [look_app, look_app, ← h id, hx]
    · exact step_alike S T op id l sh yes (h id) hop
  · rw [step_other S op id z l sh yes hz, step_other T op id z l sh yes hz]
    exact h z
theorem mem_ids {S : CoS} (id : Int) : id ∈ S.map (·.1) ↔ ∃ x, lookS id S = some x := by
  constructor
  · intro h
    exact keys_look ((keys_perm S).mem_iff.2 h)
  · rintro ⟨x, hx⟩
    exact List.mem_map.2 ⟨_, look_mem hx, rfl⟩
theorem keys_alike {S T : CoS} (hS : InvC S) (hT : InvC T) (h : ∀ z, lookS z S = lookS z T) : keysS S = keysS T := by
  have hp : (S.map (·.1)).Perm (T.map (·.1)) := (List.perm_ext_iff_of_nodup hS.1 hT.1).2 fun a => by rw [mem_ids, mem_ids, h a]
  unfold keysS
  exact mergeSort_of_perm_i hp
theorem bytes_alike {S T : CoS} (hS : InvC S) (hT : InvC T) (h : ∀ z, lookS z S = lookS z T) : bytesS S = bytesS T := by
  have hk := keys_alike hS hT h
  have hl : S.length = T.length := by rw [← keys_len S, ← keys_len T, hk]
  unfold bytesS
  rw [hk, hl]
  congr 1
  have : entK S = entK T := by funext z; unfold entK; rw [h z]
  rw [this]
theorem inv_nil : InvC [] := ⟨by simp, by simp⟩
theorem sort_len {S : CoS} (hI : InvC S) : (sortS S).length = S.length := by
  rw [← keys_len S, ← sort_map hI, List.length_map]
end Go.Proofs.Ytebmmbommkpjaaa

/-
  Rows of elements of K cells each, in plain words.
-/
namespace Go.Av
open Go.RowKit
section
variable {α : Type} {f : α → List Value} {K : Nat}
theorem flatG_len (hf : ∀ x, (f x).length = K) (l : List α) : (l.flatMap f).length = l.length * K := by
  induction l with
  | nil => simp
  | cons e l ih => rw [List.flatMap_cons, List.length_append, ih, hf, List.length_cons, Nat.add_mul]; omega
theorem flatG_at (hf : ∀ x, (f x).length = K) : ∀ (l : List α) {p : Nat} (hp : p < l.length) {j : Nat}, j < K → (l.flatMap f)[p * K + j]? = (f l[p])[j]?
  | [], p, hp, _, _ => by simp at hp
  | e :: l, 0, _, j, hj => by
    rw [List.flatMap_cons, Nat.zero_mul, Nat.zero_add, List.getElem?_append_left (by rw [hf]; exact hj)]
    rfl
  | e :: l, p + 1, hp, j, hj => by
    have hp' : p < l.length := by simpa using hp
    rw [List.flatMap_cons, List.getElem?_append_right (by rw [hf, Nat.add_mul]; omega), hf, show (p + 1) * K + j - K = p * K + j by rw [Nat.add_mul]; omega, flatG_at hf l hp' hj]
    rfl
theorem flatG_take (hf : ∀ x, (f x).length = K) (hK : 0 < K) : ∀ (l : List α) (p : Nat), (l.flatMap f).take (p * K) = (l.take p).flatMap f
  | [], p => by simp
  | e :: l, 0 => by simp
  | e :: l, p + 1 => by
    rw [List.flatMap_cons, List.take_succ_cons, List.flatMap_cons, ← flatG_take hf hK l p, List.take_append, hf, List.take_of_length_le (by rw [hf, Nat.add_mul]; omega), show (p + 1) * K - K = p * K by rw [Nat.add_mul]; omega]
theorem flatG_drop (hf : ∀ x, (f x).length = K) (hK : 0 < K) : ∀ (l : List α) (p : Nat), (l.flatMap f).drop (p * K) = (l.drop p).flatMap f
  | [], p => by simp
  | e :: l, 0 => by simp
  | e :: l, p + 1 => by
    rw [List.flatMap_cons, List.drop_succ_cons, ← flatG_drop hf hK l p, List.drop_append, hf, List.drop_of_length_le (by rw [hf, Nat.add_mul]; omega), List.nil_append, show (p + 1) * K - K = p * K by rw [Nat.add_mul]; omega]
theorem flatG_set (hf : ∀ x, (f x).length = K) : ∀ (l : List α) {p : Nat} (hp : p < l.length) {j : Nat} (x' : α) (v : Value), j < K → f x' = (f l[p]).set j v → (l.set p x').flatMap f = (l.flatMap f).set (p * K + j) v
  | [], p, hp, _, _, _, _, _ => by simp at hp
  | e :: l, 0, _, j, x', v, hj, he => by
    rw [List.set_cons_zero, List.flatMap_cons, List.flatMap_cons, Nat.zero_mul, Nat.zero_add, List.set_append, if_pos (by rw [hf]; exact hj), he]
    rfl
  | e :: l, p + 1, hp, j, x', v, hj, he => by
    have hp' : p < l.length := by simpa using hp
    rw [List.set_cons_succ, List.flatMap_cons, List.flatMap_cons, List.set_append, if_neg (by rw [hf, Nat.add_mul]; omega), hf, show (p + 1) * K + j - K = p * K + j by rw [Nat.add_mul]; omega, flatG_set hf l hp' x' v hj he]
theorem flatG_one (h1 : ∀ x, ∀ u ∈ f x, u.oneCell' = true) (l : List α) : ∀ u ∈ l.flatMap f, u.oneCell' = true := by
  intro u hu
  obtain ⟨e, -, he⟩ := List.mem_flatMap.1 hu
  exact h1 e u he
end
theorem strK_eq (a b : ByteArray) : (a.toList == b.toList) = (a.data.toList == b.data.toList) := by rw [Lib.toList_data, Lib.toList_data]
theorem ownCellK {w : World} {size : Nat} {a : Option Addr} {n c : Nat} {xs : List Value} {D : List Nat} (h : OwnRow w size (.slice a n c) xs D) {i : Nat} {x : Value} (hx : xs[i]? = some x) :
    ∃ y : Addr, a = some y ∧ y.spot = none ∧ w.cell? (y.add i) = some x := by
  obtain ⟨a', n', c', hv, hl, hn, hc, ha, hr⟩ := h
  cases hv
  rcases hr with ⟨hc0, _⟩ | ⟨g, off, cur, T, h1, h2, h3, h4, h5⟩
  · have : i < xs.length := (List.getElem?_eq_some_iff.1 hx).1
    rw [hl] at this
    have : n = 0 := by omega
    subst this
    omega
  · refine ⟨⟨g, off, none⟩, h1, rfl, ?_⟩
    rw [Addr.add_lit, cell_of_row w g (off + i) cur T _ h3]
    rw [← h5, List.getElem?_take] at hx
    split at hx
    · rw [List.getElem?_drop] at hx; simpa using hx
    · cases hx
theorem Sep.rowSetK {w0 w : World} {R : List Thing} {rows : List (Value × Bs)} {size : Nat} {y : Addr} {n c : Nat} {xs : List Value} (h : Sep w0 w (ThRow size (.slice (some y) n c) xs :: R) rows) {i : Nat} (hi : i < n * size) (v : Value) :
    w.frozen? (y.add i) = false ∧ y.spot = none ∧ (∃ u, w.cell? (y.add i) = some u) ∧ Sep w0 (w.setCell (y.add i) v) (ThRow size (.slice (some y) n c) (xs.set i v) :: R) rows := by
  obtain ⟨D, hP, _, back⟩ := h.use
  obtain ⟨a', n', c', hv, hl, hn, hc, ha, hr⟩ := hP
  cases hv
  have hnc : n * size ≤ c * size := Nat.mul_le_mul_right _ hn
  rcases hr with ⟨hc0, _⟩ | ⟨g, off, cur, T, h1, h2, h3, h4, h5⟩
  · subst hc0
    obtain rfl : n = 0 := by omega
    omega
  · cases h1
    subst h2
    rw [Addr.add_lit]
    have hsz : off + i < cur.size := by omega
    refine ⟨frz_of h3 _, rfl, ⟨cur[off + i], by rw [cell_of_row w g (off + i) cur T _ h3]; exact Array.getElem?_eq_getElem hsz⟩, ?_⟩
    refine back _ [g] (ThRow size (.slice (some ⟨g, off, none⟩) n c) (xs.set i v)) (Upd.set1 _ _ _ _ (by simp)) ⟨_, n, c, rfl, by simpa using hl, hn, hc, ha, .inr ⟨g, off, _, T, rfl, rfl, heap_setCell_same w g (off + i) cur T v h3, by simpa using h4, ?_⟩⟩
    rw [← h5, Array.toList_setIfInBounds]
    apply List.ext_getElem?
    intro k
    simp only [List.getElem?_take, List.getElem?_drop, List.getElem?_set, List.length_take, List.length_drop, Array.length_toList, Array.getElem?_toList]
    have hm : i < min (n * size) (cur.size - off) := by omega
    by_cases hki : i = k
    · subst hki
      simp [hi, hsz, hm]
    · have : ¬ off + i = off + k := by omega
      simp [hki]
theorem spotK_of {w : World} {x : Addr} {v : Value} (h : w.cell? x = some v) : x.spot = none := by
  cases hs : x.spot with
  | none => rfl
  | some _ =>
    unfold World.cell? at h
    split at h <;> simp [hs] at h
theorem addK_field {w : World} {x : Addr} {k : Nat} {v : Value} (h : w.cell? (x.add k) = some v) (j : Nat) : x.add (k + j) = ⟨(x.add k).block, (x.add k).off + j, none⟩ := by
  have h1 := spotK_of h
  rw [← Go.Deep.add_add]
  generalize x.add k = y at h1 ⊢
  obtain ⟨b, o, sp⟩ := y
  simp only at h1
  subst h1
  exact Addr.add_lit b o j
theorem ReadRow.takeK {w : World} {size : Nat} {a : Option Addr} {n c : Nat} {xs : List Value} {D : List Nat} (h : ReadRow w size (.slice a n c) xs D) {k : Nat} (hk : k ≤ n) : ReadRow w size (.slice a k c) (xs.take (k * size)) D := by
  obtain ⟨a', n', c', hv, hl, hn, hc, ha, hr⟩ := h
  cases hv
  have hle : k * size ≤ n * size := Nat.mul_le_mul_right _ hk
  refine ⟨a, k, c, rfl, by rw [List.length_take, hl]; omega, by omega, hc, ha, ?_⟩
  rcases hr with ⟨rfl, h2⟩ | ⟨g, off, h1, h2, h3, h4⟩
  · exact .inl ⟨by simp, h2⟩
  · refine .inr ⟨g, off, h1, h2, h3, fun i x hx => h4 i x ?_⟩
    rw [List.getElem?_take] at hx
    split at hx
    · exact hx
    · cases hx
/-- A new row of one element. -/
theorem one_new (w : World) (K : Nat) (hK : 0 < K) (cs : Array Value) (hc : cs.size = K) (T : TypeId) : ReadRow (w.alloc (.cells cs T (0, 0))) K (.slice (some ⟨w.heap.size, 0, none⟩) 1 1) cs.toList [w.heap.size] :=
  ⟨_, 1, 1, rfl, by simp [hc], Nat.le_refl _, by decide, by simp, .inr ⟨w.heap.size, 0, rfl, rfl, by simp, fun i x hx => by
    have hh : (w.alloc (.cells cs T (0, 0))).heap[w.heap.size]? = some (.cells cs T (0, 0)) := heap_alloc_new w _
    rw [cell_of_row _ _ _ _ _ _ hh]
    simpa using hx⟩⟩
end Go.Av

/-
  The tail of a slice that is read, elements of any size.
-/
namespace Go.Proofs.Ytebmmbommkpjaaa
open Go.RowKit Go.Av

theorem slice_runG {P : Program} {t e : TypeId} {i : TypeInfo} (ht : P.underlying t = some (.slice e)) (hi : P.info? e = some i) (g off n c lo : Nat) (h1 : lo ≤ n) (W : World) :
    (Instr.slice t (.slice (some ⟨g, off, none⟩) n c) (some (.int .i64 (lo : Int))) none none).run P W = .ok (.slice (some ⟨g, if c = lo then off else off + lo * i.size, none⟩) (n - lo) (c - lo)) W := by
  simp [Instr.slice, run_underlying ht, Instr.sliceBounds, Instr.sliceBound, asIntOf, h1, sizeOf, typeInfo, hi, Result.andThen, Addr.add]
  split
  · rfl
  · split
    · simp_all
    · rfl
theorem slice_fromG {P : Program} {t e : TypeId} {i : TypeInfo} (ht : P.underlying t = some (.slice e)) (hi : P.info? e = some i) (hz : 0 < i.size) {w : World} {a : Option Addr} {n c : Nat} {xs : List Value} {E : List Nat} (h : ReadRow w i.size (.slice a n c) xs E) (lo : Nat) (h1 : lo ≤ n) :
    ∃ a', (∀ W, (Instr.slice t (.slice a n c) (some (.int .i64 (lo : Int))) none none).run P W = .ok (.slice a' (n - lo) (c - lo)) W) ∧
      ∃ E', ReadRow w i.size (.slice a' (n - lo) (c - lo)) (xs.drop (lo * i.size)) E' ∧ ∀ b ∈ E', b ∈ E := by
  obtain ⟨a', n', c', hv, hl, hn, hc, ha, hr⟩ := h
  cases hv
  have hle : lo * i.size ≤ n * i.size := Nat.mul_le_mul_right _ h1
  have hsub : (n - lo) * i.size = n * i.size - lo * i.size := Nat.sub_mul _ _ _
  cases a with
  | none =>
    have := ha rfl
    subst this
    obtain rfl : n = 0 := by omega
    obtain rfl : lo = 0 := by omega
    have : xs = [] := List.length_eq_zero_iff.1 (by rw [hl]; simp)
    subst this
    exact ⟨none, fun W => (slice_nil ht hi W).2, [], ⟨none, 0, 0, rfl, by simp, Nat.le_refl _, by decide, fun _ => rfl, .inl ⟨by simp, rfl⟩⟩, by simp⟩
  | some x =>
    by_cases hn0 : n = 0
    · subst hn0
      obtain rfl : lo = 0 := by omega
      have : xs = [] := List.length_eq_zero_iff.1 (by rw [hl]; simp)
      subst this
      exact ⟨some x, fun W => by simp [Instr.slice, run_underlying ht, Instr.sliceBounds, Instr.sliceBound, asIntOf, sizeOf, typeInfo, hi, Result.andThen, Addr.add], [], ⟨some x, 0, c, rfl, by simp, Nat.zero_le _, hc, (fun h => by cases h), .inl ⟨by simp, rfl⟩⟩, by simp⟩
    · rcases hr with ⟨h2, _⟩ | ⟨g, off, h2, h3, h4, h5⟩
      · exfalso
        rw [h2] at hl
        have : 0 < n * i.size := Nat.mul_pos (by omega) hz
        simp at hl
        omega
      · cases h2
        refine ⟨_, fun W => slice_runG ht hi g off n c lo h1 W, ?_⟩
        by_cases hlo : n - lo = 0
        · have hd : xs.drop (lo * i.size) = [] := by
            rw [List.drop_eq_nil_iff, hl, show lo = n by omega]
            exact Nat.le_refl _
          rw [hd]
          exact ⟨[], ⟨_, n - lo, _, rfl, by rw [hlo]; simp, by omega, by omega, (fun h => by cases h), .inl ⟨rfl, rfl⟩⟩, by simp⟩
        · rw [if_neg (by omega)]
          refine ⟨E, ⟨_, _, _, rfl, by rw [List.length_drop, hl, hsub], by omega, by omega, (fun h => by cases h), .inr ⟨g, off + lo * i.size, rfl, h3, h4, fun j x hx => ?_⟩⟩, fun _ h => h⟩
          rw [List.getElem?_drop] at hx
          rw [show off + lo * i.size + j = off + (lo * i.size + j) by omega]
          exact h5 _ _ hx
end Go.Proofs.Ytebmmbommkpjaaa

/-
  Regions whose order is drawn: operations that do not hang on each other, in whatever order, by what is true in between.
-/
namespace Go.Av
section
variable {P : Program} {ops : Array Oper} {Q : Exit → Act → World → Prop} {md : Region.Mode} {S : World → Prop}
/-- All orders of the next n operations end in 'fin'; each that comes up meets 'cond'. -/
def okTree (md : Region.Mode) (ops : Array Oper) (cond : Nat → Array Bool → Bool) (fin : Array Bool) : Nat → Array Bool → Bool
  | 0, l => l == fin
  | n + 1, l => !(Region.ready md ops l).isEmpty && (Region.ready md ops l).all fun i => cond i l && okTree md ops cond fin n (l.setIfInBounds i true)
/-- G says what is true in between. -/
theorem wpAnyM_inv {N k : Nat} (cond : Nat → Array Bool → Bool) (fin : Array Bool) (G : Array Bool → Act → World → Prop)
    (step : ∀ l a w i, cond i l = true → G l a w → ∃ o, ops[i]? = some o ∧ ∀ K : Act → World → Prop, (∀ a' w', S w' → G (l.setIfInBounds i true) a' w' → K a' w') → wpList P ops (Exit.then K Q) [o] a w)
    (last : ∀ a w, G fin a w → wpAnyM P md ops Q S N k fin a w) :
    ∀ (n : Nat) (l : Array Bool) (a : Act) (w : World), okTree md ops cond fin n l = true → G l a w → wpAnyM P md ops Q S N (k + n) l a w
  | 0, l, a, w, h, hG => by
    have : l = fin := by simpa [okTree] using h
    subst this
    exact last a w hG
  | n + 1, l, a, w, h, hG => by
    unfold okTree at h
    simp only [Bool.and_eq_true, Bool.not_eq_true', List.isEmpty_eq_false_iff, List.all_eq_true] at h
    obtain ⟨hne, hall⟩ := h
    refine wpAnyM_each (Region.ready md ops l) rfl hne (fun i hi => ?_)
    obtain ⟨hc, ht⟩ := hall i hi
    obtain ⟨o, ho, hs⟩ := step l a w i hc hG
    exact ⟨o, ho, fun K hK => hs K (fun a' w' hS hG' => hK a' w' hS (wpAnyM_inv cond fin G step last n _ a' w' ht hG'))⟩
end
end Go.Av
