/-
  Texts of this claim, laid together.
-/
import Derived.Test.YtebmmbommkpjaaaMg2

/-
  The document's own Coord in memory; the walks of at, place, rising.
-/
namespace Go.Proofs.Ytebmmbommkpjaaa
open Go.RowKit Go.Av

structure OneG where
  id : Int
  sh : List Int
  vo : List Int
  how : Int
  dn : List Bool
  vs : Value
  vv : Value
  vd : Value
def owesL : List Int → List Bool → List Int
  | s :: ss, d :: ds => if d then owesL ss ds else s :: owesL ss ds
  | _, _ => []
def bov (b : Bool) : Value := .bool b
def OneG.ent (g : OneG) : Int × EntS := (g.id, ⟨g.sh, g.vo, g.how, owesL g.sh g.dn⟩)
def OneG.cell (g : OneG) : List Value := [.int .i64 g.id, g.vs, g.vv, .int .i64 g.how, g.vd]
def OneG.th (g : OneG) : List Thing := [ThRow 1 g.vs (g.sh.map iv), ThRow 1 g.vv (g.vo.map iv), ThRow 1 g.vd (g.dn.map bov)]
def OneG.wf (g : OneG) : Prop := g.vo.length = g.sh.length ∧ g.dn.length = g.sh.length ∧ g.sh.length ≤ 4
theorem cell_len (g : OneG) : g.cell.length = 5 := rfl
/-- The document's Coord, its things told. -/
structure CrX (w0 w : World) (c : Nat) (v : Value) (gs : List OneG) (R : List Thing) (rows : List (Value × Bs)) : Prop where
  wf : ∀ g ∈ gs, g.wf
  few : gs.length ≤ 1000
  sep : Sep w0 w (ThCell c (.cells #[v] 51 (0, 0)) :: ThRow 5 v (gs.flatMap OneG.cell) :: (gs.flatMap OneG.th ++ R)) rows
def Cr (w0 w : World) (c : Nat) (T : CoS) (R : List Thing) (rows : List (Value × Bs)) : Prop := ∃ v gs, gs.map OneG.ent = T ∧ CrX w0 w c v gs R rows
section
variable {w0 w : World} {c : Nat} {T : CoS} {R : List Thing} {rows : List (Value × Bs)} {v : Value} {gs l1 l2 : List OneG} {g : OneG}
theorem CrX.keep (h : CrX w0 w c v gs R rows) {w' : World} {D' : List Nat} (hu : Upd w w' [] D') : CrX w0 w' c v gs R rows := ⟨h.wf, h.few, h.sep.keep hu⟩
theorem Cr.keep (h : Cr w0 w c T R rows) {w' : World} {D' : List Nat} (hu : Upd w w' [] D') : Cr w0 w' c T R rows := by
  obtain ⟨v, gs, h1, hX⟩ := h
  exact ⟨v, gs, h1, hX.keep hu⟩
theorem Cr.drew (h : Cr w0 w c T R rows) : Cr w0 w.drew c T R rows := h.keep (Upd.refl w []).drew
theorem Cr.below (h : Cr w0 w c T R rows) : Below w0.heap.size w0 w := by
  obtain ⟨v, gs, h1, hX⟩ := h
  exact hX.sep.below
theorem CrX.facts (h : CrX w0 w c v gs R rows) : ∃ (a : Option Addr) (cp : Nat), v = .slice a gs.length cp ∧ w.cell? ⟨c, 0, none⟩ = some (.slice a gs.length cp) ∧ gs.length ≤ cp ∧ cp ≤ maxLen ∧
    ∀ (p : Nat) (hp : p < gs.length), ∃ y : Addr, a = some y ∧ y.spot = none ∧ w.cell? (y.add (p * 5)) = some (.int .i64 gs[p].id) ∧ w.cell? ⟨(y.add (p * 5)).block, (y.add (p * 5)).off + 1, none⟩ = some gs[p].vs ∧
      w.cell? ⟨(y.add (p * 5)).block, (y.add (p * 5)).off + 2, none⟩ = some gs[p].vv ∧ w.cell? ⟨(y.add (p * 5)).block, (y.add (p * 5)).off + 3, none⟩ = some (.int .i64 gs[p].how) ∧
      w.cell? ⟨(y.add (p * 5)).block, (y.add (p * 5)).off + 4, none⟩ = some gs[p].vd ∧ (∃ E, ReadRow w 1 gs[p].vs (gs[p].sh.map iv) E) ∧ (∃ E, ReadRow w 1 gs[p].vv (gs[p].vo.map iv) E) ∧ ∃ E, ReadRow w 1 gs[p].vd (gs[p].dn.map bov) E := by
  have hS := h.sep
  have hb := hS.blk
  obtain ⟨D, hD⟩ := hS.has (T := ThRow 5 v (gs.flatMap OneG.cell)) (by simp)
  have hD : OwnRow w 5 v (gs.flatMap OneG.cell) D := hD
  obtain ⟨a, n, cp, rfl, hl, hn, hc, -⟩ := id hD
  rw [flatG_len cell_len] at hl
  obtain rfl : n = gs.length := by omega
  refine ⟨a, cp, rfl, cell_of hb 0 rfl, hn, hc, fun p hp => ?_⟩
  obtain ⟨y, rfl, hys, k0⟩ := ownCellK hD ((flatG_at cell_len gs hp (j := 0) (by decide)).trans rfl)
  obtain ⟨y', h2', -, k1⟩ := ownCellK hD ((flatG_at cell_len gs hp (j := 1) (by decide)).trans rfl)
  cases h2'
  obtain ⟨y', h2', -, k2⟩ := ownCellK hD ((flatG_at cell_len gs hp (j := 2) (by decide)).trans rfl)
  cases h2'
  obtain ⟨y', h2', -, k3⟩ := ownCellK hD ((flatG_at cell_len gs hp (j := 3) (by decide)).trans rfl)
  cases h2'
  obtain ⟨y', h2', -, k4⟩ := ownCellK hD ((flatG_at cell_len gs hp (j := 4) (by decide)).trans rfl)
  cases h2'
  rw [Nat.add_zero] at k0
  rw [addK_field k0 1] at k1
  rw [addK_field k0 2] at k2
  rw [addK_field k0 3] at k3
  rw [addK_field k0 4] at k4
  have hm : ∀ X ∈ gs[p].th, X ∈ gs.flatMap OneG.th := fun X hX => List.mem_flatMap.2 ⟨_, List.getElem_mem hp, hX⟩
  obtain ⟨D1, hD1⟩ := hS.has (T := ThRow 1 gs[p].vs (gs[p].sh.map iv)) (List.mem_cons_of_mem _ (List.mem_cons_of_mem _ (List.mem_append_left _ (hm _ (by unfold OneG.th; simp)))))
  obtain ⟨D2, hD2⟩ := hS.has (T := ThRow 1 gs[p].vv (gs[p].vo.map iv)) (List.mem_cons_of_mem _ (List.mem_cons_of_mem _ (List.mem_append_left _ (hm _ (by unfold OneG.th; simp)))))
  obtain ⟨D3, hD3⟩ := hS.has (T := ThRow 1 gs[p].vd (gs[p].dn.map bov)) (List.mem_cons_of_mem _ (List.mem_cons_of_mem _ (List.mem_append_left _ (hm _ (by unfold OneG.th; simp)))))
  obtain ⟨E1, e1, -⟩ := OwnRow.read hD1
  obtain ⟨E2, e2, -⟩ := OwnRow.read hD2
  obtain ⟨E3, e3, -⟩ := OwnRow.read hD3
  exact ⟨y, rfl, hys, k0, k1, k2, k3, k4, ⟨E1, e1⟩, ⟨E2, e2⟩, E3, e3⟩

/-- Where an id stands. -/
theorem ent_some {id : Int} {x : EntS} (h : lookS id (gs.map OneG.ent) = some x) : ∃ p, ∃ hp : p < gs.length, gs[p].id = id ∧ gs[p].ent.2 = x ∧ ∀ j (hj : j < gs.length), j < p → gs[j].id ≠ id := by
  obtain ⟨S1, S2, hS, hb⟩ := look_some h
  obtain ⟨k1, k2', h1, h2, h3⟩ := List.map_eq_append_iff.1 hS
  obtain ⟨g, k2, h4, h5, h6⟩ := List.map_eq_cons_iff.1 h3
  subst h1 h4
  refine ⟨k1.length, by simp, ?_, ?_, fun j hj hjp => ?_⟩
  · simp only [List.getElem_append_right (Nat.le_refl _), Nat.sub_self, List.getElem_cons_zero]
    exact congrArg (·.1) h5
  · simp only [List.getElem_append_right (Nat.le_refl _), Nat.sub_self, List.getElem_cons_zero]
    exact congrArg (·.2) h5
  · rw [List.getElem_append_left hjp]
    refine hb (k1[j].ent) ?_
    rw [← h2]
    exact List.mem_map.2 ⟨_, List.getElem_mem hjp, rfl⟩
theorem ent_none {id : Int} (h : lookS id (gs.map OneG.ent) = none) : ∀ j (hj : j < gs.length), gs[j].id ≠ id := fun j hj =>
  look_none h (gs[j].ent) (List.mem_map.2 ⟨_, List.getElem_mem hj, rfl⟩)

set_option maxHeartbeats 1000000 in
theorem cr_at_no (h : CrX w0 w c v gs R rows) (id : Int) (hno : ∀ j (hj : j < gs.length), gs[j].id ≠ id) :
    Calls Try.prog 49 #[.pointer (some ⟨c, 0, none⟩), .int .i64 id] w fun e w' => e = .returned (.int .i64 (-1)) ∧ w' = w := by
  obtain ⟨a, cp, rfl, c0, hcp, hcm, hrow⟩ := h.facts
  have h1000 := h.few
  unfold maxLen at hcm
  have HR := Lib.hid (show _ ∧ _ from ⟨hrow, hno⟩)
  clear h hrow hno
  go_enter Try.func49, Try.ntmps49
  go_wp2_with fail
  go_loopg [5] gs.length (fun k vi wr => wr = w ∧ ∃ p : Nat, p ≤ gs.length ∧ k = gs.length - p ∧ vi = .int .i64 (p : Int))
  case atStart => exact ⟨rfl, 0, Nat.zero_le _, rfl, rfl⟩
  case round =>
    obtain ⟨hW, p, hp, hk, hvi⟩ := hrel
    subst wr hvi
    by_cases hlt : p < gs.length
    · obtain ⟨y, rfl, hys, e0, -⟩ := HR.out.1 p hlt
      have hne := HR.out.2 p hlt
      obtain ⟨q, hq⟩ : ∃ q, gs[p].id = q := ⟨_, rfl⟩
      rw [hq] at e0 hne
      have hqb : (q == id) = false := by simpa using hne
      clear hq hne
      go_wp2_with fail
      go_roundg (gs.length - (p + 1))
      case rel => exact ⟨rfl, p + 1, by omega, rfl, by go_num⟩
      case measure => omega
    · go_wp2_with fail
      go_ret
      exact ⟨rfl, rfl⟩
set_option maxHeartbeats 1000000 in
theorem cr_at (h : CrX w0 w c v gs R rows) (id : Int) (q : Nat) (hq : q < gs.length) (hid : gs[q].id = id) (hno : ∀ j (hj : j < gs.length), j < q → gs[j].id ≠ id) :
    Calls Try.prog 49 #[.pointer (some ⟨c, 0, none⟩), .int .i64 id] w fun e w' => e = .returned (.int .i64 (q : Int)) ∧ w' = w := by
  obtain ⟨a, cp, rfl, c0, hcp, hcm, hrow⟩ := h.facts
  have h1000 := h.few
  unfold maxLen at hcm
  have HR := Lib.hid (show _ ∧ _ ∧ _ from ⟨hrow, hno, hid⟩)
  clear h hrow hno hid
  go_enter Try.func49, Try.ntmps49
  go_wp2_with fail
  go_loopg [5] gs.length (fun k vi wr => wr = w ∧ ∃ p : Nat, p ≤ q ∧ k = gs.length - p ∧ vi = .int .i64 (p : Int))
  case atStart => exact ⟨rfl, 0, Nat.zero_le _, rfl, rfl⟩
  case round =>
    obtain ⟨hW, p, hp, hk, hvi⟩ := hrel
    subst wr hvi
    have hlt : p < gs.length := by omega
    obtain ⟨y, rfl, hys, e0, -⟩ := HR.out.1 p hlt
    by_cases hpq : p = q
    · subst hpq
      rw [HR.out.2.2] at e0
      have hqb : (id == id) = true := by simp
      go_wp2_with fail
      go_ret
      exact ⟨rfl, rfl⟩
    · have hne := HR.out.2.1 p hlt (by omega)
      obtain ⟨z, hz⟩ : ∃ z, gs[p].id = z := ⟨_, rfl⟩
      rw [hz] at e0 hne
      have hqb : (z == id) = false := by simpa using hne
      clear hz hne
      go_wp2_with fail
      go_roundg (gs.length - (p + 1))
      case rel => exact ⟨rfl, p + 1, by omega, rfl, by go_num⟩
      case measure => omega

theorem read_cellI {w : World} {a : Option Addr} {n c : Nat} {xs : List Value} {E : List Nat} (h : ReadRow w 1 (.slice a n c) xs E) {i : Nat} {x : Value} (hx : xs[i]? = some x) : ∃ y : Addr, a = some y ∧ y.spot = none ∧ w.cell? (y.add i) = some x := by
  obtain ⟨a', n', c', hv, hl, hn, hc, ha, hr⟩ := h
  cases hv
  rcases hr with ⟨rfl, _⟩ | ⟨g, off, h1, h2, h3, h4⟩
  · simp at hx
  · refine ⟨⟨g, off, none⟩, h1, rfl, ?_⟩
    rw [Addr.add_lit]
    exact h4 i x hx
theorem idx_take {k : Int} : ∀ {l : List Int} {p : Nat}, p ≤ l.length → (∀ j (h : j < l.length), j < p → l[j] ≠ k) → idxF k l = (idxF k (l.drop p)).map (· + p)
  | [], p, hp, _ => by
    obtain rfl : p = 0 := by simpa using hp
    simp [idxF]
  | x :: l, 0, _, _ => by simp
  | x :: l, p + 1, hp, h => by
    have h0 : x ≠ k := by have := h 0 (by simp) (by omega); simpa using this
    rw [idxF, if_neg h0, List.drop_succ_cons, idx_take (l := l) (p := p) (by simpa using hp) (fun j hj hjp => by have := h (j + 1) (by simpa using hj) (by omega); simpa using this)]
    cases idxF k (l.drop p) with
    | none => rfl
    | some q => simp; omega
set_option maxHeartbeats 1000000 in
theorem place_any (v : Value) (l : List Int) (E : List Nat) (w : World) (h : ReadRow w 1 v (l.map iv) E) (k : Int) :
    Calls Try.prog 50 #[v, .int .i64 k] w fun e w' => e = .returned (.int .i64 (idxS k l)) ∧ w' = w := by
  obtain ⟨a, n, c, rfl, hln, hnc, hcm, -⟩ := id h
  rw [List.length_map, Nat.mul_one] at hln
  subst hln
  unfold maxLen at hcm
  have HC := Lib.hid h
  clear h
  go_enter Try.func50, Try.ntmps50
  go_wp2_with fail
  go_loopg [5] l.length (fun m vi wr => wr = w ∧ ∃ p : Nat, p ≤ l.length ∧ m = l.length - p ∧ vi = .int .i64 (p : Int) ∧ ∀ j (h : j < l.length), j < p → l[j] ≠ k)
  case atStart => exact ⟨rfl, 0, Nat.zero_le _, rfl, rfl, fun _ _ h => absurd h (Nat.not_lt_zero _)⟩
  case round =>
    obtain ⟨hW, p, hp, hk, hvi, hall⟩ := hrel
    subst wr hvi
    have hix := idx_take hp hall
    have HA := Lib.hid hall
    clear hall
    by_cases hlt : p < l.length
    · obtain ⟨y, rfl, hys, e0⟩ := read_cellI HC.out (i := p) (x := iv l[p]) (by rw [List.getElem?_map, List.getElem?_eq_getElem hlt]; rfl)
      rw [List.drop_eq_getElem_cons hlt] at hix
      obtain ⟨z, hz⟩ : ∃ z, l[p] = z := ⟨_, rfl⟩
      rw [hz] at e0 hix
      unfold iv at e0
      by_cases hzk : z = k
      · have HX := Lib.hid (show idxS k l = p by unfold idxS; rw [hix, idxF, if_pos hzk]; simp)
        have hqb : (z == k) = true := by simpa using hzk
        clear hix hz hzk
        go_wp2_with fail
        go_ret
        rw [HX.out]
        exact ⟨rfl, rfl⟩
      · have hqb : (z == k) = false := by simpa using hzk
        have HNX := Lib.hid (show ∀ j (h : j < l.length), j < p + 1 → l[j] ≠ k from fun j hj hjp => by
          by_cases hjj : j = p
          · subst hjj; rw [hz]; exact hzk
          · exact HA.out j hj (by omega))
        clear hix hz hzk
        go_wp2_with fail
        go_roundg (l.length - (p + 1))
        case rel => exact ⟨rfl, p + 1, by omega, rfl, by go_num, HNX.out⟩
        case measure => omega
    · have HX := Lib.hid (show idxS k l = -1 by
        unfold idxS
        rw [hix, List.drop_of_length_le (by omega)]
        rfl)
      clear hix
      go_wp2_with fail
      go_ret
      rw [HX.out]
      exact ⟨rfl, rfl⟩
set_option maxRecDepth 100000 in
set_option maxHeartbeats 2000000 in
theorem rrising_any (v : Value) (l : List Int) (E : List Nat) (w : World) (h : ReadRow w 1 v (l.map iv) E) :
    Calls Try.prog 48 #[v] w fun e w' => e = .returned (.bool (risS l && decide (0 < l.length))) ∧ Upd w w' [] [] := by
  obtain ⟨a, n, c, rfl, hln, hnc, hcm, -⟩ := id h
  rw [List.length_map, Nat.mul_one] at hln
  subst hln
  unfold maxLen at hcm
  have HC := Lib.hid h
  clear h
  go_enter Try.func48, Try.ntmps48
  go_wp2_with fail
  go_loopg [3] l.length (fun m vi wr => Upd w wr [] [] ∧ ∃ (p : Nat) (last : Int), p ≤ l.length ∧ m = l.length - p ∧ vi = .int .i64 (p : Int) ∧ risS l = risF last (l.drop p) ∧ (p = 0 → last = -1) ∧ (0 < p → 0 ≤ last ∧ l[p - 1]? = some last))
  case atStart => exact ⟨Upd.refl _ _, 0, -1, Nat.zero_le _, rfl, rfl, rfl, fun _ => rfl, fun h => absurd h (Nat.lt_irrefl _)⟩
  case round =>
    obtain ⟨hu, p, last, hp, hk, hvi, hris, h0, h1⟩ := hrel
    subst hvi
    have HU := Lib.hid hu
    have hread := HC.out.frame (hu.same HC.out.lt (by simp))
    clear hu
    by_cases hlt : p < l.length
    · obtain ⟨y, rfl, hys, e0⟩ := read_cellI hread (i := p) (x := iv l[p]) (by rw [List.getElem?_map, List.getElem?_eq_getElem hlt]; rfl)
      rw [List.drop_eq_getElem_cons hlt] at hris
      obtain ⟨z, hz⟩ : ∃ z, l[p] = z := ⟨_, rfl⟩
      rw [hz] at e0 hris
      rw [risF_cons] at hris
      unfold iv at e0
      have hlp : l[p]? = some z := by rw [List.getElem?_eq_getElem hlt, hz]
      have HZ := Lib.hid hlp
      clear hz hlp
      by_cases hz0 : z < 0
      · have q1 : decide (z < 0) = true := decide_eq_true hz0
        have HF := Lib.hid (show risS l = false by
          rw [hris]
          have : z ≤ last := by
            rcases Nat.eq_zero_or_pos p with hp0 | hp0
            · rw [h0 hp0]; omega
            · have := (h1 hp0).1; omega
          simp [this])
        clear hris h0 h1 hread
        go_wp2_with fail
        refine wp_region_M (fun W => W.cell? (y.add p) = some (.int .i64 z)) 28 (by kernel_rfl) ?_
        refine wpAnyM_take (by kernel_rfl) (by intro c a d v w h; cases d <;> exact h) [(0, false), (1, false), (2, false), (3, true), (4, false), (5, false), (6, false), (7, false), (8, false), (9, true), (10, false), (11, false), (12, false), (13, false), (14, false), (15, false), (16, false), (17, false), (18, false), (19, true), (20, false), (21, false), (22, false), (23, false), (24, true), (25, false), (26, false), (27, false)] (fuel := 0) (by kernel_rfl) ?_
        apply Exists.intro; refine ⟨?_, e0, ?_⟩
        · iterate 28 ((first | (apply yieldN; (· (simp only [List.getElem?_toArray, List.getElem?_cons_succ, List.getElem?_cons_zero]; try rfl)); (· rfl)) | ((first | apply yieldP | apply yieldL); (· (simp only [List.getElem?_toArray, List.getElem?_cons_succ, List.getElem?_cons_zero]; try rfl)); (· rfl); (· (intros; go_simp; try with_reducible rfl)))); (· (simp only [Act.put, List.setIfInBounds_toArray, List.set_cons_zero, List.set_cons_succ]; try rfl)))
          exact rfl
        refine wpAnyM_done (by kernel_rfl) ?_ _
        go_wp2_with fail
        go_ret
        rw [HF.out]
        exact ⟨rfl, HU.out.drew⟩
      have q1 : decide (z < 0) = false := decide_eq_false hz0
      by_cases hz3 : 3 < z
      · have q2 : decide (3 < z) = true := decide_eq_true hz3
        have HF := Lib.hid (show risS l = false by
          rw [hris]
          have : 4 ≤ z := by omega
          simp [this])
        clear hris h0 h1 hread
        go_wp2_with fail
        refine wp_region_M (fun W => W.cell? (y.add p) = some (.int .i64 z)) 28 (by kernel_rfl) ?_
        refine wpAnyM_take (by kernel_rfl) (by intro c a d v w h; cases d <;> exact h) [(0, false), (1, false), (2, false), (3, true), (4, false), (5, false), (6, false), (7, false), (8, false), (9, true), (10, false), (11, false), (12, false), (13, false), (14, false), (15, false), (16, false), (17, false), (18, false), (19, true), (20, false), (21, false), (22, false), (23, false), (24, true), (25, false), (26, false), (27, false)] (fuel := 0) (by kernel_rfl) ?_
        apply Exists.intro; refine ⟨?_, e0, ?_⟩
        · iterate 28 ((first | (apply yieldN; (· (simp only [List.getElem?_toArray, List.getElem?_cons_succ, List.getElem?_cons_zero]; try rfl)); (· rfl)) | ((first | apply yieldP | apply yieldL); (· (simp only [List.getElem?_toArray, List.getElem?_cons_succ, List.getElem?_cons_zero]; try rfl)); (· rfl); (· (intros; go_simp; try with_reducible rfl)))); (· (simp only [Act.put, List.setIfInBounds_toArray, List.set_cons_zero, List.set_cons_succ]; try rfl)))
          exact rfl
        refine wpAnyM_done (by kernel_rfl) ?_ _
        go_wp2_with fail
        go_ret
        rw [HF.out]
        exact ⟨rfl, HU.out.drew⟩
      have q2 : decide (3 < z) = false := decide_eq_false hz3
      by_cases hp0 : p = 0
      · subst hp0
        have HNX := Lib.hid (show risS l = risF z (l.drop (0 + 1)) by
          rw [hris, h0 rfl]
          have a1 : ¬ z ≤ -1 := by omega
          have a2 : ¬ 4 ≤ z := by omega
          simp [a1, a2])
        clear hris h0 h1 hread
        go_wp2_with fail
        have e0 : wr.cell? y = some (.int .i64 z) := by
          have hy0 : y.add 0 = y := by
            obtain ⟨b, o, sp⟩ := y
            dsimp only at hys
            subst hys
            rw [Addr.add_lit]
            rfl
          rw [hy0] at e0
          exact e0
        refine wp_region_M (fun W => W.cell? y = some (.int .i64 z)) 28 (by kernel_rfl) ?_
        refine wpAnyM_take (by kernel_rfl) (by intro c a d v w h; cases d <;> exact h) [(0, false), (1, false), (2, false), (3, true), (4, false), (5, false), (6, false), (7, false), (8, false), (9, true), (10, false), (11, false), (12, false), (13, false), (14, false), (15, false), (16, false), (17, false), (18, false), (19, true), (20, false), (21, false), (22, false), (23, false), (24, true), (25, false), (26, false), (27, false)] (fuel := 0) (by kernel_rfl) ?_
        apply Exists.intro; refine ⟨?_, e0, ?_⟩
        · iterate 28 ((first | (apply yieldN; (· (simp only [List.getElem?_toArray, List.getElem?_cons_succ, List.getElem?_cons_zero]; try rfl)); (· rfl)) | ((first | apply yieldP | apply yieldL); (· (simp only [List.getElem?_toArray, List.getElem?_cons_succ, List.getElem?_cons_zero]; try rfl)); (· rfl); (· (intros; go_simp; try with_reducible rfl)))); (· (simp only [Act.put, List.setIfInBounds_toArray, List.set_cons_zero, List.set_cons_succ]; try rfl)))
          exact rfl
        refine wpAnyM_done (by kernel_rfl) ?_ _
        go_wp2_with fail
        go_roundg (l.length - (0 + 1))
        case rel => exact ⟨HU.out.drew, 0 + 1, z, by omega, rfl, by go_num, HNX.out, fun h => absurd h (by omega), fun _ => ⟨by omega, by simpa using HZ.out⟩⟩
        case measure => omega
      obtain ⟨hl0, hl1⟩ := h1 (by omega)
      obtain ⟨y2, hy2, -, e1⟩ := read_cellI hread (i := p - 1) (x := iv last) (by rw [List.getElem?_map, hl1]; rfl)
      cases hy2
      unfold iv at e1
      have hp1 : ((p - 1 : Nat) : Int) = (p : Int) - 1 := by omega
      have hw1 : IntKind.i64.wrap ((p : Int) - 1) = (p : Int) - 1 := by rw [IntKind.wrap_i64]; omega
      have hnn : ((p : Int) - 1).toNat = p - 1 := by omega
      have hpp : 0 < p := by omega
      have q3 : decide ((0 : Int) < (p : Int)) = true := decide_eq_true (by omega)
      have hb1 : (1 : Int) ≤ (p : Int) := by omega
      have hb2 : (p : Int) - 1 < (l.length : Int) := by omega
      by_cases hzl : z ≤ last
      · have q4 : decide (z ≤ last) = true := decide_eq_true hzl
        have HF := Lib.hid (show risS l = false by rw [hris]; simp [hzl])
        clear hris h0 h1 hread hl1
        go_wp2_with fail
        refine wp_region_M (fun W => W.cell? (y.add p) = some (.int .i64 z) ∧ W.cell? (y.add (p - 1)) = some (.int .i64 last)) 28 (by kernel_rfl) ?_
        refine wpAnyM_take (by kernel_rfl) (by intro c a d v w h; cases d <;> exact h) [(0, false), (1, false), (2, false), (3, true), (4, false), (5, false), (6, false), (7, false), (8, false), (9, true), (10, false), (11, false), (12, false), (13, false), (14, false), (15, false), (16, false), (17, false), (18, false), (19, true), (20, false), (21, false), (22, false), (23, false), (24, true), (25, false), (26, false), (27, false)] (fuel := 0) (by kernel_rfl) ?_
        apply Exists.intro; refine ⟨?_, ⟨e0, e1⟩, ?_⟩
        · iterate 28 ((first | (apply yieldN; (· (simp only [List.getElem?_toArray, List.getElem?_cons_succ, List.getElem?_cons_zero]; try rfl)); (· rfl)) | ((first | apply yieldP | apply yieldL); (· (simp only [List.getElem?_toArray, List.getElem?_cons_succ, List.getElem?_cons_zero]; try rfl)); (· rfl); (· (intros; go_simp; try with_reducible rfl)))); (· (simp only [Act.put, List.setIfInBounds_toArray, List.set_cons_zero, List.set_cons_succ]; try rfl)))
          exact rfl
        refine wpAnyM_done (by kernel_rfl) ?_ _
        go_wp2_with fail
        go_ret
        rw [HF.out]
        exact ⟨rfl, HU.out.drew⟩
      · have q4 : decide (z ≤ last) = false := decide_eq_false hzl
        have HNX := Lib.hid (show risS l = risF z (l.drop (p + 1)) by
          rw [hris]
          have a2 : ¬ 4 ≤ z := by omega
          simp [hzl, a2])
        clear hris h0 h1 hread hl1
        go_wp2_with fail
        refine wp_region_M (fun W => W.cell? (y.add p) = some (.int .i64 z) ∧ W.cell? (y.add (p - 1)) = some (.int .i64 last)) 28 (by kernel_rfl) ?_
        refine wpAnyM_take (by kernel_rfl) (by intro c a d v w h; cases d <;> exact h) [(0, false), (1, false), (2, false), (3, true), (4, false), (5, false), (6, false), (7, false), (8, false), (9, true), (10, false), (11, false), (12, false), (13, false), (14, false), (15, false), (16, false), (17, false), (18, false), (19, true), (20, false), (21, false), (22, false), (23, false), (24, true), (25, false), (26, false), (27, false)] (fuel := 0) (by kernel_rfl) ?_
        apply Exists.intro; refine ⟨?_, ⟨e0, e1⟩, ?_⟩
        · iterate 28 ((first | (apply yieldN; (· (simp only [List.getElem?_toArray, List.getElem?_cons_succ, List.getElem?_cons_zero]; try rfl)); (· rfl)) | ((first | apply yieldP | apply yieldL); (· (simp only [List.getElem?_toArray, List.getElem?_cons_succ, List.getElem?_cons_zero]; try rfl)); (· rfl); (· (intros; go_simp; try with_reducible rfl)))); (· (simp only [Act.put, List.setIfInBounds_toArray, List.set_cons_zero, List.set_cons_succ]; try rfl)))
          exact rfl
        refine wpAnyM_done (by kernel_rfl) ?_ _
        go_wp2_with fail
        go_roundg (l.length - (p + 1))
        case rel => exact ⟨HU.out.drew, p + 1, z, by omega, rfl, by go_num, HNX.out, fun h => absurd h (by omega), fun _ => ⟨by omega, by simpa using HZ.out⟩⟩
        case measure => omega
    · have HF := Lib.hid (show risS l = true by rw [hris, List.drop_of_length_le (by omega)]; rfl)
      clear hris h0 h1 hread
      go_wp2_with fail
      go_ret
      rw [HF.out, Bool.true_and]
      exact ⟨rfl, HU.out⟩
end
end Go.Proofs.Ytebmmbommkpjaaa

/-
  The document's own Coord: what is written; Decision, Abort, Done.
-/
namespace Go.Proofs.Ytebmmbommkpjaaa
open Go.RowKit Go.Av
theorem flat_same {α β : Type} {f : α → List β} : ∀ {l : List α} {p : Nat} (hp : p < l.length) {x : α}, f x = f l[p] → (l.set p x).flatMap f = l.flatMap f
  | [], p, hp, _, _ => by simp at hp
  | e :: l, 0, _, x, h => by rw [List.set_cons_zero, List.flatMap_cons, List.flatMap_cons, h]; rfl
  | e :: l, p + 1, hp, x, h => by
    rw [List.set_cons_succ, List.flatMap_cons, List.flatMap_cons, flat_same (l := l) (p := p) (by simpa using hp) h]
theorem flat_split {α β : Type} {f : α → List β} {l : List α} {p : Nat} (hp : p < l.length) : l.flatMap f = (l.take p).flatMap f ++ (f l[p] ++ (l.drop (p + 1)).flatMap f) := by
  conv => lhs; rw [← List.take_append_drop p l, List.drop_eq_getElem_cons hp]
  rw [List.flatMap_append, List.flatMap_cons]
theorem flat_setS {α β : Type} {f : α → List β} {l : List α} {p : Nat} (hp : p < l.length) (x : α) : (l.set p x).flatMap f = (l.take p).flatMap f ++ (f x ++ (l.drop (p + 1)).flatMap f) := by
  rw [List.set_eq_take_append_cons_drop, if_pos hp, List.flatMap_append, List.flatMap_cons]
theorem Sep.rowSetAt {w0 w : World} {A B : List Thing} {rows : List (Value × Bs)} {y : Addr} {n c : Nat} {xs : List Value} (h : Sep w0 w (A ++ ThRow 1 (.slice (some y) n c) xs :: B) rows) {i : Nat} (hi : i < n) (u : Value) :
    w.frozen? (y.add i) = false ∧ y.spot = none ∧ (∃ u, w.cell? (y.add i) = some u) ∧ Sep w0 (w.setCell (y.add i) u) (A ++ ThRow 1 (.slice (some y) n c) (xs.set i u) :: B) rows := by
  obtain ⟨a1, a2, a3, a4⟩ := (h.perm List.perm_middle).rowSet hi u
  exact ⟨a1, a2, a3, a4.perm List.perm_middle.symm⟩
section
variable {w0 w : World} {c : Nat} {T : CoS} {R : List Thing} {rows : List (Value × Bs)} {v : Value} {gs l1 l2 : List OneG} {g : OneG}
theorem put_set {id : Int} {φ : EntS → EntS} {p : Nat} (hp : p < gs.length) {g' : OneG} (hid : gs[p].id = id) (hnd : ((gs.map OneG.ent).map (·.1)).Nodup) (he : g'.ent = (id, φ gs[p].ent.2)) : (gs.set p g').map OneG.ent = putS id φ (gs.map OneG.ent) := by
  obtain ⟨g, hg⟩ : ∃ g, gs[p] = g := ⟨_, rfl⟩
  have hs : gs = gs.take p ++ g :: gs.drop (p + 1) := by rw [← hg, ← List.drop_eq_getElem_cons hp, List.take_append_drop]
  rw [hg] at hid he
  rw [List.set_eq_take_append_cons_drop, if_pos hp]
  rw [hs] at hnd
  conv => rhs; rw [hs]
  simp only [List.map_append, List.map_cons, List.nodup_append, List.nodup_cons, List.mem_cons] at hnd ⊢
  have h1 : ∀ e ∈ (gs.take p).map OneG.ent, e.1 ≠ id := fun e he hh => hnd.2.2 e.1 (List.mem_map.2 ⟨e, he, rfl⟩) g.ent.1 (.inl rfl) (hh.trans hid.symm)
  have h2 : ∀ e ∈ (gs.drop (p + 1)).map OneG.ent, e.1 ≠ id := fun e he hh => hnd.2.1.1 (List.mem_map.2 ⟨e, he, hh.trans hid.symm⟩)
  have hge : g.ent = (id, g.ent.2) := by rw [← hid]; rfl
  rw [hge, put_mid φ h1 h2, he]
/-- One cell of an element is written: how it is decided. -/
theorem CrX.setHow {y : Addr} {cp : Nat} (h : CrX w0 w c (.slice (some y) gs.length cp) gs R rows) {p : Nat} (hp : p < gs.length) (k : Int) (hc0 : w.cell? (y.add (p * 5)) = some (.int .i64 gs[p].id)) :
    w.frozen? ⟨(y.add (p * 5)).block, (y.add (p * 5)).off + 3, none⟩ = false ∧ CrX w0 (w.setCell ⟨(y.add (p * 5)).block, (y.add (p * 5)).off + 3, none⟩ (.int .i64 k)) c (.slice (some y) (gs.set p { gs[p] with how := k }).length cp) (gs.set p { gs[p] with how := k }) R rows := by
  have h2 := h.sep.perm (List.Perm.swap _ _ _)
  obtain ⟨f1, f2, -, h3⟩ := h2.rowSetK (i := p * 5 + 3) (by omega) (.int .i64 k)
  rw [addK_field hc0 3] at f1 h3
  refine ⟨f1, ⟨fun g hg => ?_, by rw [List.length_set]; exact h.few, ?_⟩⟩
  · rcases List.mem_or_eq_of_mem_set hg with hg | rfl
    · exact h.wf g hg
    · exact h.wf gs[p] (List.getElem_mem hp)
  · rw [List.length_set, flat_same (f := OneG.th) hp (x := { gs[p] with how := k }) rfl, flatG_set cell_len gs hp (j := 3) { gs[p] with how := k } (.int .i64 k) (by decide) rfl]
    exact h3.perm (List.Perm.swap _ _ _)
theorem CrX.setVote (h : CrX w0 w c v gs R rows) {p : Nat} (hp : p < gs.length) {z : Addr} {n cv : Nat} (hv : gs[p].vv = .slice (some z) n cv) {i : Nat} (hi : i < n) (k : Int) :
    w.frozen? (z.add i) = false ∧ z.spot = none ∧ (∃ u, w.cell? (z.add i) = some u) ∧ CrX w0 (w.setCell (z.add i) (.int .i64 k)) c v (gs.set p { gs[p] with vo := gs[p].vo.set i k }) R rows := by
  have hS := h.sep
  rw [flat_split (f := OneG.th) hp] at hS
  unfold OneG.th at hS
  rw [hv] at hS
  have h2 := Sep.rowSetAt (A := ThCell c (.cells #[v] 51 (0, 0)) :: ThRow 5 v (gs.flatMap OneG.cell) :: ((gs.take p).flatMap OneG.th ++ [ThRow 1 gs[p].vs (gs[p].sh.map iv)])) (B := ThRow 1 gs[p].vd (gs[p].dn.map bov) :: ((gs.drop (p + 1)).flatMap OneG.th ++ R)) (i := i) (y := z) (n := n) (c := cv) (xs := gs[p].vo.map iv) (by
    simp only [List.cons_append, List.append_assoc, List.nil_append] at hS ⊢
    exact hS) hi (.int .i64 k)
  obtain ⟨a1, a2, a3, a4⟩ := h2
  refine ⟨a1, a2, a3, ⟨fun g hg => ?_, by rw [List.length_set]; exact h.few, ?_⟩⟩
  · rcases List.mem_or_eq_of_mem_set hg with hg | rfl
    · exact h.wf g hg
    · obtain ⟨b1, b2, b3⟩ := h.wf gs[p] (List.getElem_mem hp)
      exact ⟨by rw [List.length_set]; exact b1, b2, b3⟩
  · rw [flat_same (f := OneG.cell) hp (x := { gs[p] with vo := gs[p].vo.set i k }) rfl, flat_setS (f := OneG.th) hp]
    unfold OneG.th
    dsimp only
    rw [hv, List.map_set]
    simp only [List.cons_append, List.append_assoc, List.nil_append] at a4 ⊢
    exact a4
theorem CrX.setDone (h : CrX w0 w c v gs R rows) {p : Nat} (hp : p < gs.length) {z : Addr} {n cv : Nat} (hv : gs[p].vd = .slice (some z) n cv) {i : Nat} (hi : i < n) :
    w.frozen? (z.add i) = false ∧ z.spot = none ∧ (∃ u, w.cell? (z.add i) = some u) ∧ CrX w0 (w.setCell (z.add i) (.bool true)) c v (gs.set p { gs[p] with dn := gs[p].dn.set i true }) R rows := by
  have hS := h.sep
  rw [flat_split (f := OneG.th) hp] at hS
  unfold OneG.th at hS
  rw [hv] at hS
  have h2 := Sep.rowSetAt (A := ThCell c (.cells #[v] 51 (0, 0)) :: ThRow 5 v (gs.flatMap OneG.cell) :: ((gs.take p).flatMap OneG.th ++ [ThRow 1 gs[p].vs (gs[p].sh.map iv), ThRow 1 gs[p].vv (gs[p].vo.map iv)])) (B := (gs.drop (p + 1)).flatMap OneG.th ++ R) (i := i) (y := z) (n := n) (c := cv) (xs := gs[p].dn.map bov) (by
    simp only [List.cons_append, List.append_assoc, List.nil_append] at hS ⊢
    exact hS) hi (.bool true)
  obtain ⟨a1, a2, a3, a4⟩ := h2
  refine ⟨a1, a2, a3, ⟨fun g hg => ?_, by rw [List.length_set]; exact h.few, ?_⟩⟩
  · rcases List.mem_or_eq_of_mem_set hg with hg | rfl
    · exact h.wf g hg
    · obtain ⟨b1, b2, b3⟩ := h.wf gs[p] (List.getElem_mem hp)
      exact ⟨b1, by rw [List.length_set]; exact b2, b3⟩
  · rw [flat_same (f := OneG.cell) hp (x := { gs[p] with dn := gs[p].dn.set i true }) rfl, flat_setS (f := OneG.th) hp]
    unfold OneG.th
    dsimp only
    rw [hv, List.map_set]
    simp only [List.cons_append, List.append_assoc, List.nil_append] at a4 ⊢
    exact a4

set_option maxRecDepth 100000 in
set_option maxHeartbeats 1000000 in
theorem cr_decision (h : Cr w0 w c T R rows) (id : Int) :
    Calls Try.prog 27 #[.pointer (some ⟨c, 0, none⟩), .int .i64 id] w fun e w' => e = .returned (.tuple #[.bool (decS T id).1, .bool (decS T id).2]) ∧ Cr w0 w' c T R rows := by
  cases hx : lookS id T with
  | none =>
    have HD := Lib.hid (show decS T id = (false, false) by unfold decS; rw [hx])
    obtain ⟨v, gs, hT, hX⟩ := h
    subst hT
    have HAT := Lib.hid (cr_at_no hX id (ent_none hx))
    have HC := Lib.hid (show Cr w0 w c (gs.map OneG.ent) R rows from ⟨v, gs, rfl, hX⟩)
    clear hX
    clear hx
    go_enter Try.func27, Try.ntmps27
    go_wp2_with fail
    refine HAT.out.mono ?_
    rintro e w1 ⟨rfl, hW⟩
    subst w1
    go_wp2_with fail
    go_ret2
    rw [HD.out]
    exact ⟨rfl, HC.out⟩
  | some x =>
    have HD := Lib.hid (show decS T id = (x.dec == 1, x.dec != 0) by unfold decS; rw [hx])
    obtain ⟨v, gs, hT, hX⟩ := h
    subst hT
    obtain ⟨p, hp, hid, hx2, hno⟩ := ent_some hx
    have HAT := Lib.hid (cr_at hX id p hp hid hno)
    obtain ⟨a, cp, rfl, c0, hcp, hcm, hrow⟩ := hX.facts
    unfold maxLen at hcm
    have h1000 := hX.few
    obtain ⟨y, rfl, hys, e0, e1, e2, e3, e4, he1, he2, he3⟩ := hrow p hp
    have hxd : gs[p].how = x.dec := by rw [← hx2]; rfl
    rw [hxd] at e3
    have HC := Lib.hid (show Cr w0 w c (gs.map OneG.ent) R rows from ⟨_, gs, rfl, hX⟩)
    obtain ⟨dd, hdd⟩ : ∃ dd, x.dec = dd := ⟨_, rfl⟩
    rw [hdd] at e3 HD
    clear hX hx hx2 hid hno hrow he1 he2 he3 e0 e1 e2 e4 hxd hdd
    go_enter Try.func27, Try.ntmps27
    go_wp2_with fail
    refine HAT.out.mono ?_
    rintro e w1 ⟨rfl, hW⟩
    subst w1
    go_wp2_with fail
    refine wp_region_M (fun W => W.cell? ⟨c, 0, none⟩ = some (.slice (some y) gs.length cp) ∧ W.cell? ⟨(y.add (p * 5)).block, (y.add (p * 5)).off + 3, none⟩ = some (.int .i64 dd)) 20 (by kernel_rfl) ?_
    refine wpAnyM_take (by kernel_rfl) (by intro c a d v w h; cases d <;> exact h) [(0, false), (1, false), (2, false), (3, true), (4, false), (5, false), (6, false), (7, true), (8, false), (9, false), (10, false), (11, false), (12, true), (13, false), (14, false), (15, false), (16, true), (17, false), (18, false), (19, false)] (fuel := 0) (by kernel_rfl) ?_
    apply Exists.intro; refine ⟨?_, ⟨c0, e3⟩, ?_⟩
    · iterate 20 ((first | (apply yieldN; (· (simp only [List.getElem?_toArray, List.getElem?_cons_succ, List.getElem?_cons_zero]; try rfl)); (· rfl)) | ((first | apply yieldP | apply yieldL); (· (simp only [List.getElem?_toArray, List.getElem?_cons_succ, List.getElem?_cons_zero]; try rfl)); (· rfl); (· (intros; go_simp; try with_reducible rfl)))); (· (simp only [Act.put, List.setIfInBounds_toArray, List.set_cons_zero, List.set_cons_succ]; try rfl)))
      exact rfl
    refine wpAnyM_done (by kernel_rfl) ?_ _
    go_wp2_with fail
    go_ret2
    rw [HD.out]
    exact ⟨rfl, HC.out.drew⟩
set_option maxRecDepth 100000 in
set_option maxHeartbeats 1000000 in
theorem cr_abort (h : Cr w0 w c T R rows) (hnd : (T.map (·.1)).Nodup) (id : Int) :
    Calls Try.prog 25 #[.pointer (some ⟨c, 0, none⟩), .int .i64 id] w fun e w' => e = .returned (.tuple #[.bool (abortS T id).1, .int .i64 (abortS T id).2.1]) ∧ Cr w0 w' c (abortS T id).2.2 R rows := by
  cases hx : lookS id T with
  | none =>
    have HD := Lib.hid (show abortS T id = (false, 4, T) by unfold abortS; rw [hx])
    obtain ⟨v, gs, hT, hX⟩ := h
    subst hT
    have HAT := Lib.hid (cr_at_no hX id (ent_none hx))
    have HC := Lib.hid (show Cr w0 w c (gs.map OneG.ent) R rows from ⟨v, gs, rfl, hX⟩)
    clear hX
    clear hx
    go_enter Try.func25, Try.ntmps25
    go_wp2_with fail
    refine HAT.out.mono ?_
    rintro e w1 ⟨rfl, hW⟩
    subst w1
    go_wp2_with fail
    go_ret2
    rw [HD.out]
    exact ⟨rfl, HC.out⟩
  | some x =>
    have HD := Lib.hid (show abortS T id = ((abortF x).dec == 1, 0, putS id abortF T) by unfold abortS; rw [hx])
    obtain ⟨v, gs, hT, hX⟩ := h
    subst hT
    obtain ⟨p, hp, hid, hx2, hno⟩ := ent_some hx
    have HAT := Lib.hid (cr_at hX id p hp hid hno)
    obtain ⟨a, cp, rfl, c0, hcp, hcm, hrow⟩ := hX.facts
    unfold maxLen at hcm
    have h1000 := hX.few
    obtain ⟨y, rfl, hys, e0, e1, e2, e3, e4, he1, he2, he3⟩ := hrow p hp
    have hxd : gs[p].how = x.dec := by rw [← hx2]; rfl
    rw [hxd] at e3
    by_cases hd0 : x.dec = 0
    · rw [hd0] at e3
      obtain ⟨y3, hset⟩ := hX.setHow hp 2 e0
      have ha : (abortF x).dec = 2 := by unfold abortF; rw [if_pos hd0]
      have HF := Lib.hid (show Cr w0 _ c (putS id abortF (gs.map OneG.ent)) R rows from ⟨_, _, put_set hp hid hnd (by
        show (gs[p].id, _) = _
        rw [hid, hx2]
        unfold abortF
        rw [if_pos hd0, ← hx2]
        rfl), hset⟩)
      obtain ⟨a8, cp8, hv8, c8, -, -, hrow8⟩ := hset.facts
      cases hv8
      rw [List.length_set] at c8
      obtain ⟨y8, hy8, -, -, -, -, e83, -⟩ := hrow8 p (by rw [List.length_set]; exact hp)
      cases hy8
      simp only [List.getElem_set_self] at e83
      have HA := Lib.hid ha
      clear hX hx hx2 hid hno hrow he1 he2 he3 e0 e1 e2 e4 hxd hset hrow8 ha hd0 hnd
      go_enter Try.func25, Try.ntmps25
      go_wp2_with fail
      refine HAT.out.mono ?_
      rintro e w1 ⟨rfl, hW⟩
      subst w1
      go_wp2_with fail
      go_ret2
      rw [HD.out, HA.out]
      exact ⟨rfl, HF.out⟩
    · have ha : abortF x = x := by unfold abortF; rw [if_neg hd0]
      have HC := Lib.hid (show Cr w0 w c (putS id abortF (gs.map OneG.ent)) R rows from ⟨_, gs, by
        rw [← put_set (φ := abortF) hp hid hnd (g' := gs[p]) (by rw [hx2, ha, ← hx2, ← hid]; rfl), List.set_getElem_self], hX⟩)
      obtain ⟨dd, hdd⟩ : ∃ dd, x.dec = dd := ⟨_, rfl⟩
      have HA := Lib.hid (show (abortF x).dec = dd by rw [ha, hdd])
      rw [hdd] at e3 hd0
      have hdb : (dd == 0) = false := by simpa using hd0
      clear hX hx hx2 hid hno hrow he1 he2 he3 e0 e1 e2 e4 hxd hdd ha hnd
      go_enter Try.func25, Try.ntmps25
      go_wp2_with fail
      refine HAT.out.mono ?_
      rintro e w1 ⟨rfl, hW⟩
      subst w1
      go_wp2_with fail
      go_ret2
      rw [HD.out, HA.out]
      exact ⟨rfl, HC.out⟩
end
end Go.Proofs.Ytebmmbommkpjaaa

/-
  The document's own Coord: Done, Vote.
-/
namespace Go.Proofs.Ytebmmbommkpjaaa
open Go.RowKit Go.Av
theorem risF_nodup : ∀ (l : List Int) (last : Int), risF last l = true → l.Nodup
  | [], _, _ => List.nodup_nil
  | x :: r, last, h => by
    rw [risF_cons] at h
    simp only [Bool.and_eq_true] at h
    rw [List.nodup_cons]
    refine ⟨fun hm => ?_, risF_nodup r x h.2⟩
    have := (risF_all r x h.2 x hm).1
    omega
theorem owesL_sub : ∀ (ss : List Int) (ds : List Bool), ∀ s ∈ owesL ss ds, s ∈ ss
  | [], ds, s, h => by cases ds <;> simp [owesL] at h
  | x :: ss, [], s, h => by simp [owesL] at h
  | x :: ss, d :: ds, s, h => by
    unfold owesL at h
    split at h
    · exact List.mem_cons_of_mem _ (owesL_sub ss ds s h)
    · rcases List.mem_cons.1 h with rfl | h
      · simp
      · exact List.mem_cons_of_mem _ (owesL_sub ss ds s h)
theorem owes_set {k : Int} : ∀ {ss : List Int} {ds : List Bool} {i : Nat}, ss.Nodup → ds.length = ss.length → idxF k ss = some i → owesL ss (ds.set i true) = (owesL ss ds).filter fun y => !decide (y = k)
  | [], _, _, _, _, h => by cases h
  | x :: ss, [], i, _, hl, _ => by simp at hl
  | x :: ss, d :: ds, i, hn, hl, h => by
    rw [List.nodup_cons] at hn
    unfold idxF at h
    split at h
    · rename_i hxk
      cases h
      subst hxk
      rw [List.set_cons_zero]
      have hno : (owesL ss ds).filter (fun y => !decide (y = x)) = owesL ss ds := by
        rw [List.filter_eq_self]
        intro s hs
        have : s ≠ x := fun e => hn.1 (e ▸ owesL_sub ss ds s hs)
        simpa using this
      rw [owesL, if_pos rfl, owesL]
      split
      · exact hno.symm
      · rw [List.filter_cons]
        simp [hno]
    · rename_i hxk
      cases hj : idxF k ss with
      | none => rw [hj] at h; cases h
      | some j =>
        rw [hj] at h
        cases h
        rw [List.set_cons_succ, owesL, owesL, owes_set hn.2 (by simpa using hl) hj]
        split
        · rfl
        · rw [List.filter_cons]
          simp [hxk]
theorem idx_lt {k : Int} : ∀ {l : List Int} {i : Nat}, idxF k l = some i → i < l.length
  | [], _, h => by cases h
  | x :: l, i, h => by
    unfold idxF at h
    split at h
    · cases h; simp
    · cases hj : idxF k l with
      | none => rw [hj] at h; cases h
      | some j =>
        rw [hj] at h
        cases h
        have := idx_lt hj
        simp
        omega
section
variable {w0 w : World} {c : Nat} {T : CoS} {R : List Thing} {rows : List (Value × Bs)} {v : Value} {gs l1 l2 : List OneG} {g : OneG}
set_option maxRecDepth 100000 in
set_option maxHeartbeats 2000000 in
theorem cr_done (h : Cr w0 w c T R rows) (hI : InvC T) (id k : Int) :
    Calls Try.prog 24 #[.pointer (some ⟨c, 0, none⟩), .int .i64 id, .int .i64 k] w fun e w' => e = .returned (.int .i64 (doneS T id k).1) ∧ Cr w0 w' c (doneS T id k).2 R rows := by
  cases hx : lookS id T with
  | none =>
    have HD := Lib.hid (show doneS T id k = (4, T) by unfold doneS; rw [hx])
    obtain ⟨v, gs, hT, hX⟩ := h
    subst hT
    have HAT := Lib.hid (cr_at_no hX id (ent_none hx))
    have HC := Lib.hid (show Cr w0 w c (gs.map OneG.ent) R rows from ⟨v, gs, rfl, hX⟩)
    clear hX
    clear hx hI
    go_enter Try.func24, Try.ntmps24
    go_wp2_with fail
    refine HAT.out.mono ?_
    rintro e w1 ⟨rfl, hW⟩
    subst w1
    go_wp2_with fail
    go_ret
    rw [HD.out]
    exact ⟨rfl, HC.out⟩
  | some x =>
    have HIE := Lib.hid (show _ ∧ _ from ⟨(hI.2 _ (look_mem hx)).1, hI.1⟩)
    clear hI
    have HX0 := Lib.hid hx
    obtain ⟨v, gs, hT, hX⟩ := h
    subst hT
    obtain ⟨p, hp, hid, hx2, hno⟩ := ent_some hx
    have HAT := Lib.hid (cr_at hX id p hp hid hno)
    obtain ⟨a, cp, rfl, c0, hcp, hcm, hrow⟩ := hX.facts
    unfold maxLen at hcm
    have h1000 := hX.few
    obtain ⟨y, rfl, hys, e0, e1, e2, e3, e4, he1, he2, he3⟩ := hrow p hp
    have hxs : gs[p].sh = x.shards := by rw [← hx2]; rfl
    have hxd : gs[p].how = x.dec := by rw [← hx2]; rfl
    rw [hxd] at e3
    rw [hxs] at he1
    obtain ⟨E1, hr1⟩ := he1
    have HPL := Lib.hid (fun W (hu : Upd w W [] []) => place_any gs[p].vs x.shards E1 W (hr1.frame (hu.same hr1.lt (by simp))) k)
    have HC := Lib.hid (show Cr w0 w c (gs.map OneG.ent) R rows from ⟨_, gs, rfl, hX⟩)
    cases hi : idxF k x.shards with
    | none =>
      have HD := Lib.hid (show doneS (gs.map OneG.ent) id k = (4, gs.map OneG.ent) by unfold doneS; rw [hx]; dsimp only; rw [hi])
      rw [show idxS k x.shards = -1 by unfold idxS; rw [hi]] at HPL
      obtain ⟨vs, hvs⟩ : ∃ vs, gs[p].vs = vs := ⟨_, rfl⟩
      rw [hvs] at HPL e1
      clear hX hx hx2 hid hno hrow he2 he3 e0 e2 e4 e3 hxd hxs hr1 hi hvs
      go_enter Try.func24, Try.ntmps24
      go_wp2_with fail
      refine HAT.out.mono ?_
      rintro e w1 ⟨rfl, hW⟩
      subst w1
      go_wp2_with fail
      refine (HPL.out w (Upd.refl _ _)).mono ?_
      rintro e w1 ⟨rfl, hW⟩
      subst w1
      go_wp2_with fail
      go_ret
      rw [HD.out]
      exact ⟨rfl, HC.out⟩
    | some i =>
    rw [show idxS k x.shards = i by unfold idxS; rw [hi]] at HPL
    have hil := idx_lt hi
    by_cases hd0 : x.dec = 0
    · have HD := Lib.hid (show doneS (gs.map OneG.ent) id k = (15, gs.map OneG.ent) by unfold doneS; rw [hx]; dsimp only; rw [hi]; dsimp only; rw [if_pos hd0])
      rw [hd0] at e3
      obtain ⟨vs, hvs⟩ : ∃ vs, gs[p].vs = vs := ⟨_, rfl⟩
      rw [hvs] at HPL e1
      clear hX hx hx2 hid hno hrow he2 he3 e0 e2 e4 hxd hxs hr1 hi hvs hd0
      go_enter Try.func24, Try.ntmps24
      go_wp2_with fail
      refine HAT.out.mono ?_
      rintro e w1 ⟨rfl, hW⟩
      subst w1
      go_wp2_with fail
      refine (HPL.out w (Upd.refl _ _)).mono ?_
      rintro e w1 ⟨rfl, hW⟩
      subst w1
      go_wp2_with fail
      go_ret
      rw [HD.out]
      exact ⟨rfl, HC.out⟩
    have HD := Lib.hid (show doneS (gs.map OneG.ent) id k = (0, putS id (doneF k) (gs.map OneG.ent)) by unfold doneS; rw [hx]; dsimp only; rw [hi]; dsimp only; rw [if_neg hd0])
    obtain ⟨b1, b2, b3⟩ := hX.wf gs[p] (List.getElem_mem hp)
    rw [hxs] at b2
    obtain ⟨E3, hr3⟩ := he3
    obtain ⟨ad, nd, cd, hvd, hld, hnd2, hcd, -⟩ := _root_.id hr3
    rw [List.length_map, Nat.mul_one] at hld
    obtain ⟨z, hz, hzs, ez⟩ := read_cellI (hvd ▸ hr3) (i := i) (x := bov (gs[p].dn[i]'(by omega))) (by rw [List.getElem?_map, List.getElem?_eq_getElem (by omega)]; rfl)
    subst hz
    have HXD := Lib.hid (fun W (hu : Upd w W [] []) => (hX.keep hu).setDone hp hvd (i := i) (by omega))
    have HPS := Lib.hid (show (gs.set p { gs[p] with dn := gs[p].dn.set i true }).map OneG.ent = putS id (doneF k) (gs.map OneG.ent) from put_set hp hid HIE.out.2 (by
      show (gs[p].id, _) = _
      rw [hid, hx2]
      unfold doneF
      rw [← hx2]
      show (id, EntS.mk gs[p].sh gs[p].vo gs[p].how (owesL gs[p].sh (gs[p].dn.set i true))) = _
      rw [owes_set (ds := gs[p].dn) (by rw [hxs]; exact risF_nodup _ _ HIE.out.1.ris) (by rw [b2, hxs]) (by rw [hxs]; exact hi)]
      rfl))
    rw [hvd] at e4
    unfold maxLen at hcd
    obtain ⟨bd, hbd⟩ : ∃ bd, gs[p].dn[i]'(by omega) = bd := ⟨_, rfl⟩
    rw [hbd] at ez
    unfold bov at ez
    obtain ⟨dd, hdd⟩ : ∃ dd, x.dec = dd := ⟨_, rfl⟩
    rw [hdd] at e3 hd0
    have hdb : (dd == 0) = false := by simpa using hd0
    obtain ⟨vs, hvs⟩ : ∃ vs, gs[p].vs = vs := ⟨_, rfl⟩
    rw [hvs] at HPL e1
    have hin : i < nd := by omega
    clear hX hx hx2 hid hno hrow he2 e0 e2 hxd hxs hr1 hi hvs hd0 hdd hvd hr3 b1 b2 b3 hbd hld
    go_enter Try.func24, Try.ntmps24
    go_wp2_with fail
    refine HAT.out.mono ?_
    rintro e w1 ⟨rfl, hW⟩
    subst w1
    go_wp2_with fail
    refine (HPL.out w (Upd.refl _ _)).mono ?_
    rintro e w1 ⟨rfl, hW⟩
    subst w1
    go_wp2_with fail
    refine wp_region_M (fun W => W.cell? ⟨c, 0, none⟩ = some (.slice (some y) gs.length cp) ∧ W.cell? ⟨(y.add (p * 5)).block, (y.add (p * 5)).off + 1, none⟩ = some vs ∧ W.cell? ⟨(y.add (p * 5)).block, (y.add (p * 5)).off + 4, none⟩ = some (.slice (some z) nd cd)) 18 (by kernel_rfl) ?_
    refine wpAnyM_take (by kernel_rfl) (by intro c a d v w h; cases d <;> exact h) [(0, false), (1, false), (2, false), (3, true), (4, false), (5, false), (6, false), (7, true), (8, false), (9, false), (10, false), (11, true), (12, false), (13, false), (14, false), (15, true), (16, false)] (fuel := 3) (by kernel_rfl) ?_
    apply Exists.intro; refine ⟨?_, ⟨c0, e1, e4⟩, ?_⟩
    · iterate 17 ((first | (apply yieldN; (· (simp only [List.getElem?_toArray, List.getElem?_cons_succ, List.getElem?_cons_zero]; try rfl)); (· rfl)) | ((first | apply yieldP | apply yieldL); (· (simp only [List.getElem?_toArray, List.getElem?_cons_succ, List.getElem?_cons_zero]; try rfl)); (· rfl); (· (intros; go_simp; try with_reducible rfl)))); (· (simp only [Act.put, List.setIfInBounds_toArray, List.set_cons_zero, List.set_cons_succ]; try rfl)))
      exact rfl
    refine wpAnyM_one (fuel := 2) (i := 17) (by kernel_rfl) (by rfl) (fun K hK => ?_)    -- CALL
    go_wp2_with fail
    refine (HPL.out w.drew ((Upd.refl w []).drew)).mono ?_
    rintro e w1 ⟨rfl, hW⟩
    subst w1
    obtain ⟨d1, d2, d3, d4⟩ := HXD.out w.drew ((Upd.refl w []).drew)
    have HF := Lib.hid d4
    clear d4
    go_wp2_with fail
    refine hK _ _ ⟨c0, e1, e4⟩ ?_
    clear hK
    refine wpAnyM_of_any _ _ _ _ (by decide) ?_
    refine wpAny_list [18, 19] (fuel := 0) (by kernel_rfl) ?_
    simp only [List.filterMap_cons, List.filterMap_nil, List.getElem?_toArray, List.getElem?_cons_succ, List.getElem?_cons_zero]
    go_wp2_with fail
    go_ret
    rw [HD.out]
    exact ⟨rfl, _, _, HPS.out, HF.out⟩
end
end Go.Proofs.Ytebmmbommkpjaaa

/-
  The document's own Coord: Vote.
-/
namespace Go.Proofs.Ytebmmbommkpjaaa
open Go.RowKit Go.Av
section
variable {w0 w : World} {c : Nat} {T : CoS} {R : List Thing} {rows : List (Value × Bs)} {v : Value} {gs l1 l2 : List OneG} {g : OneG}
/-- What is read of one element. -/
theorem CrX.at (h : CrX w0 w c v gs R rows) {p : Nat} (hp : p < gs.length) {y : Addr} {cp : Nat} (hv : v = .slice (some y) gs.length cp) :
    w.cell? ⟨c, 0, none⟩ = some (.slice (some y) gs.length cp) ∧ w.cell? (y.add (p * 5)) = some (.int .i64 gs[p].id) ∧ w.cell? ⟨(y.add (p * 5)).block, (y.add (p * 5)).off + 2, none⟩ = some gs[p].vv ∧
      w.cell? ⟨(y.add (p * 5)).block, (y.add (p * 5)).off + 3, none⟩ = some (.int .i64 gs[p].how) ∧ ∃ E, ReadRow w 1 gs[p].vv (gs[p].vo.map iv) E := by
  subst hv
  obtain ⟨a8, c8, hv8, h0, -, -, hrow⟩ := h.facts
  cases hv8
  obtain ⟨y8, hy8, -, a0, -, a2, a3, -, -, r2, -⟩ := hrow p hp
  cases hy8
  exact ⟨h0, a0, a2, a3, r2⟩

set_option maxRecDepth 100000 in
set_option maxHeartbeats 4000000 in
theorem cr_vote (h : Cr w0 w c T R rows) (hI : InvC T) (id k : Int) (ok : Bool) :
    Calls Try.prog 23 #[.pointer (some ⟨c, 0, none⟩), .int .i64 id, .int .i64 k, .bool ok] w fun e w' => e = .returned (.int .i64 (voteS T id k ok).1) ∧ Cr w0 w' c (voteS T id k ok).2 R rows := by
  cases hx : lookS id T with
  | none =>
    have HD := Lib.hid (show voteS T id k ok = (4, T) by unfold voteS; rw [hx])
    obtain ⟨v, gs, hT, hX⟩ := h
    subst hT
    have HAT := Lib.hid (cr_at_no hX id (ent_none hx))
    have HC := Lib.hid (show Cr w0 w c (gs.map OneG.ent) R rows from ⟨v, gs, rfl, hX⟩)
    clear hX
    clear hx hI
    go_enter Try.func23, Try.ntmps23
    go_wp2_with fail
    refine HAT.out.mono ?_
    rintro e w1 ⟨rfl, hW⟩
    subst w1
    go_wp2_with fail
    go_ret
    rw [HD.out]
    exact ⟨rfl, HC.out⟩
  | some x =>
    have HIE := Lib.hid (show _ ∧ _ from ⟨(hI.2 _ (look_mem hx)).1, hI.1⟩)
    clear hI
    obtain ⟨v, gs, hT, hX⟩ := h
    subst hT
    obtain ⟨p, hp, hid, hx2, hno⟩ := ent_some hx
    have HAT := Lib.hid (cr_at hX id p hp hid hno)
    obtain ⟨a, cp, rfl, c0, hcp, hcm, hrow⟩ := hX.facts
    unfold maxLen at hcm
    have h1000 := hX.few
    obtain ⟨y, rfl, hys, e0, e1, e2, e3, e4, he1, he2, he3⟩ := hrow p hp
    have hxs : gs[p].sh = x.shards := by rw [← hx2]; rfl
    have hxd : gs[p].how = x.dec := by rw [← hx2]; rfl
    have hxv : gs[p].vo = x.votes := by rw [← hx2]; rfl
    rw [hxd] at e3
    rw [hxs] at he1
    rw [hxv] at he2
    obtain ⟨E1, hr1⟩ := he1
    have HPL := Lib.hid (place_any gs[p].vs x.shards E1 w hr1 k)
    have HC := Lib.hid (show Cr w0 w c (gs.map OneG.ent) R rows from ⟨_, gs, rfl, hX⟩)
    cases hi : idxF k x.shards with
    | none =>
      have HD := Lib.hid (show voteS (gs.map OneG.ent) id k ok = (4, gs.map OneG.ent) by unfold voteS; rw [hx]; dsimp only; rw [hi])
      rw [show idxS k x.shards = -1 by unfold idxS; rw [hi]] at HPL
      obtain ⟨vs, hvs⟩ : ∃ vs, gs[p].vs = vs := ⟨_, rfl⟩
      rw [hvs] at HPL e1
      clear hX hx hx2 hid hno hrow he2 he3 e0 e2 e4 e3 hxd hxs hxv hr1 hi hvs
      go_enter Try.func23, Try.ntmps23
      go_wp2_with fail
      refine HAT.out.mono ?_
      rintro e w1 ⟨rfl, hW⟩
      subst w1
      go_wp2_with fail
      refine HPL.out.mono ?_
      rintro e w1 ⟨rfl, hW⟩
      subst w1
      go_wp2_with fail
      go_ret
      rw [HD.out]
      exact ⟨rfl, HC.out⟩
    | some i =>
    rw [show idxS k x.shards = i by unfold idxS; rw [hi]] at HPL
    have hil := idx_lt hi
    obtain ⟨b1, b2, b3⟩ := hX.wf gs[p] (List.getElem_mem hp)
    rw [hxv, hxs] at b1
    rw [hxs] at b3
    have HD := Lib.hid (show voteS (gs.map OneG.ent) id k ok = (0, putS id (voteF i ok) (gs.map OneG.ent)) by unfold voteS; rw [hx]; dsimp only; rw [hi])
    have HPS := Lib.hid (show ∀ g' : OneG, g'.ent = (id, voteF i ok x) → (gs.set p g').map OneG.ent = putS id (voteF i ok) (gs.map OneG.ent) from fun g' hg => put_set hp hid HIE.out.2 (by rw [hg, hx2]))
    obtain ⟨E2, hr2⟩ := he2
    obtain ⟨av, nv, cv, hvv, hlv, hnv, hcv, -⟩ := _root_.id hr2
    rw [List.length_map, Nat.mul_one] at hlv
    obtain ⟨z, hz, hzs, ez⟩ := read_cellI (hvv ▸ hr2) (i := i) (x := iv (x.votes[i]'(by omega))) (by rw [List.getElem?_map, List.getElem?_eq_getElem (by omega)]; rfl)
    subst hz
    have hgd : x.votes.getD i 0 = x.votes[i]'(by omega) := by rw [List.getD_eq_getElem?_getD, List.getElem?_eq_getElem (by omega)]; rfl
    obtain ⟨vo, hvo⟩ : ∃ vo, x.votes[i]'(by omega) = vo := ⟨_, rfl⟩
    rw [hvo] at ez hgd
    unfold iv at ez
    have hin : i < nv := by omega
    unfold maxLen at hcv
    rw [hvv] at e2
    obtain ⟨vs, hvs⟩ : ∃ vs, gs[p].vs = vs := ⟨_, rfl⟩
    rw [hvs] at HPL e1
    have HX := Lib.hid (show _ ∧ _ ∧ _ ∧ _ ∧ _ ∧ _ ∧ _ ∧ _ from ⟨hX, hid, hxs, hxd, hxv, hvv, e0, hx2⟩)
    have hent : ∀ (a : List Int) (d : Int), ({ gs[p] with vo := a, how := d } : OneG).ent = (id, { x with votes := a, dec := d }) := fun a d => by
      show (gs[p].id, _) = _
      rw [hid, ← hx2]
      rfl
    have HEN := Lib.hid hent
    have HWS := Lib.hid (show _ ∧ _ from ⟨hlv, b1⟩)
    clear hX hx hid hno hrow he3 e0 e4 hxd hxs hxv hr1 hi hvs hvv hr2 hx2 b2 hent
    obtain ⟨dd, hdd⟩ : ∃ dd, x.dec = dd := ⟨_, rfl⟩
    rw [hdd] at e3
    by_cases hq : vo ≠ 0 ∨ dd ≠ 0
    · have HC2 := Lib.hid (show Cr w0 w c (putS id (voteF i ok) (gs.map OneG.ent)) R rows from ⟨_, gs, by
        rw [← HPS.out gs[p] (by rw [show voteF i ok x = x by unfold voteF; rw [if_pos (by rw [hgd, hdd]; exact hq)], ← HX.out.2.2.2.2.2.2.2, ← HX.out.2.1]; rfl), List.set_getElem_self], HX.out.1⟩)
      clear hgd hvo hdd hlv b1 b3
      by_cases hd0 : dd = 0
      · have hv0 : vo ≠ 0 := by rcases hq with h | h; exact h; exact absurd hd0 h
        have hvb : (vo != 0) = true := by simpa using hv0
        subst hd0
        clear hq hv0
        go_enter Try.func23, Try.ntmps23
        go_wp2_with fail
        refine HAT.out.mono ?_
        rintro e w1 ⟨rfl, hW⟩
        subst w1
        go_wp2_with fail
        refine HPL.out.mono ?_
        rintro e w1 ⟨rfl, hW⟩
        subst w1
        go_wp2_with fail
        refine HPL.out.mono ?_
        rintro e w1 ⟨rfl, hW⟩
        subst w1
        go_wp2_with fail
        go_ret
        rw [HD.out]
        exact ⟨rfl, HC2.out⟩
      · have hdb : (dd != 0) = true := by simpa using hd0
        clear hq hd0
        go_enter Try.func23, Try.ntmps23
        go_wp2_with fail
        refine HAT.out.mono ?_
        rintro e w1 ⟨rfl, hW⟩
        subst w1
        go_wp2_with fail
        refine HPL.out.mono ?_
        rintro e w1 ⟨rfl, hW⟩
        subst w1
        go_wp2_with fail
        refine HPL.out.mono ?_
        rintro e w1 ⟨rfl, hW⟩
        subst w1
        go_wp2_with fail
        go_ret
        rw [HD.out]
        exact ⟨rfl, HC2.out⟩
    have hv0 : vo = 0 := Classical.byContradiction fun h => hq (.inl h)
    have hd0 : dd = 0 := Classical.byContradiction fun h => hq (.inr h)
    subst hv0 hd0
    have HVF := Lib.hid (show voteF i ok x = { x with votes := x.votes.set i (if ok then 1 else 2), dec := if ok then (if wholeS (x.votes.set i 1) then 1 else 0) else 2 } by
      unfold voteF
      rw [if_neg (by rw [hgd, hdd]; simp)])
    clear hq hgd hvo hdd hlv b1
    cases ok with
    | false =>
      obtain ⟨f1, f2, f3, hX1⟩ := HX.out.1.setVote hp HX.out.2.2.2.2.2.1 hin 2
      rw [show gs.length = (gs.set p { gs[p] with vo := gs[p].vo.set i 2 }).length by rw [List.length_set]] at hX1
      obtain ⟨k0, k1, k2, k3, -⟩ := hX1.at (p := p) (by rw [List.length_set]; exact hp) rfl
      simp only [List.getElem_set_self] at k1 k2 k3
      obtain ⟨y3, hX2⟩ := hX1.setHow (p := p) (by rw [List.length_set]; exact hp) 2 (by simp only [List.getElem_set_self]; exact k1)
      have HF := Lib.hid (show Cr w0 _ c (putS id (voteF i false) (gs.map OneG.ent)) R rows from ⟨_, _, by
        simp only [List.set_set, List.getElem_set_self]
        refine HPS.out _ ?_
        rw [HVF.out]
        have := HEN.out (gs[p].vo.set i 2) 2
        rw [HX.out.2.2.2.2.1] at this ⊢
        exact this, hX2⟩)
      rw [HX.out.2.2.2.1] at k3
      clear hX1 hX2
      go_enter Try.func23, Try.ntmps23
      go_wp2_with fail
      refine HAT.out.mono ?_
      rintro e w1 ⟨rfl, hW⟩
      subst w1
      go_wp2_with fail
      refine HPL.out.mono ?_
      rintro e w1 ⟨rfl, hW⟩
      subst w1
      go_wp2_with fail
      refine HPL.out.mono ?_
      rintro e w1 ⟨rfl, hW⟩
      subst w1
      go_wp2_with fail
      go_ret
      rw [HD.out]
      exact ⟨rfl, HF.out⟩
    | true =>
      obtain ⟨f1, f2, f3, hX1⟩ := HX.out.1.setVote hp HX.out.2.2.2.2.2.1 hin 1
      rw [show gs.length = (gs.set p { gs[p] with vo := gs[p].vo.set i 1 }).length by rw [List.length_set]] at hX1
      obtain ⟨k0, k1, k2, k3, -⟩ := hX1.at (p := p) (by rw [List.length_set]; exact hp) rfl
      simp only [List.getElem_set_self] at k1 k2 k3
      obtain ⟨y3, hX2⟩ := hX1.setHow (p := p) (by rw [List.length_set]; exact hp) 1 (by simp only [List.getElem_set_self]; exact k1)
      simp only [List.set_set, List.getElem_set_self, List.length_set] at hX2
      obtain ⟨vo1, hvo1⟩ : ∃ vo1, gs[p].vo.set i 1 = vo1 := ⟨_, rfl⟩
      rw [hvo1] at hX2
      have hvl : vo1.length = nv := by rw [← hvo1, List.length_set, HX.out.2.2.2.2.1]; exact HWS.out.1
      have HV1 := Lib.hid (show _ ∧ _ from ⟨hvo1, hvl⟩)
      rw [HX.out.2.2.2.1] at k3
      have HX2 := Lib.hid hX2
      clear hX1 hX2 hvo1 hvl
      go_enter Try.func23, Try.ntmps23
      go_wp2_with fail
      refine HAT.out.mono ?_
      rintro e w1 ⟨rfl, hW⟩
      subst w1
      go_wp2_with fail
      refine HPL.out.mono ?_
      rintro e w1 ⟨rfl, hW⟩
      subst w1
      go_wp2_with fail
      refine HPL.out.mono ?_
      rintro e w1 ⟨rfl, hW⟩
      subst w1
      obtain ⟨w2, hw2⟩ : ∃ z', z' = (w.setCell (z.add i) (.int .i64 1)).setCell ⟨(y.add (p * 5)).block, (y.add (p * 5)).off + 3, none⟩ (.int .i64 1) := ⟨_, rfl⟩
      go_wp2_with fail
      rw [← hw2] at HX2 ⊢
      clear hw2 f1 f2 f3 k0 k1 k2 k3 y3 c0 e1 e2 e3 ez
      go_loopg [12] nv (fun m vi wr => ∃ q : Nat, q ≤ nv ∧ m = nv - q ∧ vi = .int .i64 (q : Int) ∧ CrX w0 wr c (.slice (some y) gs.length cp) (gs.set p { gs[p] with vo := vo1, how := if (vo1.take q).all (fun x => x == 1) then 1 else 0 }) R rows)
      case atStart => exact ⟨0, Nat.zero_le _, rfl, rfl, HX2.out⟩
      case round =>
        clear HX2
        obtain ⟨q, hq, hm, hvi, hXq⟩ := hrel
        subst hvi
        obtain ⟨hw, hhw⟩ : ∃ hw : Int, (if (vo1.take q).all (fun x => x == 1) then 1 else 0) = hw := ⟨_, rfl⟩
        rw [hhw] at hXq
        obtain ⟨k0, k1, k2, k3, E3, hr3⟩ := hXq.at (p := p) (by rw [List.length_set]; exact hp) (by rw [List.length_set])
        simp only [List.getElem_set_self, List.length_set] at k0 k1 k2 k3 hr3
        rw [HX.out.2.2.2.2.2.1] at k2 hr3
        have HXQ := Lib.hid (show _ ∧ _ from ⟨hXq, k1⟩)
        have HH := Lib.hid hhw
        by_cases hlt : q < nv
        · obtain ⟨z2, hz2, -, eq⟩ := read_cellI hr3 (i := q) (x := iv (vo1[q]'(by rw [HV1.out.2]; exact hlt))) (by rw [List.getElem?_map, List.getElem?_eq_getElem (by rw [HV1.out.2]; exact hlt)]; rfl)
          cases hz2
          have htk : (vo1.take (q + 1)).all (fun x => x == 1) = ((vo1.take q).all (fun x => x == 1) && (vo1[q]'(by rw [HV1.out.2]; exact hlt) == 1)) := by
            rw [List.take_succ_eq_append_getElem (by rw [HV1.out.2]; exact hlt), List.all_append]
            simp
          obtain ⟨u, hu⟩ : ∃ u, vo1[q]'(by rw [HV1.out.2]; exact hlt) = u := ⟨_, rfl⟩
          rw [hu] at eq htk
          unfold iv at eq
          by_cases hu1 : u = 1
          · have hub : (u != 1) = false := by simp [hu1]
            have HNX := Lib.hid (show (if (vo1.take (q + 1)).all (fun x => x == 1) then 1 else 0) = hw by rw [htk, hu1, ← HH.out]; simp)
            clear hXq hr3 hhw htk hu hu1 k1 k3
            go_wp2_with fail
            go_roundg (nv - (q + 1))
            case rel => exact ⟨q + 1, by omega, rfl, by go_num, by rw [HNX.out]; exact HXQ.out.1⟩
            case measure => omega
          · have hub : (u != 1) = true := by simpa using hu1
            have hXs := hXq
            rw [show gs.length = (gs.set p { gs[p] with vo := vo1, how := hw }).length by rw [List.length_set]] at hXs
            obtain ⟨y4, hX3⟩ := hXs.setHow (p := p) (by rw [List.length_set]; exact hp) 0 (by simp only [List.getElem_set_self]; exact k1)
            simp only [List.set_set, List.getElem_set_self, List.length_set] at hX3
            have HX3 := Lib.hid hX3
            have HNX := Lib.hid (show (if (vo1.take (q + 1)).all (fun x => x == 1) then (1 : Int) else 0) = 0 by
              rw [htk]
              have : (u == 1) = false := by simpa using hu1
              rw [this]
              simp)
            clear hXq hr3 hhw htk hu hu1 k1 hXs hX3
            go_wp2_with fail
            go_roundg (nv - (q + 1))
            case rel => exact ⟨q + 1, by omega, rfl, by go_num, by rw [HNX.out]; exact HX3.out⟩
            case measure => omega
        · have HF := Lib.hid (show Cr w0 wr c (putS id (voteF i true) (gs.map OneG.ent)) R rows from ⟨_, _, HPS.out _ (by
            rw [HVF.out, HEN.out]
            have hqn : vo1.take q = vo1 := List.take_of_length_le (by rw [HV1.out.2]; omega)
            rw [← HH.out, hqn, ← HV1.out.1, HX.out.2.2.2.2.1]
            rfl), HXQ.out.1⟩)
          clear hXq hr3 hhw k1 k3
          go_wp2_with fail
          go_ret
          rw [HD.out]
          exact ⟨rfl, HF.out⟩
end
end Go.Proofs.Ytebmmbommkpjaaa

/-
  The document's own Coord: Begin, where an entry is new.
-/
namespace Go.Proofs.Ytebmmbommkpjaaa
open Go.RowKit Go.Av
theorem infoOne : (Try.prog.info? 85).map (fun i => (i.zero, i.size, i.bytes)) = some (some (.agg #[.int .i64 0, .slice none 0 0, .slice none 0 0, .int .i64 0, .slice none 0 0]), 5, 88) := by kernel_rfl
theorem infoBool : (Try.prog.info? 4).map (fun i => (i.zero, i.size, i.bytes)) = some (some (.bool false), 1, 1) := by kernel_rfl
theorem zeroB_row (w : World) (z : Nat) (hz : z ≤ 30000) : OwnRow (w.alloc (.cells (madeCells #[.bool false] z) 4)) 1 (.slice (some ⟨w.heap.size, 0, none⟩) z z) ((List.replicate z false).map bov) [w.heap.size] :=
  OwnRow.made w 4 1 z z (madeCells #[.bool false] z) _ (by simp) (Nat.le_refl _) (by unfold maxLen; omega) (by rw [size_madeCells]; omega) (by
    rw [toList_madeCells_one, Nat.mul_one, List.take_of_length_le (by simp), List.map_replicate]
    rfl)
theorem wpAnyM_let {P : Program} {ops : Array Oper} {Q : Exit → Act → World → Prop} {md : Region.Mode} {S : World → Prop} {N n : Nat} {L : Array Bool} {a : Act} {w : World} (h : ∀ a0, a0 = a → wpAnyM P md ops Q S N n L a0 w) : wpAnyM P md ops Q S N n L a w := h a rfl
theorem sep_subK {w0 w : World} {R : List Thing} {rows : List (Value × Bs)} : ∀ (A : List Thing), Sep w0 w (A ++ R) rows → Sep w0 w R rows
  | [], h => h
  | _ :: A, h => sep_subK A (Sep.drop h)
/-- What is true while an entry's parts are made, in whatever order. -/
def BegG (w0 : World) (c : Nat) (vv : Value) (gs : List OneG) (R : List Thing) (rows : List (Value × Bs)) (id : Int) (v : Value) (l : List Int) (E : List Nat) (a0 : Act) (L : Array Bool) (a : Act) (w : World) : Prop :=
  ∃ x42 x44 x47 x50 x8 x51 : Value, a = (((((a0.put (some 42) x42).put (some 44) x44).put (some 47) x47).put (some 50) x50).put (some 8) x8).put (some 51) x51 ∧ (L.getD 1 false = true → ∃ ad, x42 = .slice ad 0 0) ∧
    (L.getD 10 false = true → x51 = .agg #[.int .i64 id, x44, x47, .int .i64 0, x50] ∧ L.getD 3 false = true ∧ L.getD 6 false = true ∧ L.getD 9 false = true) ∧ ReadRow w 1 v (l.map iv) E ∧
    ∃ A3 A6 A9 A11 : List Thing, (L.getD 3 false = true → A3 = [ThRow 1 x44 (l.map iv)]) ∧ (L.getD 6 false = true → A6 = [ThRow 1 x47 ((List.replicate l.length (0 : Int)).map iv)]) ∧
      (L.getD 9 false = true → A9 = [ThRow 1 x50 ((List.replicate l.length false).map bov)]) ∧
      (L.getD 11 false = true → ∃ b, x8 = .pointer (some ⟨b, 0, none⟩) ∧ A11 = [ThCell b (.cells #[.int .i64 0, .slice none 0 0, .slice none 0 0, .int .i64 0, .slice none 0 0] 85 (0, 0))]) ∧
      CrX w0 w c vv gs (A3 ++ (A6 ++ (A9 ++ (A11 ++ R)))) rows
theorem CrX.permR {w0 w : World} {c : Nat} {v : Value} {gs : List OneG} {R R' : List Thing} {rows : List (Value × Bs)} (h : CrX w0 w c v gs R rows) (hp : R.Perm R') : CrX w0 w c v gs R' rows :=
  ⟨h.wf, h.few, h.sep.perm (((hp.append_left _).cons _).cons _)⟩
theorem CrX.addR {w0 w w' : World} {c : Nat} {v : Value} {gs : List OneG} {R : List Thing} {rows : List (Value × Bs)} {X : Thing} {D : List Nat} (h : CrX w0 w c v gs R rows) (hu : Upd w w' [] D) (hX : X.P w' D) : CrX w0 w' c v gs (X :: R) rows :=
  ⟨h.wf, h.few, (h.sep.add hu hX).perm (List.perm_middle (l₁ := _ :: _ :: gs.flatMap OneG.th)).symm⟩
theorem CrX.sub {w0 w : World} {c : Nat} {v : Value} {gs : List OneG} {A R : List Thing} {rows : List (Value × Bs)} (h : CrX w0 w c v gs (A ++ R) rows) : CrX w0 w c v gs R rows := by
  have h1 := h.permR (List.perm_append_comm (l₁ := A) (l₂ := R))
  refine ⟨h1.wf, h1.few, ?_⟩
  have h2 := h1.sep
  rw [← List.append_assoc] at h2
  have h3 : Sep w0 w (A ++ (ThCell c (.cells #[v] 51 (0, 0)) :: ThRow 5 v (gs.flatMap OneG.cell) :: (gs.flatMap OneG.th ++ R))) rows := h2.perm (by
    have := List.perm_append_comm (l₁ := ThCell c (.cells #[v] 51 (0, 0)) :: ThRow 5 v (gs.flatMap OneG.cell) :: (gs.flatMap OneG.th ++ R)) (l₂ := A)
    simpa using this)
  exact sep_subK A h3
theorem CrX.put {w0 w w' : World} {c : Nat} {v : Value} {gs : List OneG} {A B R : List Thing} {rows : List (Value × Bs)} {X : Thing} {D : List Nat} (h : CrX w0 w c v gs (A ++ (B ++ R)) rows) (hu : Upd w w' [] D) (hX : X.P w' D) : CrX w0 w' c v gs (A ++ ([X] ++ R)) rows := by
  have h1 := (h.permR (List.perm_append_comm_assoc A B R)).sub
  exact (h1.addR hu hX).permR (List.perm_middle (l₁ := A)).symm
section
variable {w0 w : World} {c : Nat} {T : CoS} {R : List Thing} {rows : List (Value × Bs)} {v : Value} {gs l1 l2 : List OneG} {g : OneG}
theorem CrX.one (h : CrX w0 w c v gs R rows) (l : List OneG) (hl : ∀ g ∈ l, g ∈ gs) : ∀ u ∈ l.flatMap OneG.cell, u.oneCell' = true := by
  intro u hu
  obtain ⟨g, hg, he⟩ := List.mem_flatMap.1 hu
  obtain ⟨p, hp, rfl⟩ := List.mem_iff_getElem.1 (hl g hg)
  obtain ⟨a, cp, -, -, -, -, hrow⟩ := h.facts
  obtain ⟨y, -, -, -, -, -, -, -, ⟨E1, h1⟩, ⟨E2, h2⟩, E3, h3⟩ := hrow p hp
  obtain ⟨q1, q2, q3, e1, -⟩ := h1
  obtain ⟨q4, q5, q6, e2, -⟩ := h2
  obtain ⟨q7, q8, q9, e3, -⟩ := h3
  unfold OneG.cell at he
  rw [e1, e2, e3] at he
  simp only [List.mem_cons, List.not_mem_nil, or_false] at he
  rcases he with rfl | rfl | rfl | rfl | rfl <;> rfl
theorem CrX.cut {a : Option Addr} {cp : Nat} (h : CrX w0 w c (.slice a gs.length cp) gs R rows) (lo hi : Nat) (hlo : lo ≤ gs.length) (hhi : hi ≤ gs.length) :
    ∃ a' E1 E2, (∀ W : World, (Instr.slice 49 (.slice a gs.length cp) none (some (.int .i64 (lo : Int))) none).run Try.prog W = .ok (.slice a lo cp) W) ∧ ReadRow w 5 (.slice a lo cp) ((gs.take lo).flatMap OneG.cell) E1 ∧
      (∀ W : World, (Instr.slice 49 (.slice a gs.length cp) (some (.int .i64 (hi : Int))) none none).run Try.prog W = .ok (.slice a' (gs.length - hi) (cp - hi)) W) ∧ ReadRow w 5 (.slice a' (gs.length - hi) (cp - hi)) ((gs.drop hi).flatMap OneG.cell) E2 := by
  obtain ⟨i0, hi0, hz0, hz1, hz2⟩ := info_parts infoOne
  obtain ⟨a1, c1, hv, -, hcp, -, -⟩ := h.facts
  cases hv
  obtain ⟨DS, hDS⟩ := h.sep.has (T := ThRow 5 (.slice a gs.length cp) (gs.flatMap OneG.cell)) (by simp)
  have hDS : OwnRow w 5 (.slice a gs.length cp) (gs.flatMap OneG.cell) DS := hDS
  obtain ⟨ES, hRS, -⟩ := hDS.read
  have hRS' : ReadRow w i0.size (.slice a gs.length cp) (gs.flatMap OneG.cell) ES := by rw [hz1]; exact hRS
  obtain ⟨a', hsl2, E', hR2, hE'⟩ := slice_fromG (P := Try.prog) Try.underlying49 hi0 (by rw [hz1]; decide) hRS' hi hhi
  rw [hz1, flatG_drop cell_len (by decide)] at hR2
  obtain ⟨h1D, hpc⟩ := hDS.take hlo
  rw [flatG_take cell_len (by decide)] at h1D
  obtain ⟨E1, hR1, -⟩ := h1D.read
  exact ⟨a', E1, E', fun W => run_slice_hi (P := Try.prog) Try.underlying49 hi0 a gs.length cp lo (by omega) W, hR1, fun W => hsl2 W, hR2⟩
theorem owes_new : ∀ l : List Int, owesL l (List.replicate l.length false) = l
  | [] => rfl
  | x :: l => by rw [List.length_cons, List.replicate_succ, owesL, if_neg (by simp), owes_new l]
theorem Six.keep {w w' : World} {D' : List Nat} (hu : Upd w w' [] D') {a b c d e f : Addr} {p q r s t u : Value} (h : w.cell? a = some p ∧ w.cell? b = some q ∧ w.cell? c = some r ∧ w.cell? d = some s ∧ w.cell? e = some t ∧ w.cell? f = some u) : w'.cell? a = some p ∧ w'.cell? b = some q ∧ w'.cell? c = some r ∧ w'.cell? d = some s ∧ w'.cell? e = some t ∧ w'.cell? f = some u :=
  ⟨upd_cell hu h.1, upd_cell hu h.2.1, upd_cell hu h.2.2.1, upd_cell hu h.2.2.2.1, upd_cell hu h.2.2.2.2.1, upd_cell hu h.2.2.2.2.2⟩
def begC (i : Nat) (L : Array Bool) : Bool := (i == 1 || i == 3 || i == 6 || i == 9 || i == 11 || i == 10) && (i != 3 || L.getD 1 false) && (i != 10 || (L.getD 3 false && L.getD 6 false && L.getD 9 false)) && !L.getD i false
def BegR (T : CoS) (id : Int) (l : List Int) (T' : CoS) : Prop :=
  ((beginS T id l).1 ≠ 0 → T' = T) ∧ ((beginS T id l).1 = 0 → ∃ p, p ≤ T.length ∧ (∀ j (h : j < T.length), j < p → T[j].1 < id) ∧ (∀ h : p < T.length, ¬ T[p].1 < id) ∧ T' = T.take p ++ (id, newE l) :: T.drop p)

set_option maxRecDepth 100000 in
set_option maxHeartbeats 8000000 in
theorem cr_begin_new (h : Cr w0 w c T R rows) (hI : InvC T) (id : Int) (v : Value) (l : List Int) (E : List Nat) (hv : ReadRow w 1 v (l.map iv) E) (hi1 : ¬ id < 1) (hl0 : ¬ l.length = 0) (hris : risS l = true) (hx : lookS id T = none) (hfew : T.length < 1000) :
    Calls Try.prog 22 #[.pointer (some ⟨c, 0, none⟩), .int .i64 id, v] w fun e w' => e = .returned (.int .i64 (beginS T id l).1) ∧ ∃ T', BegR T id l T' ∧ Cr w0 w' c T' R rows := by
  obtain ⟨i0, hi0, hz0, hz1, hz2⟩ := info_parts infoOne
  obtain ⟨j0, hj0, jz0, jz1, jz2⟩ := info_parts infoI
  have hl4 := risS_len hris
  obtain ⟨va, vn, vc, rfl, hvl, hvn, hvc, -⟩ := _root_.id hv
  rw [List.length_map, Nat.mul_one] at hvl
  subst hvl
  unfold maxLen at hvc
  have hrs := rrising_any _ l E w hv
  rw [hris, decide_eq_true (show 0 < l.length by omega), Bool.true_and] at hrs
  have HRS := Lib.hid hrs
  have HB := Lib.hid (show beginS T id l = (0, T ++ [(id, newE l)]) by unfold beginS; rw [if_neg (by simp [hi1, hl0, hris]), hx])
  obtain ⟨vv, gs, hT, hX⟩ := h
  subst hT
  have HX := Lib.hid (show _ ∧ _ ∧ _ from ⟨hX, hv, ent_none hx⟩)
  have hgl : gs.length < 1000 := by rw [List.length_map] at hfew; exact hfew
  have hmkI := fun W => run_make_row' (P := Try.prog) 22 3 (.int .i64 0) 8 Try.underlying22 infoI rfl .i64 .i64 l.length (by omega) (by omega) W
  have hmkB := fun W => run_make_row' (P := Try.prog) 38 4 (.bool false) 1 Try.underlying38 infoBool rfl .i64 .i64 l.length (by omega) (by omega) W
  have HO := Lib.hid (show ∀ (s1 s2 s3 : Option Addr) (t1 t2 t3 u1 u2 u3 : Nat), ∀ u ∈ [Value.int .i64 id, .slice s1 t1 u1, .slice s2 t2 u2, .int .i64 0, .slice s3 t3 u3], u.oneCell' = true from by
    intro s1 s2 s3 t1 t2 t3 u1 u2 u3 u hu
    simp only [List.mem_cons, List.not_mem_nil, or_false] at hu
    rcases hu with rfl | rfl | rfl | rfl | rfl <;> rfl)
  clear hrs hX hx hv hris hI hfew
  go_enter Try.func22, Try.ntmps22
  go_wp2_with fail
  refine HRS.out.mono ?_
  rintro e w1 ⟨rfl, hu1⟩
  have hX1 := HX.out.1.keep hu1
  have hrd1 := HX.out.2.1.frame (hu1.same HX.out.2.1.lt (by simp))
  have HAT := Lib.hid (cr_at_no hX1 id HX.out.2.2)
  have HX := Lib.hid (show _ ∧ _ from ⟨hX1, hrd1⟩)
  clear hu1 hX1 hrd1 HRS
  go_wp2_with fail
  refine HAT.out.mono ?_
  rintro e w2 ⟨rfl, hW⟩
  subst w2
  go_wp2_with fail
  go_loopg [7] gs.length (fun k vi wr => Upd w1 wr [] [] ∧ ∃ p : Nat, p ≤ gs.length ∧ k = gs.length - p ∧ vi = .int .i64 (p : Int) ∧ ∀ j (h : j < gs.length), j < p → gs[j].id < id)
  case atStart => exact ⟨Upd.refl _ _, 0, Nat.zero_le _, rfl, rfl, fun _ _ h => absurd h (Nat.not_lt_zero _)⟩
  case round =>
    obtain ⟨hur, p, hp, hk, hvi, hall⟩ := hrel
    subst hvi
    have HA := Lib.hid hall
    clear hall
    have hXr := HX.out.1.keep hur
    have hrr := HX.out.2.frame (hur.same HX.out.2.lt (by simp))
    obtain ⟨a, cp, rfl, c0, hcp, hcm, hrow⟩ := hXr.facts
    unfold maxLen at hcm
    have HU := Lib.hid hur
    have HQ := Lib.hid (show _ ∧ _ from ⟨hXr, hrr⟩)
    have HR := Lib.hid hrow
    clear hur hXr hrow hrr
    by_cases hltp : p < gs.length
    · obtain ⟨y, rfl, hys, e0, -⟩ := HR.out p hltp
      obtain ⟨ki, hki⟩ : ∃ ki, gs[p].id = ki := ⟨_, rfl⟩
      rw [hki] at e0
      by_cases hlt : ki < id
      · have hlb : decide (ki < id) = true := decide_eq_true hlt
        have HNX := Lib.hid (show ∀ j (h : j < gs.length), j < p + 1 → gs[j].id < id from fun j hj hjp => by
          by_cases hjj : j = p
          · subst hjj; rw [hki]; exact hlt
          · exact HA.out j hj (by omega))
        clear hki hlt
        go_wp2_with fail
        go_roundg (gs.length - (p + 1))
        case rel => exact ⟨HU.out, p + 1, by omega, rfl, by go_num, HNX.out⟩
        case measure => omega
      · have hlb : decide (ki < id) = false := decide_eq_false hlt
        have HP := Lib.hid (show ∀ h : p < gs.length, ¬ gs[p].id < id from fun _ => by rw [hki]; exact hlt)
        clear hki hlt
        go_wp2_with fail
        clear e0
        refine wp_region_M (fun W => True) 12 (by kernel_rfl) ?_
        refine wpAnyM_take (by kernel_rfl) (by intro c a d v w h; cases d <;> exact h) [(0, false), (2, false), (4, false), (5, false), (7, false), (8, false)] (fuel := 7) (by kernel_rfl) ?_
        apply Exists.intro; refine ⟨?_, trivial, ?_⟩
        · iterate 6 ((first | (apply yieldN; (· (simp only [List.getElem?_toArray, List.getElem?_cons_succ, List.getElem?_cons_zero]; try rfl)); (· rfl)) | ((first | apply yieldP | apply yieldL); (· (simp only [List.getElem?_toArray, List.getElem?_cons_succ, List.getElem?_cons_zero]; try rfl)); (· rfl); (· (intros; go_simp; try with_reducible rfl)))); (· (simp only [Act.put, List.setIfInBounds_toArray, List.set_cons_zero, List.set_cons_succ]; try rfl)))
          exact rfl
        refine wpAnyM_let ?_
        intro a0 ha0
        refine wpAnyM_inv (k := 1) begC #[true, true, true, true, true, true, true, true, true, true, true, true, false] (BegG w0 c (.slice (some y) gs.length cp) gs R rows id (.slice va l.length vc) l E a0) ?_ ?_ 6 _ a0 _ (by kernel_rfl) ?_
        case' refine_1 =>
          intro L a w i hc hG
          unfold begC at hc
          simp only [Bool.and_eq_true, Bool.or_eq_true, beq_iff_eq, bne_iff_ne, ne_eq, Bool.not_eq_true'] at hc
          obtain ⟨⟨⟨hi, h31⟩, h10⟩, hun⟩ := hc
          obtain ⟨x42, x44, x47, x50, x8, x51, rfl, g1, g10, gr, A3, A6, A9, A11, g3, g6, g9, g11, gX⟩ := hG
          have HG := Lib.hid (show _ ∧ _ ∧ _ ∧ _ ∧ _ ∧ _ ∧ _ from ⟨g1, g10, g3, g6, g9, g11, gX⟩)
          have HGR := Lib.hid gr
          clear g3 g6 g9 g11 gX gr c0
          rw [ha0]
          simp only [Act.put, List.setIfInBounds_toArray, List.set_cons_zero, List.set_cons_succ]
          rcases hi with ((((rfl | rfl) | rfl) | rfl) | rfl) | rfl
          case' inl.inl.inl.inl.inl =>
            refine ⟨_, by rfl, fun K hK => ?_⟩
            clear g1 g10 h31 h10 hun
            go_wp2_with fail
            have ua := Upd.alloc0 w (.cells #[] 3) []
            refine hK _ _ trivial ⟨.slice (some ⟨w.heap.size, 0, none⟩) 0 0, x44, x47, x50, x8, x51, by rfl, fun _ => ⟨_, rfl⟩, (fun h => by
              rw [getD_set_ne false (by decide)] at h
              obtain ⟨q1, q2, q3, q4⟩ := HG.out.2.1 h
              exact ⟨q1, getD_set_true q2, getD_set_true q3, getD_set_true q4⟩), HGR.out.frame (ua.same HGR.out.lt (by simp)), A3, A6, A9, A11, (fun h => HG.out.2.2.1 (by rw [getD_set_ne false (by decide)] at h; exact h)), (fun h => HG.out.2.2.2.1 (by rw [getD_set_ne false (by decide)] at h; exact h)), (fun h => HG.out.2.2.2.2.1 (by rw [getD_set_ne false (by decide)] at h; exact h)), (fun h => HG.out.2.2.2.2.2.1 (by rw [getD_set_ne false (by decide)] at h; exact h)), HG.out.2.2.2.2.2.2.keep ua⟩
          case' inl.inl.inl.inl.inr =>
            refine ⟨_, by rfl, fun K hK => ?_⟩
            obtain ⟨ad, rfl⟩ := g1 (by rcases h31 with h | h; exact absurd rfl h; exact h)
            clear g1 g10 h31 h10
            obtain ⟨n1, hn1, hsrc⟩ := HGR.out.src (P := Try.prog) (tx := 22) Try.underlying22 iv_one
            rw [List.length_map] at hn1
            refine wpList_app rfl _ _ 22 22 rfl 1 _ _ _ rfl (OwnRow.zero _ _ _) _ j0 _ Try.underlying22 hj0 jz0 jz1 rfl _ _ _ rfl hsrc (fun n hn => by simp at hn; rw [jz2]; omega) ?_
            intro a5 n5 c5 w5 D5 hown5 hu5
            rw [List.nil_append] at hown5
            clear hsrc hn1
            go_wp2_with fail
            refine hK _ _ trivial ⟨.slice ad 0 0, .slice a5 n5 c5, x47, x50, x8, x51, by rfl, fun _ => ⟨_, rfl⟩, (fun h => by
              rw [getD_set_ne false (by decide)] at h
              obtain ⟨q1, q2, q3, q4⟩ := HG.out.2.1 h
              rw [hun] at q2
              cases q2), HGR.out.frame (hu5.same HGR.out.lt (by simp)), [ThRow 1 (.slice a5 n5 c5) (l.map iv)], A6, A9, A11, fun _ => rfl, (fun h => HG.out.2.2.2.1 (by rw [getD_set_ne false (by decide)] at h; exact h)), (fun h => HG.out.2.2.2.2.1 (by rw [getD_set_ne false (by decide)] at h; exact h)), (fun h => HG.out.2.2.2.2.2.1 (by rw [getD_set_ne false (by decide)] at h; exact h)), CrX.put (A := []) HG.out.2.2.2.2.2.2 hu5 hown5⟩
          case' inl.inl.inl.inr =>
            refine ⟨_, by rfl, fun K hK => ?_⟩
            clear g1 g10 h31 h10
            go_wp2_with fail
            have ua := Upd.alloc1 w (.cells (madeCells #[.int .i64 0] l.length) 3) []
            refine hK _ _ trivial ⟨x42, x44, .slice (some ⟨w.heap.size, 0, none⟩) l.length l.length, x50, x8, x51, by rfl, (fun h => HG.out.1 (by rw [getD_set_ne false (by decide)] at h; exact h)), (fun h => by
              rw [getD_set_ne false (by decide)] at h
              obtain ⟨q1, q2, q3, q4⟩ := HG.out.2.1 h
              rw [hun] at q3
              cases q3), HGR.out.frame (ua.same HGR.out.lt (by simp)), A3, [ThRow 1 (.slice (some ⟨w.heap.size, 0, none⟩) l.length l.length) ((List.replicate l.length (0 : Int)).map iv)], A9, A11, (fun h => HG.out.2.2.1 (by rw [getD_set_ne false (by decide)] at h; exact h)), fun _ => rfl, (fun h => HG.out.2.2.2.2.1 (by rw [getD_set_ne false (by decide)] at h; exact h)), (fun h => HG.out.2.2.2.2.2.1 (by rw [getD_set_ne false (by decide)] at h; exact h)), CrX.put (A := A3) HG.out.2.2.2.2.2.2 ua (zeroI_row w l.length (by omega))⟩
          case' inl.inl.inr =>
            refine ⟨_, by rfl, fun K hK => ?_⟩
            clear g1 g10 h31 h10
            go_wp2_with fail
            have ua := Upd.alloc1 w (.cells (madeCells #[.bool false] l.length) 4) []
            refine hK _ _ trivial ⟨x42, x44, x47, .slice (some ⟨w.heap.size, 0, none⟩) l.length l.length, x8, x51, by rfl, (fun h => HG.out.1 (by rw [getD_set_ne false (by decide)] at h; exact h)), (fun h => by
              rw [getD_set_ne false (by decide)] at h
              obtain ⟨q1, q2, q3, q4⟩ := HG.out.2.1 h
              rw [hun] at q4
              cases q4), HGR.out.frame (ua.same HGR.out.lt (by simp)), A3, A6, [ThRow 1 (.slice (some ⟨w.heap.size, 0, none⟩) l.length l.length) ((List.replicate l.length false).map bov)], A11, (fun h => HG.out.2.2.1 (by rw [getD_set_ne false (by decide)] at h; exact h)), (fun h => HG.out.2.2.2.1 (by rw [getD_set_ne false (by decide)] at h; exact h)), fun _ => rfl, (fun h => HG.out.2.2.2.2.2.1 (by rw [getD_set_ne false (by decide)] at h; exact h)), ?_⟩
            have h9 := CrX.put (A := A3 ++ A6) (B := A9) (by rw [List.append_assoc]; exact HG.out.2.2.2.2.2.2) ua (X := ThRow 1 _ _) (zeroB_row w l.length (by omega))
            rw [List.append_assoc] at h9
            exact h9
          case' inl.inr =>
            refine ⟨_, by rfl, fun K hK => ?_⟩
            clear g1 g10 h31 h10
            go_wp2_with fail
            have ua := Upd.alloc1 w (.cells #[.int .i64 0, .slice none 0 0, .slice none 0 0, .int .i64 0, .slice none 0 0] 85 (0, 0)) []
            refine hK _ _ trivial ⟨x42, x44, x47, x50, .pointer (some ⟨w.heap.size, 0, none⟩), x51, by rfl, (fun h => HG.out.1 (by rw [getD_set_ne false (by decide)] at h; exact h)), (fun h => by
              rw [getD_set_ne false (by decide)] at h
              obtain ⟨q1, q2, q3, q4⟩ := HG.out.2.1 h
              exact ⟨q1, getD_set_true q2, getD_set_true q3, getD_set_true q4⟩), HGR.out.frame (ua.same HGR.out.lt (by simp)), A3, A6, A9, [ThCell w.heap.size (.cells #[.int .i64 0, .slice none 0 0, .slice none 0 0, .int .i64 0, .slice none 0 0] 85 (0, 0))], (fun h => HG.out.2.2.1 (by rw [getD_set_ne false (by decide)] at h; exact h)), (fun h => HG.out.2.2.2.1 (by rw [getD_set_ne false (by decide)] at h; exact h)), (fun h => HG.out.2.2.2.2.1 (by rw [getD_set_ne false (by decide)] at h; exact h)), fun _ => ⟨_, rfl, rfl⟩, ?_⟩
            have h11 := CrX.put (A := A3 ++ (A6 ++ A9)) (B := A11) (by simp only [List.append_assoc]; exact HG.out.2.2.2.2.2.2) ua (X := ThCell w.heap.size _) ⟨heap_alloc_new w _, rfl⟩
            simp only [List.append_assoc] at h11
            exact h11
          case' inr =>
            refine ⟨_, by rfl, fun K hK => ?_⟩
            obtain ⟨⟨t3, t6⟩, t9⟩ : (L.getD 3 false = true ∧ L.getD 6 false = true) ∧ L.getD 9 false = true := by
              rcases h10 with h | h
              · exact absurd rfl h
              · exact h
            have gX := HG.out.2.2.2.2.2.2
            have e3 := HG.out.2.2.1 t3
            have e6 := HG.out.2.2.2.1 t6
            have e9 := HG.out.2.2.2.2.1 t9
            obtain ⟨D3, hD3⟩ := gX.sep.has (T := ThRow 1 x44 (l.map iv)) (by simp [e3])
            obtain ⟨b3, n3, k3, hx44, -⟩ := OwnRow.len hD3
            obtain ⟨D6, hD6⟩ := gX.sep.has (T := ThRow 1 x47 ((List.replicate l.length (0 : Int)).map iv)) (by simp [e6])
            obtain ⟨b6, n6, k6, hx47, -⟩ := OwnRow.len hD6
            obtain ⟨D9, hD9⟩ := gX.sep.has (T := ThRow 1 x50 ((List.replicate l.length false).map bov)) (by simp [e9])
            obtain ⟨b9, n9, k9, hx50, -⟩ := OwnRow.len hD9
            clear hD3 hD6 hD9 e3 e6 e9 gX
            subst hx44 hx47 hx50
            clear g1 g10 h31 h10
            go_wp2_with fail
            refine hK _ _ trivial ⟨x42, .slice b3 n3 k3, .slice b6 n6 k6, .slice b9 n9 k9, x8, .agg #[.int .i64 id, .slice b3 n3 k3, .slice b6 n6 k6, .int .i64 0, .slice b9 n9 k9], by rfl, (fun h => HG.out.1 (by rw [getD_set_ne false (by decide)] at h; exact h)), fun _ => ⟨rfl, getD_set_true t3, getD_set_true t6, getD_set_true t9⟩, HGR.out, A3, A6, A9, A11, (fun h => HG.out.2.2.1 (by rw [getD_set_ne false (by decide)] at h; exact h)), (fun h => HG.out.2.2.2.1 (by rw [getD_set_ne false (by decide)] at h; exact h)), (fun h => HG.out.2.2.2.2.1 (by rw [getD_set_ne false (by decide)] at h; exact h)), (fun h => HG.out.2.2.2.2.2.1 (by rw [getD_set_ne false (by decide)] at h; exact h)), HG.out.2.2.2.2.2.2⟩
        case' refine_3 =>
          exact ⟨undef, undef, undef, undef, undef, undef, by rw [ha0]; rfl, fun h => absurd h (by decide), fun h => absurd h (by decide), HQ.out.2.frame (by intro b hb; rfl), [], [], [], [], fun h => absurd h (by decide), fun h => absurd h (by decide), fun h => absurd h (by decide), fun h => absurd h (by decide), HQ.out.1.keep (Upd.refl wr []).drew⟩
        case' refine_2 =>
          intro a w hG
          obtain ⟨x42, x44, x47, x50, x8, x51, rfl, -, g10, gr, A3, A6, A9, A11, g3, g6, g9, g11, gX⟩ := hG
          obtain ⟨rfl, -⟩ := g10 rfl
          obtain rfl := g3 rfl
          obtain rfl := g6 rfl
          obtain rfl := g9 rfl
          obtain ⟨bx, rfl, rfl⟩ := g11 rfl
          clear g3 g6 g9 g11 g10 gr
          have gX : CrX w0 w c (.slice (some y) gs.length cp) gs (ThRow 1 x44 (l.map iv) :: ThRow 1 x47 ((List.replicate l.length (0 : Int)).map iv) :: ThRow 1 x50 ((List.replicate l.length false).map bov) :: ThCell bx (.cells #[.int .i64 0, .slice none 0 0, .slice none 0 0, .int .i64 0, .slice none 0 0] 85 (0, 0)) :: R) rows := gX
          obtain ⟨D3, hD3⟩ := gX.sep.has (T := ThRow 1 x44 (l.map iv)) (by simp)
          obtain ⟨xa, xn, xk, rfl, -⟩ := OwnRow.len hD3
          obtain ⟨D6, hD6⟩ := gX.sep.has (T := ThRow 1 x47 ((List.replicate l.length (0 : Int)).map iv)) (by simp)
          obtain ⟨ya, yn, yk, rfl, -⟩ := OwnRow.len hD6
          obtain ⟨D9, hD9⟩ := gX.sep.has (T := ThRow 1 x50 ((List.replicate l.length false).map bov)) (by simp)
          obtain ⟨za, zn, zk, rfl, -⟩ := OwnRow.len hD9
          clear hD3 hD6 hD9
          rw [ha0]
          simp only [Act.put, List.setIfInBounds_toArray, List.set_cons_zero, List.set_cons_succ]
          clear ha0 a0
          have s0 : Sep w0 w (ThCell bx (.cells #[.int .i64 0, .slice none 0 0, .slice none 0 0, .int .i64 0, .slice none 0 0] 85 (0, 0)) :: ThCell c (.cells #[.slice (some y) gs.length cp] 51 (0, 0)) :: ThRow 5 (.slice (some y) gs.length cp) (gs.flatMap OneG.cell) :: (gs.flatMap OneG.th ++ (ThRow 1 (.slice xa xn xk) (l.map iv) :: ThRow 1 (.slice ya yn yk) ((List.replicate l.length (0 : Int)).map iv) :: ThRow 1 (.slice za zn zk) ((List.replicate l.length false).map bov) :: R))) rows := by
            refine gX.sep.perm ?_
            have := List.perm_middle (l₁ := ThCell c (.cells #[.slice (some y) gs.length cp] 51 (0, 0)) :: ThRow 5 (.slice (some y) gs.length cp) (gs.flatMap OneG.cell) :: (gs.flatMap OneG.th ++ [ThRow 1 (.slice xa xn xk) (l.map iv), ThRow 1 (.slice ya yn yk) ((List.replicate l.length (0 : Int)).map iv), ThRow 1 (.slice za zn zk) ((List.replicate l.length false).map bov)])) (a := ThCell bx (.cells #[.int .i64 0, .slice none 0 0, .slice none 0 0, .int .i64 0, .slice none 0 0] 85 (0, 0))) (l₂ := R)
            simpa using this
          have z0 := frz_of s0.blk 0
          have z0c := cell_of s0.blk 0 rfl
          have s1 := s0.set 0 (.int .i64 id)
          have z1 := frz_of s1.blk 1
          have z1c := cell_of s1.blk 1 rfl
          have s2 := s1.set 1 (.slice xa xn xk)
          have z2 := frz_of s2.blk 2
          have z2c := cell_of s2.blk 2 rfl
          have s3 := s2.set 2 (.slice ya yn yk)
          have z3 := frz_of s3.blk 3
          have z3c := cell_of s3.blk 3 rfl
          have s4 := s3.set 3 (.int .i64 0)
          have z4 := frz_of s4.blk 4
          have z4c := cell_of s4.blk 4 rfl
          have s5 := s4.set 4 (.slice za zn zk)
          have HS5 := Lib.hid (show _ ∧ _ ∧ _ from ⟨s5, gX.wf, gX.few⟩)
          clear s0 s1 s2 s3 s4 s5 gX
          refine wpAnyM_of_any _ _ _ _ (by decide) ?_
          refine wpAny_list [12] (fuel := 0) (by kernel_rfl) ?_
          simp only [List.filterMap_cons, List.filterMap_nil, List.getElem?_toArray, List.getElem?_cons_succ, List.getElem?_cons_zero]
          go_wp2_with fail
          obtain ⟨wq, hwq⟩ : ∃ z, z = ((((w.setCell ⟨bx, 0, none⟩ (.int .i64 id)).setCell ⟨bx, 1, none⟩ (.slice xa xn xk)).setCell ⟨bx, 2, none⟩ (.slice ya yn yk)).setCell ⟨bx, 3, none⟩ (.int .i64 0)).setCell ⟨bx, 4, none⟩ (.slice za zn zk) := ⟨_, rfl⟩
          rw [← hwq] at HS5 ⊢
          clear hwq z0 z0c z1 z1c z2 z2c z3 z3c z4 z4c
          have b0 : wq.cell? ⟨bx, 0, none⟩ = some (.int .i64 id) := cell_of HS5.out.1.blk 0 rfl
          have b1 : wq.cell? ⟨bx, 1, none⟩ = some (.slice xa xn xk) := cell_of HS5.out.1.blk 1 rfl
          have b2 : wq.cell? ⟨bx, 2, none⟩ = some (.slice ya yn yk) := cell_of HS5.out.1.blk 2 rfl
          have b3 : wq.cell? ⟨bx, 3, none⟩ = some (.int .i64 0) := cell_of HS5.out.1.blk 3 rfl
          have b4 : wq.cell? ⟨bx, 4, none⟩ = some (.slice za zn zk) := cell_of HS5.out.1.blk 4 rfl
          have c2 : wq.cell? ⟨c, 0, none⟩ = some (.slice (some y) gs.length cp) := cell_of HS5.out.1.drop.blk 0 rfl
          have HQ := Lib.hid (show CrX w0 wq c (.slice (some y) gs.length cp) gs (ThRow 1 (.slice xa xn xk) (l.map iv) :: ThRow 1 (.slice ya yn yk) ((List.replicate l.length (0 : Int)).map iv) :: ThRow 1 (.slice za zn zk) ((List.replicate l.length false).map bov) :: R) rows ∧ True from ⟨⟨HS5.out.2.1, HS5.out.2.2, HS5.out.1.drop⟩, trivial⟩)
          clear HS5
          obtain ⟨a', E1, E2, hsl1, hR1, hsl2, hR2⟩ := HQ.out.1.cut p p hp hp
          have HSS := Lib.hid (show _ ∧ _ ∧ _ ∧ _ from ⟨HQ.out.1, hR1, hR2, HQ.out.2⟩)
          clear hR1 hR2
          go_wp2_with fail
          refine wp_region_M (fun W => W.cell? ⟨c, 0, none⟩ = some (.slice (some y) gs.length cp) ∧ W.cell? ⟨bx, 0, none⟩ = some (.int .i64 id) ∧ W.cell? ⟨bx, 1, none⟩ = some (.slice xa xn xk) ∧ W.cell? ⟨bx, 2, none⟩ = some (.slice ya yn yk) ∧ W.cell? ⟨bx, 3, none⟩ = some (.int .i64 0) ∧ W.cell? ⟨bx, 4, none⟩ = some (.slice za zn zk)) 19 (by kernel_rfl) ?_
          refine wpAnyM_take (by kernel_rfl) (by intro c a d v w h; cases d <;> exact h) [(0, false), (2, false), (3, false), (4, false), (5, true), (6, false), (7, false), (9, true), (12, false), (13, false), (14, false), (15, true), (16, false), (17, false)] (fuel := 8) (by kernel_rfl) ?_
          apply Exists.intro; refine ⟨?_, ⟨c2, b0, b1, b2, b3, b4⟩, ?_⟩
          · iterate 14 ((first | (apply yieldN; (· (simp only [List.getElem?_toArray, List.getElem?_cons_succ, List.getElem?_cons_zero]; try rfl)); (· rfl)) | ((first | apply yieldP | apply yieldL); (· (simp only [List.getElem?_toArray, List.getElem?_cons_succ, List.getElem?_cons_zero]; try rfl)); (· rfl); (· (intros; go_simp; try with_reducible rfl)))); (· (simp only [Act.put, List.setIfInBounds_toArray, List.set_cons_zero, List.set_cons_succ]; try rfl)))
            exact rfl
          refine wpAnyM_each (fuel := 7) [1, 10] (by kernel_rfl) (by simp) (fun i hi => ?_)
          simp only [List.mem_cons, List.not_mem_nil, or_false] at hi
          rcases hi with rfl | rfl
          case' inl =>
            refine ⟨_, by rfl, fun K hK => ?_⟩
            go_wp2_with fail
            have ua := Upd.alloc0 wq (.cells #[] 85) []
            have k2 := Six.keep ua ⟨c2, b0, b1, b2, b3, b4⟩
            refine hK _ _ k2 ?_
            clear hK
            obtain ⟨wa, hwa⟩ : ∃ z, z = wq.alloc (.cells #[] 85) := ⟨_, rfl⟩
            rw [← hwa] at ua k2 ⊢
            obtain ⟨HS, HR1, HR2, H1⟩ := HSS.out
            have HX := Lib.hid (show _ ∧ _ ∧ _ ∧ _ ∧ _ from ⟨HS.keep ua, HR1.frame (ua.same HR1.lt (by simp)), HR2.frame (ua.same HR2.lt (by simp)), H1, ua⟩)
            clear HS HR1 HR2 ua hwa H1
            refine wpAnyM_each (fuel := 6) [8, 10] (by kernel_rfl) (by simp) (fun i hi => ?_)
            simp only [List.mem_cons, List.not_mem_nil, or_false] at hi
            rcases hi with rfl | rfl
            case' inl =>
              refine ⟨_, by rfl, fun K hK => ?_⟩
              obtain ⟨n1, hn1, hsrc⟩ := (HX.out.2.1.frame ((Upd.refl wa []).drew.same HX.out.2.1.lt (by simp))).src (P := Try.prog) (tx := 49) Try.underlying49 (HX.out.1.one _ (fun g hg => List.mem_of_mem_take hg))
              rw [flatG_len cell_len, List.length_take] at hn1
              have HBD := Lib.hid (show ∀ n, ([] : List Value).length = n * 5 → n + n1 ≤ 140737488355328 ∧ (n + n1) * i0.bytes ≤ 140737488355328 from fun n hn => by simp at hn; rw [hz2]; omega)
              clear hn1
              refine wpList_app rfl _ _ 49 49 rfl 5 _ _ _ rfl (OwnRow.zero _ _ _) _ i0 _ Try.underlying49 hi0 hz0 hz1 rfl _ _ _ rfl hsrc HBD.out ?_
              intro a5 n5 c5 w5 D5 hown5 hu5
              have k5 := Six.keep ((Upd.refl wa []).drew.trans hu5) k2
              go_wp2_with fail
              refine hK _ _ k5 ?_
              clear hK
              refine wpAnyM_one (fuel := 5) (i := 10) (by kernel_rfl) (by rfl) (fun K hK => ?_)
              go_wp2_with fail
              have ub := Upd.alloc0 w5 (.cells #[.int .i64 id, .slice xa xn xk, .slice ya yn yk, .int .i64 0, .slice za zn zk] 85) D5
              have hrb := one_new w5 5 (by decide) #[.int .i64 id, .slice xa xn xk, .slice ya yn yk, .int .i64 0, .slice za zn zk] rfl 85
              have k6 := Six.keep (Upd.alloc0 w5 (.cells #[.int .i64 id, .slice xa xn xk, .slice ya yn yk, .int .i64 0, .slice za zn zk] 85) []) k5
              refine hK _ (w5.alloc (.cells #[.int .i64 id, .slice xa xn xk, .slice ya yn yk, .int .i64 0, .slice za zn zk] 85)) k6 ?_
              clear hK
              have ud : Upd w5 (w5.alloc (.cells #[.int .i64 id, .slice xa xn xk, .slice ya yn yk, .int .i64 0, .slice za zn zk] 85)) [] [] := Upd.alloc0 w5 _ []
              have HZ := Lib.hid (show _ ∧ _ ∧ _ ∧ _ from ⟨OwnRow.frame hown5 (ud.same (OwnRow.lt hown5) (by simp)), hrb, ((Upd.refl wa []).drew.trans hu5).trans ub, k6⟩)
              clear hown5 hrb hu5 ub ud k5 k6
              obtain ⟨g5, hg5⟩ : ∃ z, z = w5.heap.size := ⟨_, rfl⟩
              obtain ⟨wz, hwz⟩ : ∃ z, z = w5.alloc (.cells #[.int .i64 id, .slice xa xn xk, .slice ya yn yk, .int .i64 0, .slice za zn zk] 85) := ⟨_, rfl⟩
              rw [← hwz] at HZ ⊢
              rw [← hg5] at HZ ⊢
              clear hwz hg5
              refine wpAnyM_one (fuel := 4) (i := 11) (by kernel_rfl) (by rfl) (fun K hK => ?_)
              obtain ⟨hoz, hrz, huz, kz⟩ := HZ.out
              obtain ⟨m1, hm1, hs1⟩ := hrz.src (P := Try.prog) (tx := 49) Try.underlying49 (HO.out _ _ _ _ _ _ _ _ _)
              obtain rfl : m1 = 1 := by simp at hm1; omega
              have hl5 : (([] : List Value) ++ (gs.take p).flatMap OneG.cell).length ≤ 5000 := by
                rw [List.nil_append, flatG_len cell_len, List.length_take]; omega
              refine wpList_app rfl _ _ 49 49 rfl 5 _ _ _ rfl hoz _ i0 _ Try.underlying49 hi0 hz0 hz1 rfl _ _ _ rfl hs1 (fun n hn => by rw [hz2]; omega) ?_
              intro a6 n6 c6 w6 D6 hown6 hu6
              have k7 := Six.keep (huz.trans hu6) k2
              go_wp2_with fail
              refine hK _ _ k7 ?_
              clear hK
              refine wpAnyM_one (fuel := 3) (i := 18) (by kernel_rfl) (by rfl) (fun K hK => ?_)
              have hR3 := HX.out.2.2.1.frame ((huz.trans hu6).same HX.out.2.2.1.lt (by simp))
              obtain ⟨m2, hm2, hs2⟩ := hR3.src (P := Try.prog) (tx := 49) Try.underlying49 (HX.out.1.one _ (fun g hg => List.mem_of_mem_drop hg))
              rw [flatG_len cell_len, List.length_drop] at hm2
              refine wpList_app rfl _ _ 49 49 rfl 5 _ _ _ rfl hown6 _ i0 _ Try.underlying49 hi0 hz0 hz1 rfl _ _ _ rfl hs2 (fun n hn => by rw [List.length_append] at hn; simp at hn hl5; rw [hz2]; omega) ?_
              intro a7 n7 c7 w7 D7 hown7 hu7
              have hadd := (((HX.out.1.sep.addRow hown7 ((huz.trans hu6).trans hu7)).third).drop).swap
              have hb7 := hadd.blk
              have c7t := cell_of hb7 0 rfl
              have y71 := frz_of hb7 0
              have k8 := Six.keep ((huz.trans hu6).trans hu7) k2
              have HF := Lib.hid (hadd.set 0 (.slice a7 n7 c7))
              go_wp2_with fail
              refine hK _ _ k8 ?_
              clear hK
              refine wpAnyM_of_any _ _ _ _ (by decide) ?_
              refine wpAny_list [19, 20, 21] (fuel := 0) (by kernel_rfl) ?_
              simp only [List.filterMap_cons, List.filterMap_nil, List.getElem?_toArray, List.getElem?_cons_succ, List.getElem?_cons_zero]
              clear hoz hrz huz kz hs1 hs2 hown6 hown7 hu6 hu7 hadd hb7 hR3
              go_wp2_with fail
              go_ret
              rw [HB.out]
              refine ⟨rfl, _, ⟨fun e => absurd (show (beginS (gs.map OneG.ent) id l).1 = 0 by rw [HB.out]) e, fun _ => ⟨p, by rw [List.length_map]; exact hp, fun j hj hjp => by
                have h1 := HA.out j (by simpa using hj) hjp
                simpa [OneG.ent] using h1, fun hpl => by
                have h1 := HP.out (by simpa using hpl)
                simpa [OneG.ent] using h1, rfl⟩⟩, .slice a7 n7 c7, gs.take p ++ (⟨id, l, List.replicate l.length 0, 0, List.replicate l.length false, .slice xa xn xk, .slice ya yn yk, .slice za zn zk⟩ : OneG) :: gs.drop p, ?_, ⟨fun g hg => ?_, ?_, ?_⟩⟩
              · rw [List.map_append, List.map_take, List.map_cons, List.map_drop]
                unfold OneG.ent newE
                rw [owes_new]
              · rcases List.mem_append.1 hg with hg | hg
                · exact HX.out.1.wf g (List.mem_of_mem_take hg)
                · rcases List.mem_cons.1 hg with rfl | hg
                  · exact ⟨by simp, by simp, hl4⟩
                  · exact HX.out.1.wf g (List.mem_of_mem_drop hg)
              · rw [List.length_append, List.length_take, List.length_cons, List.length_drop]; omega
              · have hf := HF.out
                have hcells : (gs.take p ++ (⟨id, l, List.replicate l.length 0, 0, List.replicate l.length false, .slice xa xn xk, .slice ya yn yk, .slice za zn zk⟩ : OneG) :: gs.drop p).flatMap OneG.cell = ([] ++ (gs.take p).flatMap OneG.cell ++ [.int .i64 id, .slice xa xn xk, .slice ya yn yk, .int .i64 0, .slice za zn zk]) ++ (gs.drop p).flatMap OneG.cell := by
                  simp [OneG.cell]
                rw [hcells]
                refine Sep.perm hf (List.Perm.cons _ (List.Perm.cons _ ?_))
                have e1 : gs.flatMap OneG.th = (gs.take p).flatMap OneG.th ++ (gs.drop p).flatMap OneG.th := by rw [← List.flatMap_append, List.take_append_drop]
                rw [e1, List.flatMap_append, List.flatMap_cons]
                simp only [List.append_assoc]
                refine List.Perm.append_left _ ?_
                exact List.perm_append_comm_assoc _ [ThRow 1 (.slice xa xn xk) (l.map iv), ThRow 1 (.slice ya yn yk) ((List.replicate l.length (0 : Int)).map iv), ThRow 1 (.slice za zn zk) ((List.replicate l.length false).map bov)] _
            case' inr =>
              refine ⟨_, by rfl, fun K hK => ?_⟩
              go_wp2_with fail
              have ub := Upd.alloc0 wa.drew (.cells #[.int .i64 id, .slice xa xn xk, .slice ya yn yk, .int .i64 0, .slice za zn zk] 85) []
              have hrb := one_new wa.drew 5 (by decide) #[.int .i64 id, .slice xa xn xk, .slice ya yn yk, .int .i64 0, .slice za zn zk] rfl 85
              have uc := (Upd.refl wa []).drew.trans ub
              have k4 := Six.keep uc k2
              refine hK _ (wa.drew.alloc (.cells #[.int .i64 id, .slice xa xn xk, .slice ya yn yk, .int .i64 0, .slice za zn zk] 85)) k4 ?_
              clear hK
              obtain ⟨g5, hg5⟩ : ∃ z, z = wa.drew.heap.size := ⟨_, rfl⟩
              obtain ⟨w4, hw4⟩ : ∃ z, z = wa.drew.alloc (.cells #[.int .i64 id, .slice xa xn xk, .slice ya yn yk, .int .i64 0, .slice za zn zk] 85) := ⟨_, rfl⟩
              rw [← hw4] at hrb k4 uc ⊢
              rw [← hg5] at hrb
              first | rw [← hg5] | (rw [show wa.heap.size = g5 from hg5.symm])
              clear ub hw4 hg5
              refine wpAnyM_one (fuel := 5) (i := 8) (by kernel_rfl) (by rfl) (fun K hK => ?_)
              obtain ⟨n1, hn1, hsrc⟩ := (HX.out.2.1.frame (uc.same HX.out.2.1.lt (by simp))).src (P := Try.prog) (tx := 49) Try.underlying49 (HX.out.1.one _ (fun g hg => List.mem_of_mem_take hg))
              rw [flatG_len cell_len, List.length_take] at hn1
              have HBD := Lib.hid (show ∀ n, ([] : List Value).length = n * 5 → n + n1 ≤ 140737488355328 ∧ (n + n1) * i0.bytes ≤ 140737488355328 from fun n hn => by simp at hn; rw [hz2]; omega)
              clear hn1
              refine wpList_app rfl _ _ 49 49 rfl 5 _ _ _ rfl (OwnRow.zero _ _ _) _ i0 _ Try.underlying49 hi0 hz0 hz1 rfl _ _ _ rfl hsrc HBD.out ?_
              intro a5 n5 c5 w5 D5 hown5 hu5
              have k5 := Six.keep hu5 k4
              have HZ := Lib.hid (show _ ∧ _ ∧ _ ∧ _ from ⟨hown5, hrb.frame (hu5.same hrb.lt (by simp)), uc.trans hu5, k5⟩)
              clear hown5 hrb hu5 uc k4 hsrc HBD
              go_wp2_with fail
              refine hK _ _ k5 ?_
              clear hK k5
              refine wpAnyM_one (fuel := 4) (i := 11) (by kernel_rfl) (by rfl) (fun K hK => ?_)
              obtain ⟨hoz, hrz, huz, kz⟩ := HZ.out
              obtain ⟨m1, hm1, hs1⟩ := hrz.src (P := Try.prog) (tx := 49) Try.underlying49 (HO.out _ _ _ _ _ _ _ _ _)
              obtain rfl : m1 = 1 := by simp at hm1; omega
              have hl5 : (([] : List Value) ++ (gs.take p).flatMap OneG.cell).length ≤ 5000 := by
                rw [List.nil_append, flatG_len cell_len, List.length_take]; omega
              refine wpList_app rfl _ _ 49 49 rfl 5 _ _ _ rfl hoz _ i0 _ Try.underlying49 hi0 hz0 hz1 rfl _ _ _ rfl hs1 (fun n hn => by rw [hz2]; omega) ?_
              intro a6 n6 c6 w6 D6 hown6 hu6
              have k7 := Six.keep (huz.trans hu6) k2
              go_wp2_with fail
              refine hK _ _ k7 ?_
              clear hK
              refine wpAnyM_one (fuel := 3) (i := 18) (by kernel_rfl) (by rfl) (fun K hK => ?_)
              have hR3 := HX.out.2.2.1.frame ((huz.trans hu6).same HX.out.2.2.1.lt (by simp))
              obtain ⟨m2, hm2, hs2⟩ := hR3.src (P := Try.prog) (tx := 49) Try.underlying49 (HX.out.1.one _ (fun g hg => List.mem_of_mem_drop hg))
              rw [flatG_len cell_len, List.length_drop] at hm2
              refine wpList_app rfl _ _ 49 49 rfl 5 _ _ _ rfl hown6 _ i0 _ Try.underlying49 hi0 hz0 hz1 rfl _ _ _ rfl hs2 (fun n hn => by rw [List.length_append] at hn; simp at hn hl5; rw [hz2]; omega) ?_
              intro a7 n7 c7 w7 D7 hown7 hu7
              have hadd := (((HX.out.1.sep.addRow hown7 ((huz.trans hu6).trans hu7)).third).drop).swap
              have hb7 := hadd.blk
              have c7t := cell_of hb7 0 rfl
              have y71 := frz_of hb7 0
              have k8 := Six.keep ((huz.trans hu6).trans hu7) k2
              have HF := Lib.hid (hadd.set 0 (.slice a7 n7 c7))
              go_wp2_with fail
              refine hK _ _ k8 ?_
              clear hK
              refine wpAnyM_of_any _ _ _ _ (by decide) ?_
              refine wpAny_list [19, 20, 21] (fuel := 0) (by kernel_rfl) ?_
              simp only [List.filterMap_cons, List.filterMap_nil, List.getElem?_toArray, List.getElem?_cons_succ, List.getElem?_cons_zero]
              clear hoz hrz huz kz hs1 hs2 hown6 hown7 hu6 hu7 hadd hb7 hR3
              go_wp2_with fail
              go_ret
              rw [HB.out]
              refine ⟨rfl, _, ⟨fun e => absurd (show (beginS (gs.map OneG.ent) id l).1 = 0 by rw [HB.out]) e, fun _ => ⟨p, by rw [List.length_map]; exact hp, fun j hj hjp => by
                have h1 := HA.out j (by simpa using hj) hjp
                simpa [OneG.ent] using h1, fun hpl => by
                have h1 := HP.out (by simpa using hpl)
                simpa [OneG.ent] using h1, rfl⟩⟩, .slice a7 n7 c7, gs.take p ++ (⟨id, l, List.replicate l.length 0, 0, List.replicate l.length false, .slice xa xn xk, .slice ya yn yk, .slice za zn zk⟩ : OneG) :: gs.drop p, ?_, ⟨fun g hg => ?_, ?_, ?_⟩⟩
              · rw [List.map_append, List.map_take, List.map_cons, List.map_drop]
                unfold OneG.ent newE
                rw [owes_new]
              · rcases List.mem_append.1 hg with hg | hg
                · exact HX.out.1.wf g (List.mem_of_mem_take hg)
                · rcases List.mem_cons.1 hg with rfl | hg
                  · exact ⟨by simp, by simp, hl4⟩
                  · exact HX.out.1.wf g (List.mem_of_mem_drop hg)
              · rw [List.length_append, List.length_take, List.length_cons, List.length_drop]; omega
              · have hf := HF.out
                have hcells : (gs.take p ++ (⟨id, l, List.replicate l.length 0, 0, List.replicate l.length false, .slice xa xn xk, .slice ya yn yk, .slice za zn zk⟩ : OneG) :: gs.drop p).flatMap OneG.cell = ([] ++ (gs.take p).flatMap OneG.cell ++ [.int .i64 id, .slice xa xn xk, .slice ya yn yk, .int .i64 0, .slice za zn zk]) ++ (gs.drop p).flatMap OneG.cell := by
                  simp [OneG.cell]
                rw [hcells]
                refine Sep.perm hf (List.Perm.cons _ (List.Perm.cons _ ?_))
                have e1 : gs.flatMap OneG.th = (gs.take p).flatMap OneG.th ++ (gs.drop p).flatMap OneG.th := by rw [← List.flatMap_append, List.take_append_drop]
                rw [e1, List.flatMap_append, List.flatMap_cons]
                simp only [List.append_assoc]
                refine List.Perm.append_left _ ?_
                exact List.perm_append_comm_assoc _ [ThRow 1 (.slice xa xn xk) (l.map iv), ThRow 1 (.slice ya yn yk) ((List.replicate l.length (0 : Int)).map iv), ThRow 1 (.slice za zn zk) ((List.replicate l.length false).map bov)] _
          case' inr =>
            refine ⟨_, by rfl, fun K hK => ?_⟩
            go_wp2_with fail
            have ub := (Upd.alloc0 wq (.cells #[.int .i64 id, .slice xa xn xk, .slice ya yn yk, .int .i64 0, .slice za zn zk] 85) []).drew
            have hrb0 := one_new wq 5 (by decide) #[.int .i64 id, .slice xa xn xk, .slice ya yn yk, .int .i64 0, .slice za zn zk] rfl 85
            have hrb := hrb0.frame ((Upd.refl _ []).drew.same hrb0.lt (by simp))
            clear hrb0
            have k4 := Six.keep ub ⟨c2, b0, b1, b2, b3, b4⟩
            refine hK _ (wq.alloc (.cells #[.int .i64 id, .slice xa xn xk, .slice ya yn yk, .int .i64 0, .slice za zn zk] 85)).drew k4 ?_
            clear hK
            obtain ⟨g5, hg5⟩ : ∃ z, z = wq.heap.size := ⟨_, rfl⟩
            obtain ⟨w4, hw4⟩ : ∃ z, z = (wq.alloc (.cells #[.int .i64 id, .slice xa xn xk, .slice ya yn yk, .int .i64 0, .slice za zn zk] 85)).drew := ⟨_, rfl⟩
            rw [← hw4] at hrb k4 ub ⊢
            rw [← hg5] at hrb ⊢
            clear hw4 hg5
            refine wpAnyM_one (fuel := 6) (i := 1) (by kernel_rfl) (by rfl) (fun K hK => ?_)
            go_wp2_with fail
            have ua0 := Upd.alloc0 w4 (.cells #[] 85) []
            have k2 := Six.keep ua0 k4
            refine hK _ _ k2 ?_
            clear hK
            obtain ⟨wa, hwa⟩ : ∃ z, z = w4.alloc (.cells #[] 85) := ⟨_, rfl⟩
            rw [← hwa] at ua0 k2 ⊢
            have ua := ub.trans ua0
            have hrc := hrb.frame (ua0.same hrb.lt (by simp))
            obtain ⟨HS, HR1, HR2, H1⟩ := HSS.out
            have HX := Lib.hid (show _ ∧ _ ∧ _ ∧ _ ∧ _ from ⟨HS.keep ua, HR1.frame (ua.same HR1.lt (by simp)), HR2.frame (ua.same HR2.lt (by simp)), H1, ua⟩)
            clear HS HR1 HR2 ua hwa ub ua0 hrb k4 H1
            refine wpAnyM_one (fuel := 5) (i := 8) (by kernel_rfl) (by rfl) (fun K hK => ?_)
            obtain ⟨n1, hn1, hsrc⟩ := HX.out.2.1.src (P := Try.prog) (tx := 49) Try.underlying49 (HX.out.1.one _ (fun g hg => List.mem_of_mem_take hg))
            rw [flatG_len cell_len, List.length_take] at hn1
            have HBD := Lib.hid (show ∀ n, ([] : List Value).length = n * 5 → n + n1 ≤ 140737488355328 ∧ (n + n1) * i0.bytes ≤ 140737488355328 from fun n hn => by simp at hn; rw [hz2]; omega)
            clear hn1
            refine wpList_app rfl _ _ 49 49 rfl 5 _ _ _ rfl (OwnRow.zero _ _ _) _ i0 _ Try.underlying49 hi0 hz0 hz1 rfl _ _ _ rfl hsrc HBD.out ?_
            intro a5 n5 c5 w5 D5 hown5 hu5
            have k5 := Six.keep hu5 k2
            have HZ := Lib.hid (show _ ∧ _ ∧ _ ∧ _ from ⟨hown5, hrc.frame (hu5.same hrc.lt (by simp)), hu5, k5⟩)
            clear hown5 hrc hu5 hsrc HBD
            go_wp2_with fail
            refine hK _ _ k5 ?_
            clear hK k5
            refine wpAnyM_one (fuel := 4) (i := 11) (by kernel_rfl) (by rfl) (fun K hK => ?_)
            obtain ⟨hoz, hrz, huz, kz⟩ := HZ.out
            obtain ⟨m1, hm1, hs1⟩ := hrz.src (P := Try.prog) (tx := 49) Try.underlying49 (HO.out _ _ _ _ _ _ _ _ _)
            obtain rfl : m1 = 1 := by simp at hm1; omega
            have hl5 : (([] : List Value) ++ (gs.take p).flatMap OneG.cell).length ≤ 5000 := by
              rw [List.nil_append, flatG_len cell_len, List.length_take]; omega
            refine wpList_app rfl _ _ 49 49 rfl 5 _ _ _ rfl hoz _ i0 _ Try.underlying49 hi0 hz0 hz1 rfl _ _ _ rfl hs1 (fun n hn => by rw [hz2]; omega) ?_
            intro a6 n6 c6 w6 D6 hown6 hu6
            have k7 := Six.keep (huz.trans hu6) k2
            go_wp2_with fail
            refine hK _ _ k7 ?_
            clear hK
            refine wpAnyM_one (fuel := 3) (i := 18) (by kernel_rfl) (by rfl) (fun K hK => ?_)
            have hR3 := HX.out.2.2.1.frame ((huz.trans hu6).same HX.out.2.2.1.lt (by simp))
            obtain ⟨m2, hm2, hs2⟩ := hR3.src (P := Try.prog) (tx := 49) Try.underlying49 (HX.out.1.one _ (fun g hg => List.mem_of_mem_drop hg))
            rw [flatG_len cell_len, List.length_drop] at hm2
            refine wpList_app rfl _ _ 49 49 rfl 5 _ _ _ rfl hown6 _ i0 _ Try.underlying49 hi0 hz0 hz1 rfl _ _ _ rfl hs2 (fun n hn => by rw [List.length_append] at hn; simp at hn hl5; rw [hz2]; omega) ?_
            intro a7 n7 c7 w7 D7 hown7 hu7
            have hadd := (((HX.out.1.sep.addRow hown7 ((huz.trans hu6).trans hu7)).third).drop).swap
            have hb7 := hadd.blk
            have c7t := cell_of hb7 0 rfl
            have y71 := frz_of hb7 0
            have k8 := Six.keep ((huz.trans hu6).trans hu7) k2
            have HF := Lib.hid (hadd.set 0 (.slice a7 n7 c7))
            go_wp2_with fail
            refine hK _ _ k8 ?_
            clear hK
            refine wpAnyM_of_any _ _ _ _ (by decide) ?_
            refine wpAny_list [19, 20, 21] (fuel := 0) (by kernel_rfl) ?_
            simp only [List.filterMap_cons, List.filterMap_nil, List.getElem?_toArray, List.getElem?_cons_succ, List.getElem?_cons_zero]
            clear hoz hrz huz kz hs1 hs2 hown6 hown7 hu6 hu7 hadd hb7 hR3
            go_wp2_with fail
            go_ret
            rw [HB.out]
            refine ⟨rfl, _, ⟨fun e => absurd (show (beginS (gs.map OneG.ent) id l).1 = 0 by rw [HB.out]) e, fun _ => ⟨p, by rw [List.length_map]; exact hp, fun j hj hjp => by
              have h1 := HA.out j (by simpa using hj) hjp
              simpa [OneG.ent] using h1, fun hpl => by
              have h1 := HP.out (by simpa using hpl)
              simpa [OneG.ent] using h1, rfl⟩⟩, .slice a7 n7 c7, gs.take p ++ (⟨id, l, List.replicate l.length 0, 0, List.replicate l.length false, .slice xa xn xk, .slice ya yn yk, .slice za zn zk⟩ : OneG) :: gs.drop p, ?_, ⟨fun g hg => ?_, ?_, ?_⟩⟩
            · rw [List.map_append, List.map_take, List.map_cons, List.map_drop]
              unfold OneG.ent newE
              rw [owes_new]
            · rcases List.mem_append.1 hg with hg | hg
              · exact HX.out.1.wf g (List.mem_of_mem_take hg)
              · rcases List.mem_cons.1 hg with rfl | hg
                · exact ⟨by simp, by simp, hl4⟩
                · exact HX.out.1.wf g (List.mem_of_mem_drop hg)
            · rw [List.length_append, List.length_take, List.length_cons, List.length_drop]; omega
            · have hf := HF.out
              have hcells : (gs.take p ++ (⟨id, l, List.replicate l.length 0, 0, List.replicate l.length false, .slice xa xn xk, .slice ya yn yk, .slice za zn zk⟩ : OneG) :: gs.drop p).flatMap OneG.cell = ([] ++ (gs.take p).flatMap OneG.cell ++ [.int .i64 id, .slice xa xn xk, .slice ya yn yk, .int .i64 0, .slice za zn zk]) ++ (gs.drop p).flatMap OneG.cell := by
                simp [OneG.cell]
              rw [hcells]
              refine Sep.perm hf (List.Perm.cons _ (List.Perm.cons _ ?_))
              have e1 : gs.flatMap OneG.th = (gs.take p).flatMap OneG.th ++ (gs.drop p).flatMap OneG.th := by rw [← List.flatMap_append, List.take_append_drop]
              rw [e1, List.flatMap_append, List.flatMap_cons]
              simp only [List.append_assoc]
              refine List.Perm.append_left _ ?_
              exact List.perm_append_comm_assoc _ [ThRow 1 (.slice xa xn xk) (l.map iv), ThRow 1 (.slice ya yn yk) ((List.replicate l.length (0 : Int)).map iv), ThRow 1 (.slice za zn zk) ((List.replicate l.length false).map bov)] _
    have HP := Lib.hid (show ∀ h : p < gs.length, ¬ gs[p].id < id from fun h => absurd h hltp)
    go_wp2_with fail
    refine wp_region_M (fun W => True) 12 (by kernel_rfl) ?_
    refine wpAnyM_take (by kernel_rfl) (by intro c a d v w h; cases d <;> exact h) [(0, false), (2, false), (4, false), (5, false), (7, false), (8, false)] (fuel := 7) (by kernel_rfl) ?_
    apply Exists.intro; refine ⟨?_, trivial, ?_⟩
    · iterate 6 ((first | (apply yieldN; (· (simp only [List.getElem?_toArray, List.getElem?_cons_succ, List.getElem?_cons_zero]; try rfl)); (· rfl)) | ((first | apply yieldP | apply yieldL); (· (simp only [List.getElem?_toArray, List.getElem?_cons_succ, List.getElem?_cons_zero]; try rfl)); (· rfl); (· (intros; go_simp; try with_reducible rfl)))); (· (simp only [Act.put, List.setIfInBounds_toArray, List.set_cons_zero, List.set_cons_succ]; try rfl)))
      exact rfl
    refine wpAnyM_let ?_
    intro a0 ha0
    refine wpAnyM_inv (k := 1) begC #[true, true, true, true, true, true, true, true, true, true, true, true, false] (BegG w0 c (.slice a gs.length cp) gs R rows id (.slice va l.length vc) l E a0) ?_ ?_ 6 _ a0 _ (by kernel_rfl) ?_
    case' refine_1 =>
      intro L a w i hc hG
      unfold begC at hc
      simp only [Bool.and_eq_true, Bool.or_eq_true, beq_iff_eq, bne_iff_ne, ne_eq, Bool.not_eq_true'] at hc
      obtain ⟨⟨⟨hi, h31⟩, h10⟩, hun⟩ := hc
      obtain ⟨x42, x44, x47, x50, x8, x51, rfl, g1, g10, gr, A3, A6, A9, A11, g3, g6, g9, g11, gX⟩ := hG
      have HG := Lib.hid (show _ ∧ _ ∧ _ ∧ _ ∧ _ ∧ _ ∧ _ from ⟨g1, g10, g3, g6, g9, g11, gX⟩)
      have HGR := Lib.hid gr
      clear g3 g6 g9 g11 gX gr c0
      rw [ha0]
      simp only [Act.put, List.setIfInBounds_toArray, List.set_cons_zero, List.set_cons_succ]
      rcases hi with ((((rfl | rfl) | rfl) | rfl) | rfl) | rfl
      case' inl.inl.inl.inl.inl =>
        refine ⟨_, by rfl, fun K hK => ?_⟩
        clear g1 g10 h31 h10 hun
        go_wp2_with fail
        have ua := Upd.alloc0 w (.cells #[] 3) []
        refine hK _ _ trivial ⟨.slice (some ⟨w.heap.size, 0, none⟩) 0 0, x44, x47, x50, x8, x51, by rfl, fun _ => ⟨_, rfl⟩, (fun h => by
          rw [getD_set_ne false (by decide)] at h
          obtain ⟨q1, q2, q3, q4⟩ := HG.out.2.1 h
          exact ⟨q1, getD_set_true q2, getD_set_true q3, getD_set_true q4⟩), HGR.out.frame (ua.same HGR.out.lt (by simp)), A3, A6, A9, A11, (fun h => HG.out.2.2.1 (by rw [getD_set_ne false (by decide)] at h; exact h)), (fun h => HG.out.2.2.2.1 (by rw [getD_set_ne false (by decide)] at h; exact h)), (fun h => HG.out.2.2.2.2.1 (by rw [getD_set_ne false (by decide)] at h; exact h)), (fun h => HG.out.2.2.2.2.2.1 (by rw [getD_set_ne false (by decide)] at h; exact h)), HG.out.2.2.2.2.2.2.keep ua⟩
      case' inl.inl.inl.inl.inr =>
        refine ⟨_, by rfl, fun K hK => ?_⟩
        obtain ⟨ad, rfl⟩ := g1 (by rcases h31 with h | h; exact absurd rfl h; exact h)
        clear g1 g10 h31 h10
        obtain ⟨n1, hn1, hsrc⟩ := HGR.out.src (P := Try.prog) (tx := 22) Try.underlying22 iv_one
        rw [List.length_map] at hn1
        refine wpList_app rfl _ _ 22 22 rfl 1 _ _ _ rfl (OwnRow.zero _ _ _) _ j0 _ Try.underlying22 hj0 jz0 jz1 rfl _ _ _ rfl hsrc (fun n hn => by simp at hn; rw [jz2]; omega) ?_
        intro a5 n5 c5 w5 D5 hown5 hu5
        rw [List.nil_append] at hown5
        clear hsrc hn1
        go_wp2_with fail
        refine hK _ _ trivial ⟨.slice ad 0 0, .slice a5 n5 c5, x47, x50, x8, x51, by rfl, fun _ => ⟨_, rfl⟩, (fun h => by
          rw [getD_set_ne false (by decide)] at h
          obtain ⟨q1, q2, q3, q4⟩ := HG.out.2.1 h
          rw [hun] at q2
          cases q2), HGR.out.frame (hu5.same HGR.out.lt (by simp)), [ThRow 1 (.slice a5 n5 c5) (l.map iv)], A6, A9, A11, fun _ => rfl, (fun h => HG.out.2.2.2.1 (by rw [getD_set_ne false (by decide)] at h; exact h)), (fun h => HG.out.2.2.2.2.1 (by rw [getD_set_ne false (by decide)] at h; exact h)), (fun h => HG.out.2.2.2.2.2.1 (by rw [getD_set_ne false (by decide)] at h; exact h)), CrX.put (A := []) HG.out.2.2.2.2.2.2 hu5 hown5⟩
      case' inl.inl.inl.inr =>
        refine ⟨_, by rfl, fun K hK => ?_⟩
        clear g1 g10 h31 h10
        go_wp2_with fail
        have ua := Upd.alloc1 w (.cells (madeCells #[.int .i64 0] l.length) 3) []
        refine hK _ _ trivial ⟨x42, x44, .slice (some ⟨w.heap.size, 0, none⟩) l.length l.length, x50, x8, x51, by rfl, (fun h => HG.out.1 (by rw [getD_set_ne false (by decide)] at h; exact h)), (fun h => by
          rw [getD_set_ne false (by decide)] at h
          obtain ⟨q1, q2, q3, q4⟩ := HG.out.2.1 h
          rw [hun] at q3
          cases q3), HGR.out.frame (ua.same HGR.out.lt (by simp)), A3, [ThRow 1 (.slice (some ⟨w.heap.size, 0, none⟩) l.length l.length) ((List.replicate l.length (0 : Int)).map iv)], A9, A11, (fun h => HG.out.2.2.1 (by rw [getD_set_ne false (by decide)] at h; exact h)), fun _ => rfl, (fun h => HG.out.2.2.2.2.1 (by rw [getD_set_ne false (by decide)] at h; exact h)), (fun h => HG.out.2.2.2.2.2.1 (by rw [getD_set_ne false (by decide)] at h; exact h)), CrX.put (A := A3) HG.out.2.2.2.2.2.2 ua (zeroI_row w l.length (by omega))⟩
      case' inl.inl.inr =>
        refine ⟨_, by rfl, fun K hK => ?_⟩
        clear g1 g10 h31 h10
        go_wp2_with fail
        have ua := Upd.alloc1 w (.cells (madeCells #[.bool false] l.length) 4) []
        refine hK _ _ trivial ⟨x42, x44, x47, .slice (some ⟨w.heap.size, 0, none⟩) l.length l.length, x8, x51, by rfl, (fun h => HG.out.1 (by rw [getD_set_ne false (by decide)] at h; exact h)), (fun h => by
          rw [getD_set_ne false (by decide)] at h
          obtain ⟨q1, q2, q3, q4⟩ := HG.out.2.1 h
          rw [hun] at q4
          cases q4), HGR.out.frame (ua.same HGR.out.lt (by simp)), A3, A6, [ThRow 1 (.slice (some ⟨w.heap.size, 0, none⟩) l.length l.length) ((List.replicate l.length false).map bov)], A11, (fun h => HG.out.2.2.1 (by rw [getD_set_ne false (by decide)] at h; exact h)), (fun h => HG.out.2.2.2.1 (by rw [getD_set_ne false (by decide)] at h; exact h)), fun _ => rfl, (fun h => HG.out.2.2.2.2.2.1 (by rw [getD_set_ne false (by decide)] at h; exact h)), ?_⟩
        have h9 := CrX.put (A := A3 ++ A6) (B := A9) (by rw [List.append_assoc]; exact HG.out.2.2.2.2.2.2) ua (X := ThRow 1 _ _) (zeroB_row w l.length (by omega))
        rw [List.append_assoc] at h9
        exact h9
      case' inl.inr =>
        refine ⟨_, by rfl, fun K hK => ?_⟩
        clear g1 g10 h31 h10
        go_wp2_with fail
        have ua := Upd.alloc1 w (.cells #[.int .i64 0, .slice none 0 0, .slice none 0 0, .int .i64 0, .slice none 0 0] 85 (0, 0)) []
        refine hK _ _ trivial ⟨x42, x44, x47, x50, .pointer (some ⟨w.heap.size, 0, none⟩), x51, by rfl, (fun h => HG.out.1 (by rw [getD_set_ne false (by decide)] at h; exact h)), (fun h => by
          rw [getD_set_ne false (by decide)] at h
          obtain ⟨q1, q2, q3, q4⟩ := HG.out.2.1 h
          exact ⟨q1, getD_set_true q2, getD_set_true q3, getD_set_true q4⟩), HGR.out.frame (ua.same HGR.out.lt (by simp)), A3, A6, A9, [ThCell w.heap.size (.cells #[.int .i64 0, .slice none 0 0, .slice none 0 0, .int .i64 0, .slice none 0 0] 85 (0, 0))], (fun h => HG.out.2.2.1 (by rw [getD_set_ne false (by decide)] at h; exact h)), (fun h => HG.out.2.2.2.1 (by rw [getD_set_ne false (by decide)] at h; exact h)), (fun h => HG.out.2.2.2.2.1 (by rw [getD_set_ne false (by decide)] at h; exact h)), fun _ => ⟨_, rfl, rfl⟩, ?_⟩
        have h11 := CrX.put (A := A3 ++ (A6 ++ A9)) (B := A11) (by simp only [List.append_assoc]; exact HG.out.2.2.2.2.2.2) ua (X := ThCell w.heap.size _) ⟨heap_alloc_new w _, rfl⟩
        simp only [List.append_assoc] at h11
        exact h11
      case' inr =>
        refine ⟨_, by rfl, fun K hK => ?_⟩
        obtain ⟨⟨t3, t6⟩, t9⟩ : (L.getD 3 false = true ∧ L.getD 6 false = true) ∧ L.getD 9 false = true := by
          rcases h10 with h | h
          · exact absurd rfl h
          · exact h
        have gX := HG.out.2.2.2.2.2.2
        have e3 := HG.out.2.2.1 t3
        have e6 := HG.out.2.2.2.1 t6
        have e9 := HG.out.2.2.2.2.1 t9
        obtain ⟨D3, hD3⟩ := gX.sep.has (T := ThRow 1 x44 (l.map iv)) (by simp [e3])
        obtain ⟨b3, n3, k3, hx44, -⟩ := OwnRow.len hD3
        obtain ⟨D6, hD6⟩ := gX.sep.has (T := ThRow 1 x47 ((List.replicate l.length (0 : Int)).map iv)) (by simp [e6])
        obtain ⟨b6, n6, k6, hx47, -⟩ := OwnRow.len hD6
        obtain ⟨D9, hD9⟩ := gX.sep.has (T := ThRow 1 x50 ((List.replicate l.length false).map bov)) (by simp [e9])
        obtain ⟨b9, n9, k9, hx50, -⟩ := OwnRow.len hD9
        clear hD3 hD6 hD9 e3 e6 e9 gX
        subst hx44 hx47 hx50
        clear g1 g10 h31 h10
        go_wp2_with fail
        refine hK _ _ trivial ⟨x42, .slice b3 n3 k3, .slice b6 n6 k6, .slice b9 n9 k9, x8, .agg #[.int .i64 id, .slice b3 n3 k3, .slice b6 n6 k6, .int .i64 0, .slice b9 n9 k9], by rfl, (fun h => HG.out.1 (by rw [getD_set_ne false (by decide)] at h; exact h)), fun _ => ⟨rfl, getD_set_true t3, getD_set_true t6, getD_set_true t9⟩, HGR.out, A3, A6, A9, A11, (fun h => HG.out.2.2.1 (by rw [getD_set_ne false (by decide)] at h; exact h)), (fun h => HG.out.2.2.2.1 (by rw [getD_set_ne false (by decide)] at h; exact h)), (fun h => HG.out.2.2.2.2.1 (by rw [getD_set_ne false (by decide)] at h; exact h)), (fun h => HG.out.2.2.2.2.2.1 (by rw [getD_set_ne false (by decide)] at h; exact h)), HG.out.2.2.2.2.2.2⟩
    case' refine_3 =>
      exact ⟨undef, undef, undef, undef, undef, undef, by rw [ha0]; rfl, fun h => absurd h (by decide), fun h => absurd h (by decide), HQ.out.2.frame (by intro b hb; rfl), [], [], [], [], fun h => absurd h (by decide), fun h => absurd h (by decide), fun h => absurd h (by decide), fun h => absurd h (by decide), HQ.out.1.keep (Upd.refl wr []).drew⟩
    case' refine_2 =>
      intro a w hG
      obtain ⟨x42, x44, x47, x50, x8, x51, rfl, -, g10, gr, A3, A6, A9, A11, g3, g6, g9, g11, gX⟩ := hG
      obtain ⟨rfl, -⟩ := g10 rfl
      obtain rfl := g3 rfl
      obtain rfl := g6 rfl
      obtain rfl := g9 rfl
      obtain ⟨bx, rfl, rfl⟩ := g11 rfl
      clear g3 g6 g9 g11 g10 gr
      have gX : CrX w0 w c (.slice a gs.length cp) gs (ThRow 1 x44 (l.map iv) :: ThRow 1 x47 ((List.replicate l.length (0 : Int)).map iv) :: ThRow 1 x50 ((List.replicate l.length false).map bov) :: ThCell bx (.cells #[.int .i64 0, .slice none 0 0, .slice none 0 0, .int .i64 0, .slice none 0 0] 85 (0, 0)) :: R) rows := gX
      obtain ⟨D3, hD3⟩ := gX.sep.has (T := ThRow 1 x44 (l.map iv)) (by simp)
      obtain ⟨xa, xn, xk, rfl, -⟩ := OwnRow.len hD3
      obtain ⟨D6, hD6⟩ := gX.sep.has (T := ThRow 1 x47 ((List.replicate l.length (0 : Int)).map iv)) (by simp)
      obtain ⟨ya, yn, yk, rfl, -⟩ := OwnRow.len hD6
      obtain ⟨D9, hD9⟩ := gX.sep.has (T := ThRow 1 x50 ((List.replicate l.length false).map bov)) (by simp)
      obtain ⟨za, zn, zk, rfl, -⟩ := OwnRow.len hD9
      clear hD3 hD6 hD9
      rw [ha0]
      simp only [Act.put, List.setIfInBounds_toArray, List.set_cons_zero, List.set_cons_succ]
      clear ha0 a0
      have s0 : Sep w0 w (ThCell bx (.cells #[.int .i64 0, .slice none 0 0, .slice none 0 0, .int .i64 0, .slice none 0 0] 85 (0, 0)) :: ThCell c (.cells #[.slice a gs.length cp] 51 (0, 0)) :: ThRow 5 (.slice a gs.length cp) (gs.flatMap OneG.cell) :: (gs.flatMap OneG.th ++ (ThRow 1 (.slice xa xn xk) (l.map iv) :: ThRow 1 (.slice ya yn yk) ((List.replicate l.length (0 : Int)).map iv) :: ThRow 1 (.slice za zn zk) ((List.replicate l.length false).map bov) :: R))) rows := by
        refine gX.sep.perm ?_
        have := List.perm_middle (l₁ := ThCell c (.cells #[.slice a gs.length cp] 51 (0, 0)) :: ThRow 5 (.slice a gs.length cp) (gs.flatMap OneG.cell) :: (gs.flatMap OneG.th ++ [ThRow 1 (.slice xa xn xk) (l.map iv), ThRow 1 (.slice ya yn yk) ((List.replicate l.length (0 : Int)).map iv), ThRow 1 (.slice za zn zk) ((List.replicate l.length false).map bov)])) (a := ThCell bx (.cells #[.int .i64 0, .slice none 0 0, .slice none 0 0, .int .i64 0, .slice none 0 0] 85 (0, 0))) (l₂ := R)
        simpa using this
      have z0 := frz_of s0.blk 0
      have z0c := cell_of s0.blk 0 rfl
      have s1 := s0.set 0 (.int .i64 id)
      have z1 := frz_of s1.blk 1
      have z1c := cell_of s1.blk 1 rfl
      have s2 := s1.set 1 (.slice xa xn xk)
      have z2 := frz_of s2.blk 2
      have z2c := cell_of s2.blk 2 rfl
      have s3 := s2.set 2 (.slice ya yn yk)
      have z3 := frz_of s3.blk 3
      have z3c := cell_of s3.blk 3 rfl
      have s4 := s3.set 3 (.int .i64 0)
      have z4 := frz_of s4.blk 4
      have z4c := cell_of s4.blk 4 rfl
      have s5 := s4.set 4 (.slice za zn zk)
      have HS5 := Lib.hid (show _ ∧ _ ∧ _ from ⟨s5, gX.wf, gX.few⟩)
      clear s0 s1 s2 s3 s4 s5 gX
      refine wpAnyM_of_any _ _ _ _ (by decide) ?_
      refine wpAny_list [12] (fuel := 0) (by kernel_rfl) ?_
      simp only [List.filterMap_cons, List.filterMap_nil, List.getElem?_toArray, List.getElem?_cons_succ, List.getElem?_cons_zero]
      go_wp2_with fail
      obtain ⟨wq, hwq⟩ : ∃ z, z = ((((w.setCell ⟨bx, 0, none⟩ (.int .i64 id)).setCell ⟨bx, 1, none⟩ (.slice xa xn xk)).setCell ⟨bx, 2, none⟩ (.slice ya yn yk)).setCell ⟨bx, 3, none⟩ (.int .i64 0)).setCell ⟨bx, 4, none⟩ (.slice za zn zk) := ⟨_, rfl⟩
      rw [← hwq] at HS5 ⊢
      clear hwq z0 z0c z1 z1c z2 z2c z3 z3c z4 z4c
      have b0 : wq.cell? ⟨bx, 0, none⟩ = some (.int .i64 id) := cell_of HS5.out.1.blk 0 rfl
      have b1 : wq.cell? ⟨bx, 1, none⟩ = some (.slice xa xn xk) := cell_of HS5.out.1.blk 1 rfl
      have b2 : wq.cell? ⟨bx, 2, none⟩ = some (.slice ya yn yk) := cell_of HS5.out.1.blk 2 rfl
      have b3 : wq.cell? ⟨bx, 3, none⟩ = some (.int .i64 0) := cell_of HS5.out.1.blk 3 rfl
      have b4 : wq.cell? ⟨bx, 4, none⟩ = some (.slice za zn zk) := cell_of HS5.out.1.blk 4 rfl
      have c2 : wq.cell? ⟨c, 0, none⟩ = some (.slice a gs.length cp) := cell_of HS5.out.1.drop.blk 0 rfl
      have HQ := Lib.hid (show CrX w0 wq c (.slice a gs.length cp) gs (ThRow 1 (.slice xa xn xk) (l.map iv) :: ThRow 1 (.slice ya yn yk) ((List.replicate l.length (0 : Int)).map iv) :: ThRow 1 (.slice za zn zk) ((List.replicate l.length false).map bov) :: R) rows ∧ True from ⟨⟨HS5.out.2.1, HS5.out.2.2, HS5.out.1.drop⟩, trivial⟩)
      clear HS5
      obtain ⟨a', E1, E2, hsl1, hR1, hsl2, hR2⟩ := HQ.out.1.cut p p hp hp
      have HSS := Lib.hid (show _ ∧ _ ∧ _ ∧ _ from ⟨HQ.out.1, hR1, hR2, HQ.out.2⟩)
      clear hR1 hR2
      go_wp2_with fail
      refine wp_region_M (fun W => W.cell? ⟨c, 0, none⟩ = some (.slice a gs.length cp) ∧ W.cell? ⟨bx, 0, none⟩ = some (.int .i64 id) ∧ W.cell? ⟨bx, 1, none⟩ = some (.slice xa xn xk) ∧ W.cell? ⟨bx, 2, none⟩ = some (.slice ya yn yk) ∧ W.cell? ⟨bx, 3, none⟩ = some (.int .i64 0) ∧ W.cell? ⟨bx, 4, none⟩ = some (.slice za zn zk)) 19 (by kernel_rfl) ?_
      refine wpAnyM_take (by kernel_rfl) (by intro c a d v w h; cases d <;> exact h) [(0, false), (2, false), (3, false), (4, false), (5, true), (6, false), (7, false), (9, true), (12, false), (13, false), (14, false), (15, true), (16, false), (17, false)] (fuel := 8) (by kernel_rfl) ?_
      apply Exists.intro; refine ⟨?_, ⟨c2, b0, b1, b2, b3, b4⟩, ?_⟩
      · iterate 14 ((first | (apply yieldN; (· (simp only [List.getElem?_toArray, List.getElem?_cons_succ, List.getElem?_cons_zero]; try rfl)); (· rfl)) | ((first | apply yieldP | apply yieldL); (· (simp only [List.getElem?_toArray, List.getElem?_cons_succ, List.getElem?_cons_zero]; try rfl)); (· rfl); (· (intros; go_simp; try with_reducible rfl)))); (· (simp only [Act.put, List.setIfInBounds_toArray, List.set_cons_zero, List.set_cons_succ]; try rfl)))
        exact rfl
      refine wpAnyM_each (fuel := 7) [1, 10] (by kernel_rfl) (by simp) (fun i hi => ?_)
      simp only [List.mem_cons, List.not_mem_nil, or_false] at hi
      rcases hi with rfl | rfl
      case' inl =>
        refine ⟨_, by rfl, fun K hK => ?_⟩
        go_wp2_with fail
        have ua := Upd.alloc0 wq (.cells #[] 85) []
        have k2 := Six.keep ua ⟨c2, b0, b1, b2, b3, b4⟩
        refine hK _ _ k2 ?_
        clear hK
        obtain ⟨wa, hwa⟩ : ∃ z, z = wq.alloc (.cells #[] 85) := ⟨_, rfl⟩
        rw [← hwa] at ua k2 ⊢
        obtain ⟨HS, HR1, HR2, H1⟩ := HSS.out
        have HX := Lib.hid (show _ ∧ _ ∧ _ ∧ _ ∧ _ from ⟨HS.keep ua, HR1.frame (ua.same HR1.lt (by simp)), HR2.frame (ua.same HR2.lt (by simp)), H1, ua⟩)
        clear HS HR1 HR2 ua hwa H1
        refine wpAnyM_each (fuel := 6) [8, 10] (by kernel_rfl) (by simp) (fun i hi => ?_)
        simp only [List.mem_cons, List.not_mem_nil, or_false] at hi
        rcases hi with rfl | rfl
        case' inl =>
          refine ⟨_, by rfl, fun K hK => ?_⟩
          obtain ⟨n1, hn1, hsrc⟩ := (HX.out.2.1.frame ((Upd.refl wa []).drew.same HX.out.2.1.lt (by simp))).src (P := Try.prog) (tx := 49) Try.underlying49 (HX.out.1.one _ (fun g hg => List.mem_of_mem_take hg))
          rw [flatG_len cell_len, List.length_take] at hn1
          have HBD := Lib.hid (show ∀ n, ([] : List Value).length = n * 5 → n + n1 ≤ 140737488355328 ∧ (n + n1) * i0.bytes ≤ 140737488355328 from fun n hn => by simp at hn; rw [hz2]; omega)
          clear hn1
          refine wpList_app rfl _ _ 49 49 rfl 5 _ _ _ rfl (OwnRow.zero _ _ _) _ i0 _ Try.underlying49 hi0 hz0 hz1 rfl _ _ _ rfl hsrc HBD.out ?_
          intro a5 n5 c5 w5 D5 hown5 hu5
          have k5 := Six.keep ((Upd.refl wa []).drew.trans hu5) k2
          go_wp2_with fail
          refine hK _ _ k5 ?_
          clear hK
          refine wpAnyM_one (fuel := 5) (i := 10) (by kernel_rfl) (by rfl) (fun K hK => ?_)
          go_wp2_with fail
          have ub := Upd.alloc0 w5 (.cells #[.int .i64 id, .slice xa xn xk, .slice ya yn yk, .int .i64 0, .slice za zn zk] 85) D5
          have hrb := one_new w5 5 (by decide) #[.int .i64 id, .slice xa xn xk, .slice ya yn yk, .int .i64 0, .slice za zn zk] rfl 85
          have k6 := Six.keep (Upd.alloc0 w5 (.cells #[.int .i64 id, .slice xa xn xk, .slice ya yn yk, .int .i64 0, .slice za zn zk] 85) []) k5
          refine hK _ (w5.alloc (.cells #[.int .i64 id, .slice xa xn xk, .slice ya yn yk, .int .i64 0, .slice za zn zk] 85)) k6 ?_
          clear hK
          have ud : Upd w5 (w5.alloc (.cells #[.int .i64 id, .slice xa xn xk, .slice ya yn yk, .int .i64 0, .slice za zn zk] 85)) [] [] := Upd.alloc0 w5 _ []
          have HZ := Lib.hid (show _ ∧ _ ∧ _ ∧ _ from ⟨OwnRow.frame hown5 (ud.same (OwnRow.lt hown5) (by simp)), hrb, ((Upd.refl wa []).drew.trans hu5).trans ub, k6⟩)
          clear hown5 hrb hu5 ub ud k5 k6
          obtain ⟨g5, hg5⟩ : ∃ z, z = w5.heap.size := ⟨_, rfl⟩
          obtain ⟨wz, hwz⟩ : ∃ z, z = w5.alloc (.cells #[.int .i64 id, .slice xa xn xk, .slice ya yn yk, .int .i64 0, .slice za zn zk] 85) := ⟨_, rfl⟩
          rw [← hwz] at HZ ⊢
          rw [← hg5] at HZ ⊢
          clear hwz hg5
          refine wpAnyM_one (fuel := 4) (i := 11) (by kernel_rfl) (by rfl) (fun K hK => ?_)
          obtain ⟨hoz, hrz, huz, kz⟩ := HZ.out
          obtain ⟨m1, hm1, hs1⟩ := hrz.src (P := Try.prog) (tx := 49) Try.underlying49 (HO.out _ _ _ _ _ _ _ _ _)
          obtain rfl : m1 = 1 := by simp at hm1; omega
          have hl5 : (([] : List Value) ++ (gs.take p).flatMap OneG.cell).length ≤ 5000 := by
            rw [List.nil_append, flatG_len cell_len, List.length_take]; omega
          refine wpList_app rfl _ _ 49 49 rfl 5 _ _ _ rfl hoz _ i0 _ Try.underlying49 hi0 hz0 hz1 rfl _ _ _ rfl hs1 (fun n hn => by rw [hz2]; omega) ?_
          intro a6 n6 c6 w6 D6 hown6 hu6
          have k7 := Six.keep (huz.trans hu6) k2
          go_wp2_with fail
          refine hK _ _ k7 ?_
          clear hK
          refine wpAnyM_one (fuel := 3) (i := 18) (by kernel_rfl) (by rfl) (fun K hK => ?_)
          have hR3 := HX.out.2.2.1.frame ((huz.trans hu6).same HX.out.2.2.1.lt (by simp))
          obtain ⟨m2, hm2, hs2⟩ := hR3.src (P := Try.prog) (tx := 49) Try.underlying49 (HX.out.1.one _ (fun g hg => List.mem_of_mem_drop hg))
          rw [flatG_len cell_len, List.length_drop] at hm2
          refine wpList_app rfl _ _ 49 49 rfl 5 _ _ _ rfl hown6 _ i0 _ Try.underlying49 hi0 hz0 hz1 rfl _ _ _ rfl hs2 (fun n hn => by rw [List.length_append] at hn; simp at hn hl5; rw [hz2]; omega) ?_
          intro a7 n7 c7 w7 D7 hown7 hu7
          have hadd := (((HX.out.1.sep.addRow hown7 ((huz.trans hu6).trans hu7)).third).drop).swap
          have hb7 := hadd.blk
          have c7t := cell_of hb7 0 rfl
          have y71 := frz_of hb7 0
          have k8 := Six.keep ((huz.trans hu6).trans hu7) k2
          have HF := Lib.hid (hadd.set 0 (.slice a7 n7 c7))
          go_wp2_with fail
          refine hK _ _ k8 ?_
          clear hK
          refine wpAnyM_of_any _ _ _ _ (by decide) ?_
          refine wpAny_list [19, 20, 21] (fuel := 0) (by kernel_rfl) ?_
          simp only [List.filterMap_cons, List.filterMap_nil, List.getElem?_toArray, List.getElem?_cons_succ, List.getElem?_cons_zero]
          clear hoz hrz huz kz hs1 hs2 hown6 hown7 hu6 hu7 hadd hb7 hR3
          go_wp2_with fail
          go_ret
          rw [HB.out]
          refine ⟨rfl, _, ⟨fun e => absurd (show (beginS (gs.map OneG.ent) id l).1 = 0 by rw [HB.out]) e, fun _ => ⟨p, by rw [List.length_map]; exact hp, fun j hj hjp => by
            have h1 := HA.out j (by simpa using hj) hjp
            simpa [OneG.ent] using h1, fun hpl => by
            have h1 := HP.out (by simpa using hpl)
            simpa [OneG.ent] using h1, rfl⟩⟩, .slice a7 n7 c7, gs.take p ++ (⟨id, l, List.replicate l.length 0, 0, List.replicate l.length false, .slice xa xn xk, .slice ya yn yk, .slice za zn zk⟩ : OneG) :: gs.drop p, ?_, ⟨fun g hg => ?_, ?_, ?_⟩⟩
          · rw [List.map_append, List.map_take, List.map_cons, List.map_drop]
            unfold OneG.ent newE
            rw [owes_new]
          · rcases List.mem_append.1 hg with hg | hg
            · exact HX.out.1.wf g (List.mem_of_mem_take hg)
            · rcases List.mem_cons.1 hg with rfl | hg
              · exact ⟨by simp, by simp, hl4⟩
              · exact HX.out.1.wf g (List.mem_of_mem_drop hg)
          · rw [List.length_append, List.length_take, List.length_cons, List.length_drop]; omega
          · have hf := HF.out
            have hcells : (gs.take p ++ (⟨id, l, List.replicate l.length 0, 0, List.replicate l.length false, .slice xa xn xk, .slice ya yn yk, .slice za zn zk⟩ : OneG) :: gs.drop p).flatMap OneG.cell = ([] ++ (gs.take p).flatMap OneG.cell ++ [.int .i64 id, .slice xa xn xk, .slice ya yn yk, .int .i64 0, .slice za zn zk]) ++ (gs.drop p).flatMap OneG.cell := by
              simp [OneG.cell]
            rw [hcells]
            refine Sep.perm hf (List.Perm.cons _ (List.Perm.cons _ ?_))
            have e1 : gs.flatMap OneG.th = (gs.take p).flatMap OneG.th ++ (gs.drop p).flatMap OneG.th := by rw [← List.flatMap_append, List.take_append_drop]
            rw [e1, List.flatMap_append, List.flatMap_cons]
            simp only [List.append_assoc]
            refine List.Perm.append_left _ ?_
            exact List.perm_append_comm_assoc _ [ThRow 1 (.slice xa xn xk) (l.map iv), ThRow 1 (.slice ya yn yk) ((List.replicate l.length (0 : Int)).map iv), ThRow 1 (.slice za zn zk) ((List.replicate l.length false).map bov)] _
        case' inr =>
          refine ⟨_, by rfl, fun K hK => ?_⟩
          go_wp2_with fail
          have ub := Upd.alloc0 wa.drew (.cells #[.int .i64 id, .slice xa xn xk, .slice ya yn yk, .int .i64 0, .slice za zn zk] 85) []
          have hrb := one_new wa.drew 5 (by decide) #[.int .i64 id, .slice xa xn xk, .slice ya yn yk, .int .i64 0, .slice za zn zk] rfl 85
          have uc := (Upd.refl wa []).drew.trans ub
          have k4 := Six.keep uc k2
          refine hK _ (wa.drew.alloc (.cells #[.int .i64 id, .slice xa xn xk, .slice ya yn yk, .int .i64 0, .slice za zn zk] 85)) k4 ?_
          clear hK
          obtain ⟨g5, hg5⟩ : ∃ z, z = wa.drew.heap.size := ⟨_, rfl⟩
          obtain ⟨w4, hw4⟩ : ∃ z, z = wa.drew.alloc (.cells #[.int .i64 id, .slice xa xn xk, .slice ya yn yk, .int .i64 0, .slice za zn zk] 85) := ⟨_, rfl⟩
          rw [← hw4] at hrb k4 uc ⊢
          rw [← hg5] at hrb
          first | rw [← hg5] | (rw [show wa.heap.size = g5 from hg5.symm])
          clear ub hw4 hg5
          refine wpAnyM_one (fuel := 5) (i := 8) (by kernel_rfl) (by rfl) (fun K hK => ?_)
          obtain ⟨n1, hn1, hsrc⟩ := (HX.out.2.1.frame (uc.same HX.out.2.1.lt (by simp))).src (P := Try.prog) (tx := 49) Try.underlying49 (HX.out.1.one _ (fun g hg => List.mem_of_mem_take hg))
          rw [flatG_len cell_len, List.length_take] at hn1
          have HBD := Lib.hid (show ∀ n, ([] : List Value).length = n * 5 → n + n1 ≤ 140737488355328 ∧ (n + n1) * i0.bytes ≤ 140737488355328 from fun n hn => by simp at hn; rw [hz2]; omega)
          clear hn1
          refine wpList_app rfl _ _ 49 49 rfl 5 _ _ _ rfl (OwnRow.zero _ _ _) _ i0 _ Try.underlying49 hi0 hz0 hz1 rfl _ _ _ rfl hsrc HBD.out ?_
          intro a5 n5 c5 w5 D5 hown5 hu5
          have k5 := Six.keep hu5 k4
          have HZ := Lib.hid (show _ ∧ _ ∧ _ ∧ _ from ⟨hown5, hrb.frame (hu5.same hrb.lt (by simp)), uc.trans hu5, k5⟩)
          clear hown5 hrb hu5 uc k4 hsrc HBD
          go_wp2_with fail
          refine hK _ _ k5 ?_
          clear hK k5
          refine wpAnyM_one (fuel := 4) (i := 11) (by kernel_rfl) (by rfl) (fun K hK => ?_)
          obtain ⟨hoz, hrz, huz, kz⟩ := HZ.out
          obtain ⟨m1, hm1, hs1⟩ := hrz.src (P := Try.prog) (tx := 49) Try.underlying49 (HO.out _ _ _ _ _ _ _ _ _)
          obtain rfl : m1 = 1 := by simp at hm1; omega
          have hl5 : (([] : List Value) ++ (gs.take p).flatMap OneG.cell).length ≤ 5000 := by
            rw [List.nil_append, flatG_len cell_len, List.length_take]; omega
          refine wpList_app rfl _ _ 49 49 rfl 5 _ _ _ rfl hoz _ i0 _ Try.underlying49 hi0 hz0 hz1 rfl _ _ _ rfl hs1 (fun n hn => by rw [hz2]; omega) ?_
          intro a6 n6 c6 w6 D6 hown6 hu6
          have k7 := Six.keep (huz.trans hu6) k2
          go_wp2_with fail
          refine hK _ _ k7 ?_
          clear hK
          refine wpAnyM_one (fuel := 3) (i := 18) (by kernel_rfl) (by rfl) (fun K hK => ?_)
          have hR3 := HX.out.2.2.1.frame ((huz.trans hu6).same HX.out.2.2.1.lt (by simp))
          obtain ⟨m2, hm2, hs2⟩ := hR3.src (P := Try.prog) (tx := 49) Try.underlying49 (HX.out.1.one _ (fun g hg => List.mem_of_mem_drop hg))
          rw [flatG_len cell_len, List.length_drop] at hm2
          refine wpList_app rfl _ _ 49 49 rfl 5 _ _ _ rfl hown6 _ i0 _ Try.underlying49 hi0 hz0 hz1 rfl _ _ _ rfl hs2 (fun n hn => by rw [List.length_append] at hn; simp at hn hl5; rw [hz2]; omega) ?_
          intro a7 n7 c7 w7 D7 hown7 hu7
          have hadd := (((HX.out.1.sep.addRow hown7 ((huz.trans hu6).trans hu7)).third).drop).swap
          have hb7 := hadd.blk
          have c7t := cell_of hb7 0 rfl
          have y71 := frz_of hb7 0
          have k8 := Six.keep ((huz.trans hu6).trans hu7) k2
          have HF := Lib.hid (hadd.set 0 (.slice a7 n7 c7))
          go_wp2_with fail
          refine hK _ _ k8 ?_
          clear hK
          refine wpAnyM_of_any _ _ _ _ (by decide) ?_
          refine wpAny_list [19, 20, 21] (fuel := 0) (by kernel_rfl) ?_
          simp only [List.filterMap_cons, List.filterMap_nil, List.getElem?_toArray, List.getElem?_cons_succ, List.getElem?_cons_zero]
          clear hoz hrz huz kz hs1 hs2 hown6 hown7 hu6 hu7 hadd hb7 hR3
          go_wp2_with fail
          go_ret
          rw [HB.out]
          refine ⟨rfl, _, ⟨fun e => absurd (show (beginS (gs.map OneG.ent) id l).1 = 0 by rw [HB.out]) e, fun _ => ⟨p, by rw [List.length_map]; exact hp, fun j hj hjp => by
            have h1 := HA.out j (by simpa using hj) hjp
            simpa [OneG.ent] using h1, fun hpl => by
            have h1 := HP.out (by simpa using hpl)
            simpa [OneG.ent] using h1, rfl⟩⟩, .slice a7 n7 c7, gs.take p ++ (⟨id, l, List.replicate l.length 0, 0, List.replicate l.length false, .slice xa xn xk, .slice ya yn yk, .slice za zn zk⟩ : OneG) :: gs.drop p, ?_, ⟨fun g hg => ?_, ?_, ?_⟩⟩
          · rw [List.map_append, List.map_take, List.map_cons, List.map_drop]
            unfold OneG.ent newE
            rw [owes_new]
          · rcases List.mem_append.1 hg with hg | hg
            · exact HX.out.1.wf g (List.mem_of_mem_take hg)
            · rcases List.mem_cons.1 hg with rfl | hg
              · exact ⟨by simp, by simp, hl4⟩
              · exact HX.out.1.wf g (List.mem_of_mem_drop hg)
          · rw [List.length_append, List.length_take, List.length_cons, List.length_drop]; omega
          · have hf := HF.out
            have hcells : (gs.take p ++ (⟨id, l, List.replicate l.length 0, 0, List.replicate l.length false, .slice xa xn xk, .slice ya yn yk, .slice za zn zk⟩ : OneG) :: gs.drop p).flatMap OneG.cell = ([] ++ (gs.take p).flatMap OneG.cell ++ [.int .i64 id, .slice xa xn xk, .slice ya yn yk, .int .i64 0, .slice za zn zk]) ++ (gs.drop p).flatMap OneG.cell := by
              simp [OneG.cell]
            rw [hcells]
            refine Sep.perm hf (List.Perm.cons _ (List.Perm.cons _ ?_))
            have e1 : gs.flatMap OneG.th = (gs.take p).flatMap OneG.th ++ (gs.drop p).flatMap OneG.th := by rw [← List.flatMap_append, List.take_append_drop]
            rw [e1, List.flatMap_append, List.flatMap_cons]
            simp only [List.append_assoc]
            refine List.Perm.append_left _ ?_
            exact List.perm_append_comm_assoc _ [ThRow 1 (.slice xa xn xk) (l.map iv), ThRow 1 (.slice ya yn yk) ((List.replicate l.length (0 : Int)).map iv), ThRow 1 (.slice za zn zk) ((List.replicate l.length false).map bov)] _
      case' inr =>
        refine ⟨_, by rfl, fun K hK => ?_⟩
        go_wp2_with fail
        have ub := (Upd.alloc0 wq (.cells #[.int .i64 id, .slice xa xn xk, .slice ya yn yk, .int .i64 0, .slice za zn zk] 85) []).drew
        have hrb0 := one_new wq 5 (by decide) #[.int .i64 id, .slice xa xn xk, .slice ya yn yk, .int .i64 0, .slice za zn zk] rfl 85
        have hrb := hrb0.frame ((Upd.refl _ []).drew.same hrb0.lt (by simp))
        clear hrb0
        have k4 := Six.keep ub ⟨c2, b0, b1, b2, b3, b4⟩
        refine hK _ (wq.alloc (.cells #[.int .i64 id, .slice xa xn xk, .slice ya yn yk, .int .i64 0, .slice za zn zk] 85)).drew k4 ?_
        clear hK
        obtain ⟨g5, hg5⟩ : ∃ z, z = wq.heap.size := ⟨_, rfl⟩
        obtain ⟨w4, hw4⟩ : ∃ z, z = (wq.alloc (.cells #[.int .i64 id, .slice xa xn xk, .slice ya yn yk, .int .i64 0, .slice za zn zk] 85)).drew := ⟨_, rfl⟩
        rw [← hw4] at hrb k4 ub ⊢
        rw [← hg5] at hrb ⊢
        clear hw4 hg5
        refine wpAnyM_one (fuel := 6) (i := 1) (by kernel_rfl) (by rfl) (fun K hK => ?_)
        go_wp2_with fail
        have ua0 := Upd.alloc0 w4 (.cells #[] 85) []
        have k2 := Six.keep ua0 k4
        refine hK _ _ k2 ?_
        clear hK
        obtain ⟨wa, hwa⟩ : ∃ z, z = w4.alloc (.cells #[] 85) := ⟨_, rfl⟩
        rw [← hwa] at ua0 k2 ⊢
        have ua := ub.trans ua0
        have hrc := hrb.frame (ua0.same hrb.lt (by simp))
        obtain ⟨HS, HR1, HR2, H1⟩ := HSS.out
        have HX := Lib.hid (show _ ∧ _ ∧ _ ∧ _ ∧ _ from ⟨HS.keep ua, HR1.frame (ua.same HR1.lt (by simp)), HR2.frame (ua.same HR2.lt (by simp)), H1, ua⟩)
        clear HS HR1 HR2 ua hwa ub ua0 hrb k4 H1
        refine wpAnyM_one (fuel := 5) (i := 8) (by kernel_rfl) (by rfl) (fun K hK => ?_)
        obtain ⟨n1, hn1, hsrc⟩ := HX.out.2.1.src (P := Try.prog) (tx := 49) Try.underlying49 (HX.out.1.one _ (fun g hg => List.mem_of_mem_take hg))
        rw [flatG_len cell_len, List.length_take] at hn1
        have HBD := Lib.hid (show ∀ n, ([] : List Value).length = n * 5 → n + n1 ≤ 140737488355328 ∧ (n + n1) * i0.bytes ≤ 140737488355328 from fun n hn => by simp at hn; rw [hz2]; omega)
        clear hn1
        refine wpList_app rfl _ _ 49 49 rfl 5 _ _ _ rfl (OwnRow.zero _ _ _) _ i0 _ Try.underlying49 hi0 hz0 hz1 rfl _ _ _ rfl hsrc HBD.out ?_
        intro a5 n5 c5 w5 D5 hown5 hu5
        have k5 := Six.keep hu5 k2
        have HZ := Lib.hid (show _ ∧ _ ∧ _ ∧ _ from ⟨hown5, hrc.frame (hu5.same hrc.lt (by simp)), hu5, k5⟩)
        clear hown5 hrc hu5 hsrc HBD
        go_wp2_with fail
        refine hK _ _ k5 ?_
        clear hK k5
        refine wpAnyM_one (fuel := 4) (i := 11) (by kernel_rfl) (by rfl) (fun K hK => ?_)
        obtain ⟨hoz, hrz, huz, kz⟩ := HZ.out
        obtain ⟨m1, hm1, hs1⟩ := hrz.src (P := Try.prog) (tx := 49) Try.underlying49 (HO.out _ _ _ _ _ _ _ _ _)
        obtain rfl : m1 = 1 := by simp at hm1; omega
        have hl5 : (([] : List Value) ++ (gs.take p).flatMap OneG.cell).length ≤ 5000 := by
          rw [List.nil_append, flatG_len cell_len, List.length_take]; omega
        refine wpList_app rfl _ _ 49 49 rfl 5 _ _ _ rfl hoz _ i0 _ Try.underlying49 hi0 hz0 hz1 rfl _ _ _ rfl hs1 (fun n hn => by rw [hz2]; omega) ?_
        intro a6 n6 c6 w6 D6 hown6 hu6
        have k7 := Six.keep (huz.trans hu6) k2
        go_wp2_with fail
        refine hK _ _ k7 ?_
        clear hK
        refine wpAnyM_one (fuel := 3) (i := 18) (by kernel_rfl) (by rfl) (fun K hK => ?_)
        have hR3 := HX.out.2.2.1.frame ((huz.trans hu6).same HX.out.2.2.1.lt (by simp))
        obtain ⟨m2, hm2, hs2⟩ := hR3.src (P := Try.prog) (tx := 49) Try.underlying49 (HX.out.1.one _ (fun g hg => List.mem_of_mem_drop hg))
        rw [flatG_len cell_len, List.length_drop] at hm2
        refine wpList_app rfl _ _ 49 49 rfl 5 _ _ _ rfl hown6 _ i0 _ Try.underlying49 hi0 hz0 hz1 rfl _ _ _ rfl hs2 (fun n hn => by rw [List.length_append] at hn; simp at hn hl5; rw [hz2]; omega) ?_
        intro a7 n7 c7 w7 D7 hown7 hu7
        have hadd := (((HX.out.1.sep.addRow hown7 ((huz.trans hu6).trans hu7)).third).drop).swap
        have hb7 := hadd.blk
        have c7t := cell_of hb7 0 rfl
        have y71 := frz_of hb7 0
        have k8 := Six.keep ((huz.trans hu6).trans hu7) k2
        have HF := Lib.hid (hadd.set 0 (.slice a7 n7 c7))
        go_wp2_with fail
        refine hK _ _ k8 ?_
        clear hK
        refine wpAnyM_of_any _ _ _ _ (by decide) ?_
        refine wpAny_list [19, 20, 21] (fuel := 0) (by kernel_rfl) ?_
        simp only [List.filterMap_cons, List.filterMap_nil, List.getElem?_toArray, List.getElem?_cons_succ, List.getElem?_cons_zero]
        clear hoz hrz huz kz hs1 hs2 hown6 hown7 hu6 hu7 hadd hb7 hR3
        go_wp2_with fail
        go_ret
        rw [HB.out]
        refine ⟨rfl, _, ⟨fun e => absurd (show (beginS (gs.map OneG.ent) id l).1 = 0 by rw [HB.out]) e, fun _ => ⟨p, by rw [List.length_map]; exact hp, fun j hj hjp => by
          have h1 := HA.out j (by simpa using hj) hjp
          simpa [OneG.ent] using h1, fun hpl => by
          have h1 := HP.out (by simpa using hpl)
          simpa [OneG.ent] using h1, rfl⟩⟩, .slice a7 n7 c7, gs.take p ++ (⟨id, l, List.replicate l.length 0, 0, List.replicate l.length false, .slice xa xn xk, .slice ya yn yk, .slice za zn zk⟩ : OneG) :: gs.drop p, ?_, ⟨fun g hg => ?_, ?_, ?_⟩⟩
        · rw [List.map_append, List.map_take, List.map_cons, List.map_drop]
          unfold OneG.ent newE
          rw [owes_new]
        · rcases List.mem_append.1 hg with hg | hg
          · exact HX.out.1.wf g (List.mem_of_mem_take hg)
          · rcases List.mem_cons.1 hg with rfl | hg
            · exact ⟨by simp, by simp, hl4⟩
            · exact HX.out.1.wf g (List.mem_of_mem_drop hg)
        · rw [List.length_append, List.length_take, List.length_cons, List.length_drop]; omega
        · have hf := HF.out
          have hcells : (gs.take p ++ (⟨id, l, List.replicate l.length 0, 0, List.replicate l.length false, .slice xa xn xk, .slice ya yn yk, .slice za zn zk⟩ : OneG) :: gs.drop p).flatMap OneG.cell = ([] ++ (gs.take p).flatMap OneG.cell ++ [.int .i64 id, .slice xa xn xk, .slice ya yn yk, .int .i64 0, .slice za zn zk]) ++ (gs.drop p).flatMap OneG.cell := by
            simp [OneG.cell]
          rw [hcells]
          refine Sep.perm hf (List.Perm.cons _ (List.Perm.cons _ ?_))
          have e1 : gs.flatMap OneG.th = (gs.take p).flatMap OneG.th ++ (gs.drop p).flatMap OneG.th := by rw [← List.flatMap_append, List.take_append_drop]
          rw [e1, List.flatMap_append, List.flatMap_cons]
          simp only [List.append_assoc]
          refine List.Perm.append_left _ ?_
          exact List.perm_append_comm_assoc _ [ThRow 1 (.slice xa xn xk) (l.map iv), ThRow 1 (.slice ya yn yk) ((List.replicate l.length (0 : Int)).map iv), ThRow 1 (.slice za zn zk) ((List.replicate l.length false).map bov)] _
end
end Go.Proofs.Ytebmmbommkpjaaa

/-
  The document's own Coord: Begin, whole; Owes.
-/
namespace Go.Proofs.Ytebmmbommkpjaaa
open Go.RowKit Go.Av
section
variable {w0 w : World} {c : Nat} {T : CoS} {R : List Thing} {rows : List (Value × Bs)} {v : Value} {gs l1 l2 : List OneG} {g : OneG}
set_option maxRecDepth 100000 in
set_option maxHeartbeats 2000000 in
theorem cr_begin (h : Cr w0 w c T R rows) (hI : InvC T) (id : Int) (v : Value) (l : List Int) (E : List Nat) (hv : ReadRow w 1 v (l.map iv) E) (hfew : T.length < 1000) :
    Calls Try.prog 22 #[.pointer (some ⟨c, 0, none⟩), .int .i64 id, v] w fun e w' => e = .returned (.int .i64 (beginS T id l).1) ∧ ∃ T', BegR T id l T' ∧ Cr w0 w' c T' R rows := by
  by_cases hi1 : id < 1
  · have HB := Lib.hid (show beginS T id l = (1, T) by unfold beginS; rw [if_pos (.inl hi1)])
    have H := Lib.hid h
    clear h hv hI
    go_enter Try.func22, Try.ntmps22
    go_wp2_with fail
    go_ret
    rw [HB.out]
    exact ⟨rfl, T, ⟨fun _ => rfl, fun e => absurd (show (beginS T id l).1 = 1 by rw [HB.out]) (by rw [e]; decide)⟩, H.out⟩
  cases hb : (risS l && decide (0 < l.length)) with
  | false =>
    have HB := Lib.hid (show beginS T id l = (1, T) by
      unfold beginS
      rw [if_pos]
      rw [Bool.and_eq_false_iff, decide_eq_false_iff_not] at hb
      rcases hb with hb | hb
      · exact .inr (.inr hb)
      · exact .inr (.inl (by omega)))
    have hrs := rrising_any v l E w hv
    rw [hb] at hrs
    have HRS := Lib.hid hrs
    have H := Lib.hid h
    clear h hv hI hrs hb
    go_enter Try.func22, Try.ntmps22
    go_wp2_with fail
    refine HRS.out.mono ?_
    rintro e w1 ⟨rfl, hu1⟩
    have H1 := Lib.hid (H.out.keep hu1)
    clear hu1
    go_wp2_with fail
    go_ret
    rw [HB.out]
    exact ⟨rfl, T, ⟨fun _ => rfl, fun e => absurd (show (beginS T id l).1 = 1 by rw [HB.out]) (by rw [e]; decide)⟩, H1.out⟩
  | true =>
    have hb2 := hb
    rw [Bool.and_eq_true, decide_eq_true_eq] at hb2
    cases hx : lookS id T with
    | none => exact cr_begin_new h hI id v l E hv hi1 (by omega) hb2.1 hx hfew
    | some x =>
      have HB := Lib.hid (show beginS T id l = (5, T) by unfold beginS; rw [if_neg (by simp [hi1, hb2.1]; intro e; rw [e] at hb2; simp at hb2), hx])
      have hrs := rrising_any v l E w hv
      rw [hb] at hrs
      have HRS := Lib.hid hrs
      obtain ⟨vv, gs, hT, hX⟩ := h
      subst hT
      obtain ⟨p, hp, hid, hx2, hno⟩ := ent_some hx
      have HX := Lib.hid (show _ ∧ _ ∧ _ from ⟨hX, hid, hno⟩)
      clear hX hid hno hx2 hx hv hI hrs hb hb2
      go_enter Try.func22, Try.ntmps22
      go_wp2_with fail
      refine HRS.out.mono ?_
      rintro e w1 ⟨rfl, hu1⟩
      have HX1 := Lib.hid (HX.out.1.keep hu1)
      have HAT := Lib.hid (cr_at HX1.out id p hp HX.out.2.1 HX.out.2.2)
      clear hu1
      go_wp2_with fail
      refine HAT.out.mono ?_
      rintro e w2 ⟨rfl, hW⟩
      subst w2
      go_wp2_with fail
      go_ret
      rw [HB.out]
      exact ⟨rfl, _, ⟨fun _ => rfl, fun e => absurd (show (beginS (gs.map OneG.ent) id l).1 = 5 by rw [HB.out]) (by rw [e]; decide)⟩, vv, gs, rfl, HX1.out⟩
theorem owes_take : ∀ (ss : List Int) (ds : List Bool) (q : Nat) (h1 : q < ss.length) (h2 : q < ds.length), owesL (ss.take (q + 1)) (ds.take (q + 1)) = owesL (ss.take q) (ds.take q) ++ (if ds[q] then [] else [ss[q]])
  | [], _, _, h, _ => by simp at h
  | _ :: _, [], _, _, h => by simp at h
  | s :: ss, d :: ds, 0, _, _ => by
    cases d <;> simp [owesL]
  | s :: ss, d :: ds, q + 1, h1, h2 => by
    have ih := owes_take ss ds q (by simpa using h1) (by simpa using h2)
    rw [List.take_succ_cons, List.take_succ_cons, List.take_succ_cons, List.take_succ_cons, owesL, owesL, ih]
    cases d <;> simp
theorem owesL_len : ∀ (ss : List Int) (ds : List Bool), (owesL ss ds).length ≤ ss.length
  | [], ds => by cases ds <;> simp [owesL]
  | x :: ss, [] => by simp [owesL]
  | x :: ss, d :: ds => by
    have := owesL_len ss ds
    unfold owesL
    split
    · simp; omega
    · simp; omega
set_option maxRecDepth 100000 in
set_option maxHeartbeats 2000000 in
theorem cr_owes (h : Cr w0 w c T R rows) (id : Int) :
    Calls Try.prog 28 #[.pointer (some ⟨c, 0, none⟩), .int .i64 id] w fun e w' => ∃ v D, e = .returned v ∧ OwnRow w' 1 v ((owesS T id).map iv) D ∧ Upd w w' [] D := by
  obtain ⟨j0, hj0, jz0, jz1, jz2⟩ := info_parts infoI
  cases hx : lookS id T with
  | none =>
    have HD := Lib.hid (show owesS T id = [] by unfold owesS; rw [hx])
    obtain ⟨v, gs, hT, hX⟩ := h
    subst hT
    have HAT := Lib.hid (cr_at_no hX id (ent_none hx))
    clear hX hx
    go_enter Try.func28, Try.ntmps28
    go_wp2_with fail
    refine HAT.out.mono ?_
    rintro e w1 ⟨rfl, hW⟩
    subst w1
    go_wp2_with fail
    go_loopg [6, 7] 0 (fun k vl vi wr => wr = w ∧ k = 0 ∧ vl = .slice none 0 0 ∧ vi = .int .i64 0)
    case atStart => exact ⟨rfl, rfl, rfl, rfl⟩
    case round =>
      obtain ⟨hW, hk, hvl, hvi⟩ := hrel
      subst wr hvl hvi
      go_wp2_with fail
      go_ret
      rw [HD.out]
      exact ⟨_, [], rfl, OwnRow.nil _ _, Upd.refl _ _⟩
  | some x =>
    obtain ⟨v, gs, hT, hX⟩ := h
    subst hT
    obtain ⟨p, hp, hid, hx2, hno⟩ := ent_some hx
    have HAT := Lib.hid (cr_at hX id p hp hid hno)
    have HD := Lib.hid (show owesS (gs.map OneG.ent) id = owesL gs[p].sh gs[p].dn by unfold owesS; rw [hx]; show x.owes = _; rw [← hx2]; rfl)
    obtain ⟨b1, b2, b3⟩ := hX.wf gs[p] (List.getElem_mem hp)
    obtain ⟨a, cp, rfl, c0, hcp, hcm, hrow⟩ := hX.facts
    unfold maxLen at hcm
    have h1000 := hX.few
    obtain ⟨y, rfl, hys, e0, e1, e2, e3, e4, ⟨E1, hr1⟩, -, E3, hr3⟩ := hrow p hp
    obtain ⟨asx, ns, cs, hvs, hls, hns, hcs, -⟩ := _root_.id hr1
    rw [List.length_map, Nat.mul_one] at hls
    obtain ⟨ad, nd, cd, hvd, hld, hnd, hcd, -⟩ := _root_.id hr3
    rw [List.length_map, Nat.mul_one] at hld
    unfold maxLen at hcs hcd
    rw [hvs] at hr1 e1
    rw [hvd] at hr3 e4
    have HR := Lib.hid (show _ ∧ _ from ⟨hr1, hr3⟩)
    obtain ⟨ss, hss⟩ : ∃ ss, gs[p].sh = ss := ⟨_, rfl⟩
    obtain ⟨ds, hds⟩ : ∃ ds, gs[p].dn = ds := ⟨_, rfl⟩
    rw [hss] at hls b2 b3 HR HD
    rw [hds] at hld b2 HR HD
    have hns4 : ns ≤ 4 := by omega
    have hnsd : nd = ns := by omega
    subst hnsd
    have HL := Lib.hid (show _ ∧ _ from ⟨hls, hld⟩)
    clear hX hx hx2 hid hno hrow e0 e2 e3 hr1 hr3 hvs hvd b1 b2 b3 hss hds hls hld
    go_enter Try.func28, Try.ntmps28
    go_wp2_with fail
    refine HAT.out.mono ?_
    rintro e w1 ⟨rfl, hW⟩
    subst w1
    go_wp2_with fail
    go_loopg [6, 7] nd (fun k vl vi wr => ∃ (q : Nat) (D : List Nat), q ≤ nd ∧ k = nd - q ∧ vi = .int .i64 (q : Int) ∧ OwnRow wr 1 vl ((owesL (ss.take q) (ds.take q)).map iv) D ∧ Upd w wr [] D)
    case atStart => exact ⟨0, [], Nat.zero_le _, rfl, rfl, OwnRow.nil _ _, Upd.refl _ _⟩
    case round =>
      obtain ⟨q, D, hq, hk, hvi, hown, hu⟩ := hrel
      subst hvi
      obtain ⟨al, nl, cl, rfl, hll, hnl, hcl, -⟩ := _root_.id hown
      rw [List.length_map, Nat.mul_one] at hll
      have hlo := owesL_len (ss.take q) (ds.take q)
      rw [List.length_take] at hlo
      unfold maxLen at hcl
      have c0 := upd_cell hu c0
      have e1 := upd_cell hu e1
      have e4 := upd_cell hu e4
      have HO := Lib.hid (show _ ∧ _ from ⟨hown, hu⟩)
      have hll2 : nl ≤ 4 := by have := HL.out.1; omega
      by_cases hlt : q < nd
      · obtain ⟨z1, hz1, hzs1, f1⟩ := read_cellI (HR.out.1.frame (hu.same HR.out.1.lt (by simp))) (i := q) (x := iv (ss[q]'(by rw [HL.out.1]; exact hlt))) (by rw [List.getElem?_map, List.getElem?_eq_getElem (by rw [HL.out.1]; exact hlt)]; rfl)
        obtain ⟨z2, hz2, hzs2, f2⟩ := read_cellI (HR.out.2.frame (hu.same HR.out.2.lt (by simp))) (i := q) (x := bov (ds[q]'(by rw [HL.out.2]; exact hlt))) (by rw [List.getElem?_map, List.getElem?_eq_getElem (by rw [HL.out.2]; exact hlt)]; rfl)
        subst hz1 hz2
        have hst := owes_take ss ds q (by rw [HL.out.1]; exact hlt) (by rw [HL.out.2]; exact hlt)
        obtain ⟨sq, hsq⟩ : ∃ sq, ss[q]'(by rw [HL.out.1]; exact hlt) = sq := ⟨_, rfl⟩
        obtain ⟨dq, hdq⟩ : ∃ dq, ds[q]'(by rw [HL.out.2]; exact hlt) = dq := ⟨_, rfl⟩
        rw [hsq] at f1 hst
        rw [hdq] at f2 hst
        unfold iv at f1
        unfold bov at f2
        clear hsq hdq
        cases dq with
        | true =>
          have HNX := Lib.hid (show owesL (ss.take (q + 1)) (ds.take (q + 1)) = owesL (ss.take q) (ds.take q) by rw [hst]; simp)
          clear hown hu hst
          go_wp2_with fail
          go_roundg (nd - (q + 1))
          case rel => exact ⟨q + 1, D, by omega, rfl, by go_num, by rw [HNX.out]; exact HO.out.1, HO.out.2⟩
          case measure => omega
        | false =>
          have HNX := Lib.hid (show (owesL (ss.take q) (ds.take q)).map iv ++ [Value.int .i64 sq] = (owesL (ss.take (q + 1)) (ds.take (q + 1))).map iv by rw [hst]; simp [iv])
          have ua := Upd.alloc0 wr (.cells #[.int .i64 sq] 3) []
          have hra := one_new wr 1 (by decide) #[.int .i64 sq] rfl 3
          obtain ⟨n1, hn1, hsrc⟩ := hra.src (P := Try.prog) (tx := 22) Try.underlying22 (by intro u hu; simp at hu; subst hu; rfl)
          obtain rfl : n1 = 1 := by simp at hn1; omega
          have hownA := OwnRow.frame hown (ua.same (OwnRow.lt hown) (by simp))
          have hln : ((owesL (ss.take q) (ds.take q)).map iv).length = nl := by rw [List.length_map]; exact hll
          have HUA := Lib.hid (hu.trans (Upd.alloc0 wr (.cells #[.int .i64 sq] 3) D))
          clear hown hu ua hra hn1 hst hll hlo
          go_wp2_with (at_builtin; go_must (refine wpList_app rfl _ _ 22 22 rfl 1 _ _ _ rfl hownA _ j0 _ Try.underlying22 hj0 jz0 jz1 rfl _ _ _ rfl hsrc (fun n hn => by rw [hln] at hn; rw [jz2]; omega) ?_); intro a3 n3 c3 w3 D3 hown3 hu3)
          go_roundg (nd - (q + 1))
          case rel => exact ⟨q + 1, D3, by omega, rfl, by go_num, by rw [← HNX.out]; exact hown3, HUA.out.trans hu3⟩
          case measure => omega
      obtain rfl : q = nd := by omega
      have HF := Lib.hid (show owesL (ss.take q) (ds.take q) = owesL ss ds by rw [List.take_of_length_le (by rw [HL.out.1]; exact Nat.le_refl _), List.take_of_length_le (by rw [HL.out.2]; exact Nat.le_refl _)])
      clear hown hu hll hlo
      go_wp2_with fail
      go_ret
      rw [HD.out, ← HF.out]
      exact ⟨_, D, rfl, HO.out.1, HO.out.2⟩
end
end Go.Proofs.Ytebmmbommkpjaaa

/-
  The document's own Coord: Open.
-/
namespace Go.Proofs.Ytebmmbommkpjaaa
open Go.RowKit Go.Av
def openE (e : Int × EntS) : Bool := e.2.dec == 0 || decide (0 < (e.2.owes.length : Int))
def openT (T : CoS) : List Int := (T.filter openE).map (·.1)
theorem look_at {T : CoS} (hnd : (T.map (·.1)).Nodup) {p : Nat} (hp : p < T.length) : lookS T[p].1 T = some T[p].2 := by
  cases hl : lookS T[p].1 T with
  | none => exact absurd rfl (look_none hl _ (List.getElem_mem hp))
  | some x =>
    have hm := look_mem hl
    obtain ⟨q, hq, he⟩ := List.mem_iff_getElem.1 hm
    have hpq : q = p := by
      have h1 : (T.map (·.1))[q]'(by simpa using hq) = (T.map (·.1))[p]'(by simpa using hp) := by simp [he]
      have hpw := List.pairwise_iff_getElem.1 hnd
      rcases Nat.lt_trichotomy q p with h | h | h
      · exact absurd h1 (hpw q p (by simpa using hq) (by simpa using hp) h)
      · exact h
      · exact absurd h1.symm (hpw p q (by simpa using hp) (by simpa using hq) h)
    subst hpq
    rw [he]
theorem open_take {T : CoS} {q : Nat} (hq : q < T.length) : openT (T.take (q + 1)) = openT (T.take q) ++ (if openE T[q] then [T[q].1] else []) := by
  unfold openT
  rw [List.take_succ_eq_append_getElem hq, List.filter_append, List.map_append]
  congr 1
  rw [List.filter_cons]
  cases openE T[q] <;> simp
theorem openT_len (T : CoS) : (openT T).length ≤ T.length := by unfold openT; rw [List.length_map]; exact List.length_filter_le _ _
section
variable {w0 w : World} {c : Nat} {T : CoS} {R : List Thing} {rows : List (Value × Bs)} {v : Value} {gs l1 l2 : List OneG} {g : OneG}
set_option maxRecDepth 100000 in
set_option maxHeartbeats 4000000 in
theorem cr_open (h : Cr w0 w c T R rows) (hnd : (T.map (·.1)).Nodup) :
    Calls Try.prog 30 #[.pointer (some ⟨c, 0, none⟩)] w fun e w' => ∃ v D, e = .returned v ∧ OwnRow w' 1 v ((openT T).map iv) D ∧ Upd w w' [] D := by
  obtain ⟨j0, hj0, jz0, jz1, jz2⟩ := info_parts infoL
  obtain ⟨v, gs, hT, hX⟩ := h
  have h0 : Cr w0 w c T R rows := ⟨v, gs, hT, hX⟩
  have H := Lib.hid h0
  obtain ⟨a, cp, rfl, c0, hcp, hcm, hrow⟩ := hX.facts
  unfold maxLen at hcm
  have h1000 := hX.few
  have hTl : T.length = gs.length := by rw [← hT, List.length_map]
  have hTg : ∀ q (hq : q < gs.length), T[q]'(by omega) = gs[q].ent := fun q hq => by simp only [← hT, List.getElem_map]
  have HR := Lib.hid (show _ ∧ _ ∧ _ from ⟨hrow, hTg, hnd⟩)
  have C0 := Lib.hid c0
  clear hX h0 hrow hT hTg hnd c0
  go_enter Try.func30, Try.ntmps30
  go_wp2_with fail
  go_loopg [3, 4] gs.length (fun k vl vi wr => ∃ (q : Nat) (D : List Nat), q ≤ gs.length ∧ k = gs.length - q ∧ vi = .int .i64 (q : Int) ∧ OwnRow wr 1 vl ((openT (T.take q)).map iv) D ∧ Upd w wr [] D)
  case atStart => exact ⟨0, [], Nat.zero_le _, rfl, rfl, OwnRow.nil _ _, Upd.refl _ _⟩
  case round =>
    obtain ⟨q, D, hq, hk, hvi, hown, hu⟩ := hrel
    subst hvi
    obtain ⟨al, nl, cl, rfl, hll, hnl, hcl, -⟩ := _root_.id hown
    rw [List.length_map, Nat.mul_one] at hll
    have hlo := openT_len (T.take q)
    rw [List.length_take] at hlo
    unfold maxLen at hcl
    have c0 := upd_cell hu C0.out
    have HO := Lib.hid (show _ ∧ _ from ⟨hown, hu⟩)
    have hll2 : nl ≤ 1000 := by omega
    have hln : ((openT (T.take q)).map iv).length = nl := by rw [List.length_map]; exact hll
    by_cases hlt : q < gs.length
    · obtain ⟨y, rfl, hys, e0, -, -, e3, -⟩ := HR.out.1 q hlt
      have hst := open_take (T := T) (q := q) (by omega)
      rw [HR.out.2.1 q hlt] at hst
      have hlk : lookS gs[q].id T = some gs[q].ent.2 := by
        have := look_at HR.out.2.2 (p := q) (by omega)
        rw [HR.out.2.1 q hlt] at this
        exact this
      have how := H.out.keep hu
      have HOW := Lib.hid (cr_owes how gs[q].id)
      have hid : gs[q].ent.1 = gs[q].id := rfl
      have hhow : gs[q].ent.2.dec = gs[q].how := rfl
      obtain ⟨en, hen⟩ : ∃ en, gs[q].ent = en := ⟨_, rfl⟩
      rw [hen] at hst hlk hid hhow
      obtain ⟨iq, hiq⟩ : ∃ iq, gs[q].id = iq := ⟨_, rfl⟩
      obtain ⟨hq2, hhq2⟩ : ∃ hq2, gs[q].how = hq2 := ⟨_, rfl⟩
      rw [hiq] at e0 hlk hid HOW
      rw [hhq2] at e3 hhow
      have E0 := Lib.hid e0
      have e0 := upd_cell hu e0
      have e3 := upd_cell hu e3
      rw [hid] at hst
      clear hen hiq hhq2 how
      by_cases hd0 : hq2 = 0
      · subst hd0
        have hop : openE en = true := by unfold openE; rw [hhow]; rfl
        rw [hop, if_pos rfl] at hst
        have HNX := Lib.hid (show (openT (T.take q)).map iv ++ [Value.int .i64 iq] = (openT (T.take (q + 1))).map iv by rw [hst]; simp [iv])
        have HO2 := Lib.hid (show OwnRow wr 1 (.slice al nl cl) ((openT (T.take q)).map iv) D ∧ Upd w wr [] D from HO.out)
        clear hown hu hst hlk hid hhow hop HOW hll hlo
        have c0' := c0
        have e0' := e0
        clear c0 e0
        have ua := Upd.alloc0 wr (.cells #[.int .i64 iq] 2) []
        have hra := one_new wr 1 (by decide) #[.int .i64 iq] rfl 2
        obtain ⟨n1, hn1, hsrc⟩ := hra.src (P := Try.prog) (tx := 32) Try.underlying32 (by intro u hu; simp at hu; subst hu; rfl)
        obtain rfl : n1 = 1 := by simp at hn1; omega
        have hownA := OwnRow.frame HO2.out.1 (ua.same (OwnRow.lt HO2.out.1) (by simp))
        have HUA := Lib.hid (HO2.out.2.trans (Upd.alloc0 wr (.cells #[.int .i64 iq] 2) D))
        have c0 := upd_cell HO2.out.2 C0.out
        have e0 := upd_cell HO2.out.2 E0.out
        clear ua hra hn1
        clear c0' e0'
        go_wp2_with (at_builtin; go_must (refine wpList_app rfl _ _ 32 32 rfl 1 _ _ _ rfl hownA _ j0 _ Try.underlying32 hj0 jz0 jz1 rfl _ _ _ rfl hsrc (fun n hn => by rw [hln] at hn; rw [jz2]; omega) ?_); intro a3 n3 c3 w3 D3 hown3 hu3)
        go_roundg (gs.length - (q + 1))
        case rel => exact ⟨q + 1, D3, by omega, rfl, by go_num, by rw [← HNX.out]; exact hown3, HUA.out.trans hu3⟩
        case measure => omega
      · have hdb : (hq2 == 0) = false := by simpa using hd0
        have how2 : owesS T iq = en.2.owes := by unfold owesS; rw [hlk]
        rw [how2] at HOW
        obtain ⟨ow, how3⟩ : ∃ ow, en.2.owes = ow := ⟨_, rfl⟩
        rw [how3] at HOW
        by_cases hz : 0 < ow.length
        · have hop : openE en = true := by unfold openE; rw [how3]; simp [hz]
          rw [hop, if_pos rfl] at hst
          have HNX := Lib.hid (show (openT (T.take q)).map iv ++ [Value.int .i64 iq] = (openT (T.take (q + 1))).map iv by rw [hst]; simp [iv])
          clear hown hu hst hlk hid hhow hop hll hlo how2 how3
          go_wp2_with fail
          refine HOW.out.mono ?_
          rintro e w5 ⟨v5, D5, rfl, h5, hu5⟩
          obtain ⟨a5, n5, k5, rfl, hl5, -, hk5, -⟩ := _root_.id h5
          rw [List.length_map, Nat.mul_one] at hl5
          have hn5 : 0 < n5 := by omega
          unfold maxLen at hk5
          have HO2 := Lib.hid (show OwnRow w5 1 (.slice al nl cl) ((openT (T.take q)).map iv) D ∧ Upd w w5 [] D from ⟨OwnRow.frame HO.out.1 (hu5.same (OwnRow.lt HO.out.1) (by simp)), HO.out.2.trans (hu5.mono (by simp) (fun b hb => .inr hb))⟩)
          clear h5 hu5 hl5 c0 e0
          have ua := Upd.alloc0 w5 (.cells #[.int .i64 iq] 2) []
          have hra := one_new w5 1 (by decide) #[.int .i64 iq] rfl 2
          obtain ⟨n1, hn1, hsrc⟩ := hra.src (P := Try.prog) (tx := 32) Try.underlying32 (by intro u hu; simp at hu; subst hu; rfl)
          obtain rfl : n1 = 1 := by simp at hn1; omega
          have hownA := OwnRow.frame HO2.out.1 (ua.same (OwnRow.lt HO2.out.1) (by simp))
          have HUA := Lib.hid (HO2.out.2.trans (Upd.alloc0 w5 (.cells #[.int .i64 iq] 2) D))
          have c0 := upd_cell HO2.out.2 C0.out
          have e0 := upd_cell HO2.out.2 E0.out
          clear ua hra hn1
          go_wp2_with (at_builtin; go_must (refine wpList_app rfl _ _ 32 32 rfl 1 _ _ _ rfl hownA _ j0 _ Try.underlying32 hj0 jz0 jz1 rfl _ _ _ rfl hsrc (fun n hn => by rw [hln] at hn; rw [jz2]; omega) ?_); intro a3 n3 c3 w3 D3 hown3 hu3)
          go_roundg (gs.length - (q + 1))
          case rel => exact ⟨q + 1, D3, by omega, rfl, by go_num, by rw [← HNX.out]; exact hown3, HUA.out.trans hu3⟩
          case measure => omega
        · have hop : openE en = false := by
            unfold openE
            rw [hhow, how3, hdb, Bool.false_or]
            exact decide_eq_false (by omega)
          rw [hop, if_neg (by simp), List.append_nil] at hst
          have HNX := Lib.hid hst
          clear hown hu hst hlk hid hhow hop hll hlo how2 how3
          go_wp2_with fail
          refine HOW.out.mono ?_
          rintro e w5 ⟨v5, D5, rfl, h5, hu5⟩
          obtain ⟨a5, n5, k5, rfl, hl5, -, hk5, -⟩ := _root_.id h5
          rw [List.length_map, Nat.mul_one] at hl5
          have hn5 : n5 = 0 := by omega
          subst hn5
          have HO2 := Lib.hid (show OwnRow w5 1 (.slice al nl cl) ((openT (T.take q)).map iv) D ∧ Upd w w5 [] D from ⟨OwnRow.frame HO.out.1 (hu5.same (OwnRow.lt HO.out.1) (by simp)), HO.out.2.trans (hu5.mono (by simp) (fun b hb => .inr hb))⟩)
          clear h5 hu5 hl5
          go_wp2_with fail
          go_roundg (gs.length - (q + 1))
          case rel => exact ⟨q + 1, D, by omega, rfl, by go_num, by rw [HNX.out]; exact HO2.out.1, HO2.out.2⟩
          case measure => omega
    obtain rfl : q = gs.length := by omega
    have HF := Lib.hid (show openT (T.take gs.length) = openT T by rw [List.take_of_length_le (by omega)])
    clear hown hu hll hlo
    go_wp2_with fail
    go_ret
    rw [← HF.out]
    exact ⟨_, D, rfl, HO.out.1, HO.out.2⟩
end
end Go.Proofs.Ytebmmbommkpjaaa

/-
  The document's own numbers in bytes: the walk.
-/
namespace Go.Proofs.Ytebmmbommkpjaaa
open Go.RowKit Go.Av

set_option maxRecDepth 100000 in
set_option maxHeartbeats 1000000 in
theorem i64R_any (b : Value) (l : Bs) (E : List Nat) (v : Int) (w : World) (h : ReadRow w 1 b (l.map bv) E) (hl : l.length ≤ 1073741824) :
    Calls Try.prog 53 #[b, .int .i64 v] w (AppPost w [] (l ++ packI v)) := by
  obtain ⟨i0, hi0, hz0, hz1, hz2⟩ := info_parts info5
  obtain ⟨nn, hnn⟩ : ∃ nn : Nat, nn = (v % 18446744073709551616).toNat := ⟨_, rfl⟩
  have e64 : IntKind.u64.wrap v = (nn : Int) := by rw [hnn, IntKind.wrap_u64]; omega
  have HN := Lib.hid hnn
  clear hnn
  have h0 := h.frame ((Upd.alloc0 w (.cells #[] 5 (0, 0)) []).same h.lt (by simp))
  obtain ⟨nb, hnb, hsrc⟩ := h0.src (P := Try.prog) (tx := 53) Try.underlying53 bv_one
  rw [List.length_map, Nat.mul_one] at hnb
  subst hnb
  have HBD := Lib.hid (show ∀ n', ([] : List Value).length = n' * 1 → n' + l.length ≤ 140737488355328 ∧ (n' + l.length) * i0.bytes ≤ 140737488355328 from fun n' hn' => by simp at hn'; rw [hz2]; omega)
  clear h0
  go_enter Try.func53, Try.ntmps53
  go_wp2_with (at_builtin; go_must (refine wpList_app rfl _ _ 53 53 rfl 1 _ [] [] rfl (OwnRow.zero _ _ _) _ i0 _ Try.underlying53 hi0 hz0 hz1 rfl _ _ _ rfl hsrc HBD.out ?_); intro a3 n3 c3' w3 D3 hown3 hu3)
  have hu0 : Upd w w3 [] D3 := (Upd.alloc0 w (.cells #[] 5 (0, 0)) []).trans hu3
  have hst : ∃ (m : Nat) (D : List Nat), m ≤ 8 ∧ (8 : Nat) = m ∧ (Value.int .i64 7) = .int .i64 ((m : Int) - 1) ∧ OwnRow w3 1 (.slice a3 n3 c3') ((l ++ (packI v).take (8 - m)).map bv) D ∧ Upd w w3 [] D :=
    ⟨8, D3, by omega, rfl, rfl, by simpa using hown3, hu0⟩
  clear hown3 hu3 hu0 hsrc
  go_loopg [5, 6] 8 (fun k o i wr => ∃ (m : Nat) (D : List Nat), m ≤ 8 ∧ k = m ∧ i = .int .i64 ((m : Int) - 1) ∧ OwnRow wr 1 o ((l ++ (packI v).take (8 - m)).map bv) D ∧ Upd w wr [] D)
  case atStart => exact hst
  case round =>
    obtain ⟨m, D, hm, hk, rfl, hown, hu⟩ := hrel
    cases m with
    | zero =>
      have HO := Lib.hid hown
      have HU := Lib.hid hu
      clear hown hu
      go_wp2_with fail
      go_ret
      exact ⟨_, D, rfl, by have := HO.out; rwa [List.take_of_length_le (by rw [packI_length]; omega)] at this, HU.out⟩
    | succ j =>
      rw [show ((j + 1 : Nat) : Int) - 1 = (j : Int) by omega]
      obtain ⟨bt, hbt⟩ : ∃ bt : Nat, bt = nn / 2 ^ (8 * j) % 256 := ⟨_, rfl⟩
      have e8 : IntKind.i64.wrap (8 * (j : Int)) = ((8 * j : Nat) : Int) := by rw [IntWalk.i64_in _ (by omega)]; omega
      have eb : IntKind.u8.wrap ((nn : Int) / 2 ^ (8 * j)) = (bt : Int) := by
        rw [hbt, IntKind.wrap_u8]
        simp
      have HB := Lib.hid hbt
      have hU2 := Upd.alloc0 wr (.cells #[.int .u8 bt] 5 (0, 0)) []
      have hown2 := hown.frame (hU2.same hown.lt (by simp))
      obtain ⟨nb, hnb, hsrc⟩ := (cell_new wr (.int .u8 bt) 5 (0, 0)).src (P := Try.prog) (tx := 53) Try.underlying53 (by intro u hu; rw [List.mem_singleton.1 hu]; rfl)
      have hnb1 : 1 = nb := by simpa using hnb
      subst hnb1
      have HBD := Lib.hid (show ∀ n', ((l ++ (packI v).take (8 - (j + 1))).map bv).length = n' * 1 → n' + 1 ≤ 140737488355328 ∧ (n' + 1) * i0.bytes ≤ 140737488355328 from fun n' hn' => by simp at hn'; rw [hz2]; omega)
      have HU := Lib.hid (hu.trans (Upd.alloc0 wr (.cells #[.int .u8 bt] 5 (0, 0)) D))
      clear hbt hown hu hnb hU2
      go_wp2_with (at_builtin; go_must (refine wpList_app rfl _ _ 53 53 rfl 1 _ _ _ rfl hown2 _ i0 _ Try.underlying53 hi0 hz0 hz1 rfl _ _ _ rfl hsrc HBD.out ?_); intro a4 n4 c4 w4 D4 hown4 hu4)
      go_roundg j
      case rel =>
        refine ⟨j, D4, by omega, rfl, rfl, ?_, HU.out.trans hu4⟩
        have e1 : 8 - j = 7 - j + 1 := by omega
        have e2 : 8 - (j + 1) = 7 - j := by omega
        rw [e2] at hown4
        rw [e1, packI_step v j (by omega), ← HN.out, ← List.append_assoc, List.map_append]
        have e3 : ([UInt8.ofNat (nn / 2 ^ (8 * j))] : Bs).map bv = [.int .u8 bt] := by simp [bv, HB.out]
        rw [e3]
        exact hown4
      case measure => omega
end Go.Proofs.Ytebmmbommkpjaaa
