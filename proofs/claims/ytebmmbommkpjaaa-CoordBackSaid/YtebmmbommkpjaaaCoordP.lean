/-
  Decisions read: can calls have made an entry?
-/
import Derived.Test.YtebmmbommkpjaaaCoordN
namespace Go.Proofs.Ytebmmbommkpjaaa
open Go.RowKit Go.Av

theorem idxF_any (k : Int) : ∀ l : List Int, (match idxF k l with | none => false | some _ => true) = l.contains k
  | [] => rfl
  | x :: r => by
    rw [idxF_cons, List.contains_cons, ← idxF_any k r]
    by_cases h : x = k
    · rw [if_pos h]; simp [h]
    · rw [if_neg h]
      have : (k == x) = false := beq_eq_false_iff_ne.2 fun e => h e.symm
      rw [this]
      cases idxF k r <;> rfl
theorem idxS_any (k : Int) (l : List Int) : decide (0 ≤ idxS k l) = l.contains k := by
  rw [← idxF_any k l]
  unfold idxS
  cases idxF k l with
  | none => rfl
  | some i => simp
theorem contains_any (v : Value) (l : List Int) (k : Int) (E : List Nat) (w : World) (h : ReadRow w 1 v (l.map iv) E) :
    Calls Try.prog 66 #[v, .int .i64 k] w fun e w' => e = .returned (.bool (l.contains k)) ∧ w' = w := by
  have hi := index_any v l k E w h
  have ha := idxS_any k l
  obtain ⟨j, hj⟩ : ∃ j, idxS k l = j := ⟨_, rfl⟩
  rw [hj] at hi ha
  rw [← ha]
  have HI := Lib.hid hi
  clear hi hj ha h
  go_enter Try.func66, Try.ntmps66
  go_wp2_with fail
  refine HI.out.mono ?_
  rintro e w1 ⟨rfl, rfl⟩
  go_wp2_with fail
  go_ret
  exact ⟨rfl, rfl⟩
theorem good1_any (x : Int) (q p : Nat) (vs vv vo : Value) (dec : Int) (l : List Int) (E : List Nat) (w : World) (hq : w.cell? ⟨q, 0, none⟩ = some (.pointer (some ⟨p, 0, none⟩)))
    (hp : w.cell? ⟨p, 0, none⟩ = some vs) (h : ReadRow w 1 vs (l.map iv) E) :
    Calls Try.prog 65 #[.int .i64 x, .pointer (some ⟨q, 0, none⟩)] w fun e w' => e = .returned (.bool (!(l.contains x))) ∧ w' = w := by
  have HC := Lib.hid (contains_any vs l x E w h)
  clear h
  obtain ⟨b, hb⟩ : ∃ b, l.contains x = b := ⟨_, rfl⟩
  rw [hb] at HC ⊢
  clear hb
  go_enter Try.func65, Try.ntmps65
  go_wp2_with fail
  refine HC.out.mono ?_
  rintro e w1 ⟨rfl, rfl⟩
  go_wp2_with fail
  go_ret
  exact ⟨rfl, rfl⟩
theorem containsG_any (v : Value) (l : List Int) (q : Nat) (φ : Int → Bool) (E : List Nat) (w : World) (h : ReadRow w 1 v (l.map iv) E)
    (hq : ∀ x, Calls Try.prog 65 #[.int .i64 x, .pointer (some ⟨q, 0, none⟩)] w fun e w' => e = .returned (.bool (φ x)) ∧ w' = w) :
    Calls Try.prog 58 #[v, .func (.func 65) #[] #[.pointer (some ⟨q, 0, none⟩)]] w fun e w' => e = .returned (.bool (l.any φ)) ∧ w' = w := by
  have hi := indexFunc_good v l ⟨q, 0, none⟩ φ E w h hq
  obtain ⟨k, hk⟩ : ∃ k, idxQ φ l = k := ⟨_, rfl⟩
  have ha := idxQ_any φ l
  rw [hk] at hi ha
  rw [← ha]
  have HI := Lib.hid hi
  clear hi hk ha h hq
  go_enter Try.func58, Try.ntmps58
  go_wp2_with fail
  refine HI.out.mono ?_
  rintro e w1 ⟨rfl, rfl⟩
  go_wp2_with fail
  go_ret
  exact ⟨rfl, rfl⟩

theorem wholeW_any (p : Nat) (vv : Value) (l : List Int) (E : List Nat) (w : World) (hp : w.cell? ⟨p, 1, none⟩ = some vv) (h : ReadRow w 1 vv (l.map iv) E) :
    Calls Try.prog 36 #[.pointer (some ⟨p, 0, none⟩)] w fun e w' => e = .returned (.bool (wholeS l)) ∧ w' = w := by
  have hw := containsW_any _ _ E w h
  have he : wholeS l = !(l.any fun x => x != 1) := by
    unfold wholeS
    rw [List.all_eq_not_any_not]
    rfl
  obtain ⟨b, hb⟩ : ∃ b, (l.any fun x => x != 1) = b := ⟨_, rfl⟩
  rw [he, hb]
  rw [hb] at hw
  have HW := Lib.hid hw
  clear h hw he hb
  go_enter Try.func36, Try.ntmps36
  go_wp2_with fail
  refine HW.out.mono ?_
  rintro e w1 ⟨rfl, rfl⟩
  go_wp2_with fail
  go_ret
  exact ⟨rfl, rfl⟩

theorem against_step (l : List Int) (p : Nat) (hp : p < l.length) : againstS (l.take (p + 1)) = againstS (l.take p) + if l[p] == 2 then 1 else 0 := by
  unfold againstS
  rw [List.take_succ_eq_append_getElem hp, List.countP_append, List.countP_cons, List.countP_nil]
  simp
theorem against_le (l : List Int) : againstS l ≤ l.length := List.countP_le_length
theorem goodS_eq (x : EntS) (b1 b2 b3 b4 b5 : Bool) (h1 : ((x.shards.length : Int) == 0) = b1) (h2 : risS x.shards = b2) (h3 : risS x.owes = b3) (h4 : (x.owes.any fun s => !(x.shards.contains s)) = b4) (h5 : decide (1 < (againstS x.votes : Int)) = b5) :
    goodS x = if (b1 || !b2 || !b3 || b4 || b5) = true then false else
      if x.dec = 0 then ((againstS x.votes : Int) == 0) && !wholeS x.votes && ((x.owes.length : Int) == (x.shards.length : Int)) else if x.dec = 1 then wholeS x.votes else !wholeS x.votes := by
  have e0 : ((againstS x.votes : Int) == 0) = decide (againstS x.votes = 0) := by rw [Bool.eq_iff_iff]; simp
  have e1 : ((x.owes.length : Int) == (x.shards.length : Int)) = decide (x.owes.length = x.shards.length) := by rw [Bool.eq_iff_iff]; simp; omega
  unfold goodS
  rw [e0, e1]
  congr 1
  · subst h1 h2 h3 h4 h5
    simp only [Bool.or_eq_true, Bool.not_eq_true', beq_iff_eq, decide_eq_true_eq, eq_iff_iff]
    constructor
    · rintro (h | h | h | h | h)
      · exact .inl (.inl (.inl (.inl (by omega))))
      · exact .inl (.inl (.inl (.inr h)))
      · exact .inl (.inl (.inr h))
      · exact .inl (.inr h)
      · exact .inr (by omega)
    · rintro ((((h | h) | h) | h) | h)
      · exact .inl (by omega)
      · exact .inr (.inl h)
      · exact .inr (.inr (.inl h))
      · exact .inr (.inr (.inr (.inl h)))
      · exact .inr (.inr (.inr (.inr (by omega))))

set_option maxRecDepth 100000 in
set_option maxHeartbeats 4000000 in
theorem good_any (w : World) (p : Nat) (x : EntS) (vs vv vo : Value) (Es Ev Eo : List Nat) (fr : Nat × Nat) (hp : w.heap[p]? = some (.cells #[vs, vv, .int .i64 x.dec, vo] 69 fr))
    (rs : ReadRow w 1 vs (x.shards.map iv) Es) (rv : ReadRow w 1 vv (x.votes.map iv) Ev) (ro : ReadRow w 1 vo (x.owes.map iv) Eo) :
    Calls Try.prog 46 #[.pointer (some ⟨p, 0, none⟩)] w fun e w' => e = .returned (.bool (goodS x)) ∧ Upd w w' [] [] := by
  have hu := Upd.alloc0 w (.cells #[.pointer (some ⟨p, 0, none⟩)] 66 (0, 0)) []
  have hq := heap_alloc_new w (.cells #[.pointer (some ⟨p, 0, none⟩)] 66 (0, 0))
  have hpl := lt_of_heap hp
  have hp1 := (hu.keep p hpl (by simp)).trans hp
  have rs1 := rs.frame (hu.same rs.lt (by simp))
  have rv1 := rv.frame (hu.same rv.lt (by simp))
  have ro1 := ro.frame (hu.same ro.lt (by simp))
  obtain ⟨q, hqq⟩ : ∃ q, q = w.heap.size := ⟨_, rfl⟩
  obtain ⟨w1, hw1⟩ : ∃ w1, w1 = w.alloc (.cells #[.pointer (some ⟨p, 0, none⟩)] 66 (0, 0)) := ⟨_, rfl⟩
  rw [← hw1] at hu hq hp1 rs1 rv1 ro1
  rw [← hqq] at hq
  obtain ⟨asl, ns, csl, rfl, -⟩ := id rs
  obtain ⟨av, nv, cv, rfl, -⟩ := id rv
  obtain ⟨ao, no, co, rfl, -⟩ := id ro
  obtain ⟨hns, hncs, hcms, -⟩ := row_cell rs
  obtain ⟨hnv, hncv, hcmv, hcell⟩ := row_cell rv1
  obtain ⟨hno, hnco, hcmo, -⟩ := row_cell ro
  rw [List.length_map] at hns hnv hno
  subst hns hnv hno
  unfold maxLen at hcms hcmv hcmo
  have k0 := cell_of hq 0 rfl
  have c0 := cell_of hp1 0 rfl
  have c1 := cell_of hp1 1 rfl
  have c2 := cell_of hp1 2 rfl
  have c3 := cell_of hp1 3 rfl
  have hg1 : ∀ y, Calls Try.prog 65 #[.int .i64 y, .pointer (some ⟨q, 0, none⟩)] w1 fun e w' => e = .returned (.bool (!(x.shards.contains y))) ∧ w' = w1 :=
    fun y => good1_any y q p _ (.slice av x.votes.length cv) (.slice ao x.owes.length co) x.dec x.shards Es w1 k0 c0 rs1
  have hco := containsG_any _ x.owes q (fun s => !(x.shards.contains s)) Eo w1 ro1 hg1
  have hr1 := rising_any _ _ _ w1 rs1
  have hr2 := rising_any _ _ _ w1 ro1
  have hwh := fun W (hW : W.heap = w1.heap) => wholeW_any p _ x.votes Ev W ((frozen_heap hW _).trans c1) (rv1.frame (fun b _ => by rw [hW]))
  obtain ⟨b1, h1⟩ : ∃ b, ((x.shards.length : Int) == 0) = b := ⟨_, rfl⟩
  obtain ⟨b2, h2⟩ : ∃ b, risS x.shards = b := ⟨_, rfl⟩
  obtain ⟨b3, h3⟩ : ∃ b, risS x.owes = b := ⟨_, rfl⟩
  obtain ⟨b4, h4⟩ : ∃ b, (x.owes.any fun s => !(x.shards.contains s)) = b := ⟨_, rfl⟩
  obtain ⟨b5, h5⟩ : ∃ b, decide (1 < (againstS x.votes : Int)) = b := ⟨_, rfl⟩
  obtain ⟨b6, h6⟩ : ∃ b, ((againstS x.votes : Int) == 0) = b := ⟨_, rfl⟩
  obtain ⟨b7, h7⟩ : ∃ b, wholeS x.votes = b := ⟨_, rfl⟩
  obtain ⟨b8, h8⟩ : ∃ b, ((x.owes.length : Int) == (x.shards.length : Int)) = b := ⟨_, rfl⟩
  have hgd := goodS_eq x b1 b2 b3 b4 b5 h1 h2 h3 h4 h5
  rw [h6, h7, h8] at hgd
  obtain ⟨dc, hdc⟩ : ∃ dc, x.dec = dc := ⟨_, rfl⟩
  rw [show (#[Value.slice asl x.shards.length csl, .slice av x.votes.length cv, .int .i64 x.dec, .slice ao x.owes.length co] : Array Value)[2] = .int .i64 dc by rw [hdc]; rfl] at c2
  rw [hdc] at hgd
  rw [hgd]
  clear hdc
  rw [h4] at hco
  rw [h2] at hr1
  rw [h3] at hr2
  simp only [h7] at hwh
  have HCO := Lib.hid hco
  have HR1 := Lib.hid hr1
  have HR2 := Lib.hid hr2
  have HWH := Lib.hid hwh
  have HC := Lib.hid hcell
  have HU := Lib.hid hu
  have HW1 := Lib.hid hw1
  have H1 := Lib.hid h1
  have H5 := Lib.hid h5
  have H6 := Lib.hid h6
  have H8 := Lib.hid h8
  clear hco hr1 hr2 hwh hcell hu hgd h1 h2 h3 h4 h5 h6 h7 h8 hg1 rs rv ro rs1 rv1 ro1 hp hp1 hq hpl
  have C1 := c1
  rw [hw1] at C1
  have HH := Lib.hid (show _ ∧ _ ∧ _ ∧ _ ∧ _ ∧ _ ∧ _ from ⟨hqq, hw1, k0, c0, c1, c2, c3⟩)
  clear hqq hw1 k0 c0 c1 c2 c3
  go_enter Try.func46, Try.ntmps46
  go_wp2_with fail
  rw [← HH.out.1, ← HH.out.2.1]
  obtain ⟨-, -, k0, c0, c1, c2, c3⟩ := HH.out
  clear C1
  go_loopg [3, 12] x.votes.length (fun k va vi wr => wr = w1 ∧ ∃ j : Nat, j ≤ x.votes.length ∧ k = x.votes.length - j ∧ vi = .int .i64 (j : Int) ∧ va = .int .i64 (againstS (x.votes.take j) : Int))
  case atStart => exact ⟨rfl, 0, Nat.zero_le _, rfl, rfl, rfl⟩
  case round =>
    obtain ⟨hW, j, hj, hk, hvi, hva⟩ := hrel
    subst wr hvi hva
    by_cases hlt : j < x.votes.length
    · obtain ⟨y, rfl, -, hcy0⟩ := HC.out (by omega)
      have hcy := hcy0 j (iv x.votes[j]) (by rw [List.getElem?_map, List.getElem?_eq_getElem hlt]; rfl)
      have hst := against_step x.votes j hlt
      have hle := against_le (x.votes.take j)
      rw [List.length_take] at hle
      obtain ⟨z, hz⟩ : ∃ z, x.votes[j] = z := ⟨_, rfl⟩
      rw [hz] at hcy hst
      unfold iv at hcy
      obtain ⟨ag, hag⟩ : ∃ ag, againstS (x.votes.take j) = ag := ⟨_, rfl⟩
      rw [hag] at hst hle ⊢
      have HST := Lib.hid hst
      clear hst hz hag hcy0
      by_cases h2 : z = 2
      · have hb : (z == 2) = true := by simp [h2]
        have HB := Lib.hid hb
        clear h2
        go_wp2_with fail
        go_roundg (x.votes.length - (j + 1))
        case rel => exact ⟨rfl, j + 1, by omega, rfl, by go_num, by rw [HST.out, HB.out]; rfl⟩
        case measure => omega
      · have hb : (z == 2) = false := by simp [h2]
        have HB := Lib.hid hb
        clear h2
        go_wp2_with fail
        go_roundg (x.votes.length - (j + 1))
        case rel => exact ⟨rfl, j + 1, by omega, rfl, by go_num, by rw [HST.out, HB.out]; rfl⟩
        case measure => omega
    obtain rfl : j = x.votes.length := by omega
    rw [List.take_length]
    have H1o := H1.out
    have H5o := H5.out
    have H6o := H6.out
    have H8o := H8.out
    obtain ⟨ag, hag⟩ : ∃ ag, againstS x.votes = ag := ⟨_, rfl⟩
    rw [hag] at H5o H6o ⊢
    clear hag H5 H6
    go_wp2_with fail
    refine HCO.out.mono ?_
    rintro e w2 ⟨rfl, hW⟩
    subst w2
    cases b1 with
    | true =>
      go_wp2_with fail
      go_ret
      exact ⟨by simp, HU.out⟩
    | false =>
    cases b2 with
    | false =>
      go_wp2_with fail
      refine HR1.out.mono ?_
      rintro e w2 ⟨rfl, hW⟩
      subst w2
      go_wp2_with fail
      go_ret
      exact ⟨by simp, HU.out⟩
    | true =>
    cases b3 with
    | false =>
      go_wp2_with fail
      refine HR1.out.mono ?_
      rintro e w2 ⟨rfl, hW⟩
      subst w2
      go_wp2_with fail
      refine HR2.out.mono ?_
      rintro e w2 ⟨rfl, hW⟩
      subst w2
      go_wp2_with fail
      go_ret
      exact ⟨by simp, HU.out⟩
    | true =>
    cases b4 with
    | true =>
      go_wp2_with fail
      refine HR1.out.mono ?_
      rintro e w2 ⟨rfl, hW⟩
      subst w2
      go_wp2_with fail
      refine HR2.out.mono ?_
      rintro e w2 ⟨rfl, hW⟩
      subst w2
      go_wp2_with fail
      go_ret
      exact ⟨by simp, HU.out⟩
    | false =>
    cases b5 with
    | true =>
      go_wp2_with fail
      refine HR1.out.mono ?_
      rintro e w2 ⟨rfl, hW⟩
      subst w2
      go_wp2_with fail
      refine HR2.out.mono ?_
      rintro e w2 ⟨rfl, hW⟩
      subst w2
      go_wp2_with fail
      go_ret
      exact ⟨by simp, HU.out⟩
    | false =>
    go_wp2_with fail
    refine HR1.out.mono ?_
    rintro e w2 ⟨rfl, hW⟩
    subst w2
    go_wp2_with fail
    refine HR2.out.mono ?_
    rintro e w2 ⟨rfl, hW⟩
    subst w2
    by_cases hd0 : dc = 0
    · subst hd0
      cases b6 with
      | false =>
        go_wp2_with fail
        refine wp_region_M (fun W => W.cell? ⟨q, 0, none⟩ = some (.pointer (some ⟨p, 0, none⟩)) ∧ W.cell? ⟨p, 3, none⟩ = some (.slice ao x.owes.length co) ∧ W.cell? ⟨p, 0, none⟩ = some (.slice asl x.shards.length csl)) 20 (by kernel_rfl) ?_
        refine wpAnyM_take (by kernel_rfl) (by intro c a d v w h; cases d <;> exact h) [(0, false), (1, false), (2, false), (3, true)] (fuel := 17) (by kernel_rfl) ?_
        apply Exists.intro; refine ⟨?_, ⟨k0, c3, c0⟩, ?_⟩
        · iterate 4 ((first | (apply yieldN; (· (simp only [List.getElem?_toArray, List.getElem?_cons_succ, List.getElem?_cons_zero]; try rfl)); (· rfl)) | ((first | apply yieldP | apply yieldL); (· (simp only [List.getElem?_toArray, List.getElem?_cons_succ, List.getElem?_cons_zero]; try rfl)); (· rfl); (· (intros; go_simp; try with_reducible rfl)))); (· (simp only [Act.put, List.setIfInBounds_toArray, List.set_cons_zero, List.set_cons_succ]; try rfl)))
          exact rfl
        refine wpAnyM_one (fuel := 16) (i := 4) (by kernel_rfl) (by rfl) (fun K hK => ?_)    -- CALL
        go_wp2_with fail
        refine hK _ _ ⟨k0, c3, c0⟩ ?_
        clear hK
        have h8b := H8o
        refine wpAnyM_take (by kernel_rfl) (by intro c a d v w h; cases d <;> exact h) [(5, false), (6, false), (7, false), (8, true), (9, false), (10, false), (11, true), (12, false), (13, true), (14, false), (15, false), (16, true), (17, false), (18, false), (19, false)] (fuel := 1) (by kernel_rfl) ?_
        apply Exists.intro; refine ⟨?_, ⟨k0, c3, c0⟩, ?_⟩
        · iterate 15 ((first | (apply yieldN; (· (simp only [List.getElem?_toArray, List.getElem?_cons_succ, List.getElem?_cons_zero]; try rfl)); (· rfl)) | ((first | apply yieldP | apply yieldL); (· (simp only [List.getElem?_toArray, List.getElem?_cons_succ, List.getElem?_cons_zero]; try rfl)); (· rfl); (· (intros; go_simp; try with_reducible rfl)))); (· (simp only [Act.put, List.setIfInBounds_toArray, List.set_cons_zero, List.set_cons_succ]; try rfl)))
          exact rfl
        refine wpAnyM_of_any _ _ _ _ (by decide) ?_
        refine wpAny_list [20] (fuel := 0) (by kernel_rfl) ?_
        simp only [List.filterMap_cons, List.filterMap_nil, List.getElem?_toArray, List.getElem?_cons_succ, List.getElem?_cons_zero]
        go_wp2_with fail
        go_ret
        exact ⟨by simp, HU.out.drew⟩
      | true =>
        go_wp2_with fail
        refine wp_region_M (fun W => W.cell? ⟨q, 0, none⟩ = some (.pointer (some ⟨p, 0, none⟩)) ∧ W.cell? ⟨p, 3, none⟩ = some (.slice ao x.owes.length co) ∧ W.cell? ⟨p, 0, none⟩ = some (.slice asl x.shards.length csl)) 20 (by kernel_rfl) ?_
        refine wpAnyM_take (by kernel_rfl) (by intro c a d v w h; cases d <;> exact h) [(0, false), (1, false), (2, false), (3, true)] (fuel := 17) (by kernel_rfl) ?_
        apply Exists.intro; refine ⟨?_, ⟨k0, c3, c0⟩, ?_⟩
        · iterate 4 ((first | (apply yieldN; (· (simp only [List.getElem?_toArray, List.getElem?_cons_succ, List.getElem?_cons_zero]; try rfl)); (· rfl)) | ((first | apply yieldP | apply yieldL); (· (simp only [List.getElem?_toArray, List.getElem?_cons_succ, List.getElem?_cons_zero]; try rfl)); (· rfl); (· (intros; go_simp; try with_reducible rfl)))); (· (simp only [Act.put, List.setIfInBounds_toArray, List.set_cons_zero, List.set_cons_succ]; try rfl)))
          exact rfl
        refine wpAnyM_one (fuel := 16) (i := 4) (by kernel_rfl) (by rfl) (fun K hK => ?_)    -- CALL
        go_wp2_with fail
        refine (HWH.out _ (by rfl)).mono ?_
        rintro e w2 ⟨rfl, hW⟩
        subst w2
        go_wp2_with fail
        refine hK _ _ ⟨k0, c3, c0⟩ ?_
        clear hK
        cases b7 with
        | false =>
          refine wpAnyM_take (by kernel_rfl) (by intro c a d v w h; cases d <;> exact h) [(5, false), (6, false), (7, false), (8, true), (9, false), (10, false), (11, true), (12, false), (13, true), (14, false), (15, false), (16, true), (17, false), (18, false), (19, false)] (fuel := 1) (by kernel_rfl) ?_
          apply Exists.intro; refine ⟨?_, ⟨k0, c3, c0⟩, ?_⟩
          · iterate 15 ((first | (apply yieldN; (· (simp only [List.getElem?_toArray, List.getElem?_cons_succ, List.getElem?_cons_zero]; try rfl)); (· rfl)) | ((first | apply yieldP | apply yieldL); (· (simp only [List.getElem?_toArray, List.getElem?_cons_succ, List.getElem?_cons_zero]; try rfl)); (· rfl); (· (intros; go_simp; try with_reducible rfl)))); (· (simp only [Act.put, List.setIfInBounds_toArray, List.set_cons_zero, List.set_cons_succ]; try rfl)))
            exact rfl
          refine wpAnyM_of_any _ _ _ _ (by decide) ?_
          refine wpAny_list [20] (fuel := 0) (by kernel_rfl) ?_
          simp only [List.filterMap_cons, List.filterMap_nil, List.getElem?_toArray, List.getElem?_cons_succ, List.getElem?_cons_zero]
          go_wp2_with fail
          go_ret
          exact ⟨by simp, HU.out.drew⟩
        | true =>
          refine wpAnyM_take (by kernel_rfl) (by intro c a d v w h; cases d <;> exact h) [(5, false), (6, false), (7, false), (8, true), (9, false), (10, false), (11, true), (12, false), (13, true), (14, false), (15, false), (16, true), (17, false), (18, false), (19, false)] (fuel := 1) (by kernel_rfl) ?_
          apply Exists.intro; refine ⟨?_, ⟨k0, c3, c0⟩, ?_⟩
          · iterate 15 ((first | (apply yieldN; (· (simp only [List.getElem?_toArray, List.getElem?_cons_succ, List.getElem?_cons_zero]; try rfl)); (· rfl)) | ((first | apply yieldP | apply yieldL); (· (simp only [List.getElem?_toArray, List.getElem?_cons_succ, List.getElem?_cons_zero]; try rfl)); (· rfl); (· (intros; go_simp; try with_reducible rfl)))); (· (simp only [Act.put, List.setIfInBounds_toArray, List.set_cons_zero, List.set_cons_succ]; try rfl)))
            exact rfl
          refine wpAnyM_of_any _ _ _ _ (by decide) ?_
          refine wpAny_list [20] (fuel := 0) (by kernel_rfl) ?_
          simp only [List.filterMap_cons, List.filterMap_nil, List.getElem?_toArray, List.getElem?_cons_succ, List.getElem?_cons_zero]
          go_wp2_with fail
          go_ret
          exact ⟨by simp, HU.out.drew⟩
    by_cases hd1 : dc = 1
    · subst hd1
      go_wp2_with fail
      refine (HWH.out _ rfl).mono ?_
      rintro e w2 ⟨rfl, hW⟩
      subst w2
      go_wp2_with fail
      go_ret
      exact ⟨by simp, HU.out⟩
    · have hb0 : (dc == 0) = false := by simp [hd0]
      have hb1 : (dc == 1) = false := by simp [hd1]
      go_wp2_with fail
      refine (HWH.out _ rfl).mono ?_
      rintro e w2 ⟨rfl, hW⟩
      subst w2
      go_wp2_with fail
      go_ret
      exact ⟨by simp [hd0, hd1], HU.out⟩
end Go.Proofs.Ytebmmbommkpjaaa
