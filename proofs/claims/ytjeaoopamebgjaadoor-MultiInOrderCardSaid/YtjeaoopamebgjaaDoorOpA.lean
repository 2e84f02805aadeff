/-
  What is asked: in plain words; the walks of op.Good and the document's Op.
-/
import Derived.Test.YtjeaoopamebgjaaDoorPathN
namespace Go.Av
open Go.RowKit
structure OpS where
  kind : Int
  path : ByteArray
  data : ByteArray
  ver : Int
  flags : Int
def OpS.cells (o : OpS) : List Value := [.int .i64 o.kind, .string o.path, .string o.data, .int .i64 o.ver, .int .i64 o.flags]
def OpS.val (o : OpS) : Value := .agg #[.int .i64 o.kind, .string o.path, .string o.data, .int .i64 o.ver, .int .i64 o.flags]
def OpS.p (o : OpS) : Bs := o.path.data.toList
def seqF (f : Int) : Bool := f == 2 || f == 3
def formedS (o : OpS) : Bool := decide (1 ≤ o.kind) && (decide (o.kind ≤ 7) && (goodP o.p && (decide (-1 ≤ o.ver) && (decide (0 ≤ o.flags) && decide (o.flags ≤ 3)))))
def versS (k : Int) : Bool := k == 2 || (k == 3 || k == 4)
def ownS (o : OpS) : Bool := (o.data.toList == [] || (o.kind == 1 || o.kind == 3)) && ((o.ver == 0 || versS o.kind) && (o.flags == 0 || o.kind == 1))
def numS (o : OpS) : Bool := !seqF o.flags || (decide (1 < (partsP o.p).length) && (numberP o.p 0).isSome)
/-- What is wrong with an op first. -/
def goodE (o : OpS) : Int := if formedS o = false then 1 else if 1000 < o.data.size then 2 else if ownS o = false ∨ numS o = false then 1 else 0
end Go.Av
namespace Go.Proofs.YtjeaoopamebgjaaDoor
open Go.RowKit Go.Av
set_option maxRecDepth 100000 in
theorem versioned_any (k : Int) (w : World) : Calls Tryd.prog 30 #[.int .i64 k] w fun e w' => e = .returned (.bool (versS k)) ∧ w' = w := by
  unfold versS
  obtain ⟨k2, h2⟩ : ∃ z, (k == 2) = z := ⟨_, rfl⟩
  obtain ⟨k3, h3⟩ : ∃ z, (k == 3) = z := ⟨_, rfl⟩
  obtain ⟨k4, h4⟩ : ∃ z, (k == 4) = z := ⟨_, rfl⟩
  rw [h2, h3, h4]
  cases k2 <;> cases k3
  all_goals
    go_enter Tryd.func30, Tryd.ntmps30
    go_wp2_with fail
    go_ret
    exact ⟨rfl, rfl⟩
set_option maxRecDepth 100000 in
set_option maxHeartbeats 2000000 in
theorem own_any (o : OpS) (w : World) : Calls Tryd.prog 21 #[o.val] w fun e w' => e = .returned (.bool (ownS o)) ∧ Upd w w' [] [] := by
  obtain ⟨kind, path, data, ver, flags⟩ := o
  unfold ownS OpS.val
  dsimp only
  have HV := Lib.hid (versioned_any kind)
  obtain ⟨de, h1⟩ : ∃ z, (data.toList == []) = z := ⟨_, rfl⟩
  obtain ⟨k1, h2⟩ : ∃ z, (kind == 1) = z := ⟨_, rfl⟩
  obtain ⟨k3, h3⟩ : ∃ z, (kind == 3) = z := ⟨_, rfl⟩
  obtain ⟨v0, h4⟩ : ∃ z, (ver == 0) = z := ⟨_, rfl⟩
  obtain ⟨vs, h5⟩ : ∃ z, versS kind = z := ⟨_, rfl⟩
  obtain ⟨f0, h6⟩ : ∃ z, (flags == 0) = z := ⟨_, rfl⟩
  rw [h1, h2, h3, h4, h5, h6]
  rw [h5] at HV
  clear h5
  go_enter Tryd.func21, Tryd.ntmps21
  go_wp2_with (go_at_call 30; refine (HV.out _).mono ?_; rintro e w1 ⟨rfl, hw1⟩; subst hw1)
  all_goals
    go_ret
    refine ⟨?_, Upd.alloc0 _ _ _⟩
    first | rfl | (simp; done) | (cases de <;> cases k1 <;> cases k3 <;> cases v0 <;> cases vs <;> cases f0 <;> first | rfl | (simp at *; done))
/-- A bit. -/
theorem seq_bit {f : Int} (h0 : 0 ≤ f) (h3 : f ≤ 3) : (bits .and .i64 f 2 == 0) = !seqF f := by
  rcases (show f = 0 ∨ f = 1 ∨ f = 2 ∨ f = 3 by omega) with rfl | rfl | rfl | rfl <;> decide
set_option maxRecDepth 100000 in
set_option maxHeartbeats 2000000 in
theorem numbered_any (o : OpS) (w : World) (hd : DoorN w) (hp : o.path.size ≤ 100000) (h0 : 0 ≤ o.flags) (h3 : o.flags ≤ 3) : Calls Tryd.prog 22 #[o.val] w fun e w' => e = .returned (.bool (numS o)) ∧ Upd w w' [] [] := by
  obtain ⟨kind, path, data, ver, flags⟩ := o
  unfold numS OpS.val OpS.p
  dsimp only at hp h0 h3 ⊢
  have hb := seq_bit h0 h3
  obtain ⟨sq, hsq⟩ : ∃ z, (!seqF flags) = z := ⟨_, rfl⟩
  have hu0 : Upd w (w.alloc (.cells #[.int .i64 kind, .string path, .string data, .int .i64 ver, .int .i64 flags] 25)) [] [] := Upd.alloc0 _ _ _
  have HN := Lib.hid (number_any path 0 _ (hd.upd hu0) hp (by omega) (by omega))
  have HP := Lib.hid (fun w hd => parts_any path w hd (by unfold maxLen; omega))
  have HD := Lib.hid hd
  have HU0 := Lib.hid hu0
  rw [hsq] at hb ⊢
  obtain ⟨po, hpo⟩ : ∃ z, numberP path.data.toList 0 = z := ⟨_, rfl⟩
  obtain ⟨ps, hps⟩ : ∃ z, partsP path.data.toList = z := ⟨_, rfl⟩
  rw [hpo] at HN ⊢
  rw [hps] at HP ⊢
  obtain ⟨z, hz⟩ : ∃ z, decide (1 < ps.length) = z := ⟨_, rfl⟩
  obtain ⟨po1, hpo1⟩ : ∃ z, po.isSome = z := ⟨_, rfl⟩
  rw [hz, hpo1]
  have HZ := Lib.hid hz
  have HE := Lib.hid (show (errO po 1 == 0) = po1 by rw [← hpo1]; cases po <;> rfl)
  clear hsq hd hu0 hpo hps hz hpo1
  go_enter Tryd.func22, Tryd.ntmps22
  cases sq with
  | true =>
    clear HN HP
    go_wp2_with fail
    go_ret
    exact ⟨rfl, HU0.out⟩
  | false =>
    go_wp2_with fail
    refine HN.out.mono ?_
    rintro e w1 ⟨rfl, hu1⟩
    have HU1 := Lib.hid (HU0.out.trans hu1)
    have hc : ∀ {i : Nat} {v : Value}, (#[Value.int .i64 kind, .string path, .string data, .int .i64 ver, .int .i64 flags] : Array Value)[i]? = some v → w1.cell? ⟨w.heap.size, i, none⟩ = some v := fun {i v} hi => upd_cell hu1 (cell_of (heap_alloc_new w _) i hi)
    have c1 := hc (i := 1) rfl
    clear hu1 HN hc
    go_wp2_with fail
    refine (HP.out w1 ((HD.out.upd HU1.out).1)).mono ?_
    rintro e w2 ⟨v, D, rfl, ho, hu⟩
    obtain ⟨a, n, c, rfl, hl, hn, hc, -⟩ := id ho
    rw [List.length_map, Nat.mul_one] at hl
    subst hl
    have HU := Lib.hid (HU1.out.trans (hu.mono (fun _ h => h) (fun b hb => by cases hb) : Upd w1 w2 [] []))
    have h1 : decide (1 < (ps.length : Int)) = z := by rw [← HZ.out]; exact decide_eq_decide.2 (by omega)
    have he := HE.out
    clear ho hu c1
    cases z
    all_goals
      go_wp2_with fail
      go_ret
      exact ⟨rfl, HU.out⟩
set_option maxRecDepth 100000 in
set_option maxHeartbeats 2000000 in
theorem formed_any (o : OpS) (w : World) (hd : DoorN w) (hp : o.path.size ≤ 100000) : Calls Tryd.prog 20 #[o.val] w fun e w' => e = .returned (.bool (formedS o)) ∧ Upd w w' [] [] := by
  obtain ⟨kind, path, data, ver, flags⟩ := o
  unfold formedS OpS.val OpS.p
  dsimp only at hp ⊢
  have hu0 : Upd w (w.alloc (.cells #[.int .i64 kind, .string path, .string data, .int .i64 ver, .int .i64 flags] 25)) [] [] := Upd.alloc0 _ _ _
  have HG := Lib.hid (good_any path _ (hd.upd hu0).1 (by unfold maxLen; omega))
  have HU0 := Lib.hid hu0
  obtain ⟨b1, h1⟩ : ∃ z, decide (1 ≤ kind) = z := ⟨_, rfl⟩
  obtain ⟨b2, h2⟩ : ∃ z, decide (kind ≤ 7) = z := ⟨_, rfl⟩
  obtain ⟨b3, h3⟩ : ∃ z, goodP path.data.toList = z := ⟨_, rfl⟩
  obtain ⟨b4, h4⟩ : ∃ z, decide (-1 ≤ ver) = z := ⟨_, rfl⟩
  obtain ⟨b5, h5⟩ : ∃ z, decide (0 ≤ flags) = z := ⟨_, rfl⟩
  obtain ⟨b6, h6⟩ : ∃ z, decide (flags ≤ 3) = z := ⟨_, rfl⟩
  rw [h1, h2, h3, h4, h5, h6]
  rw [h3] at HG
  clear h3 hu0 hd
  go_enter Tryd.func20, Tryd.ntmps20
  go_wp2_with (go_at_call 29; refine HG.out.mono ?_; rintro e w1 ⟨rfl, hu1⟩; have c3 := upd_cell hu1 (cell_of (heap_alloc_new w _) 3 (v := .int .i64 ver) rfl); have c4 := upd_cell hu1 (cell_of (heap_alloc_new w _) 4 (v := .int .i64 flags) rfl); have HU := Lib.hid (HU0.out.trans hu1); clear hu1)
  all_goals
    go_ret
    refine ⟨?_, by first | exact HU.out | exact HU0.out⟩
    first | rfl | (simp; done) | (cases b1 <;> cases b2 <;> cases b3 <;> cases b4 <;> cases b5 <;> cases b6 <;> first | rfl | (simp at *; done))
/-- An op's cells, in its box. -/
def OpAt (w : World) (b : Nat) (o : OpS) : Prop := w.cell? ⟨b, 0, none⟩ = some (.int .i64 o.kind) ∧ w.cell? ⟨b, 1, none⟩ = some (.string o.path) ∧ w.cell? ⟨b, 2, none⟩ = some (.string o.data) ∧ w.cell? ⟨b, 3, none⟩ = some (.int .i64 o.ver) ∧ w.cell? ⟨b, 4, none⟩ = some (.int .i64 o.flags)
theorem opAt_new (w : World) (o : OpS) {w' : World} {D' : List Nat} (hu : Upd (w.alloc (.cells #[.int .i64 o.kind, .string o.path, .string o.data, .int .i64 o.ver, .int .i64 o.flags] 25)) w' [] D') : OpAt w' w.heap.size o :=
  have h := heap_alloc_new w (.cells #[.int .i64 o.kind, .string o.path, .string o.data, .int .i64 o.ver, .int .i64 o.flags] 25)
  ⟨upd_cell hu (cell_of h 0 rfl), upd_cell hu (cell_of h 1 rfl), upd_cell hu (cell_of h 2 rfl), upd_cell hu (cell_of h 3 rfl), upd_cell hu (cell_of h 4 rfl)⟩
theorem formed_flags {o : OpS} (h : formedS o = true) : 0 ≤ o.flags ∧ o.flags ≤ 3 := by
  unfold formedS at h
  simp only [Bool.and_eq_true, decide_eq_true_eq] at h
  exact h.2.2.2.2
theorem formed_kind {o : OpS} (h : formedS o = true) : 1 ≤ o.kind ∧ o.kind ≤ 7 := by
  unfold formedS at h
  simp only [Bool.and_eq_true, decide_eq_true_eq] at h
  exact ⟨h.1, h.2.1⟩
set_option maxRecDepth 100000 in
set_option maxHeartbeats 2000000 in
theorem opgood_any (o : OpS) (w : World) (hd : DoorN w) (hp : o.path.size ≤ 100000) : Calls Tryd.prog 15 #[o.val] w fun e w' => e = .returned (.int .i64 (goodE o)) ∧ Upd w w' [] [] := by
  have HF := Lib.hid (fun w hd => formed_any o w hd hp)
  have HO := Lib.hid (own_any o)
  have HN := Lib.hid (fun w hd h => numbered_any o w hd hp (formed_flags h).1 (formed_flags h).2)
  have hu0 : Upd w (w.alloc (.cells #[.int .i64 o.kind, .string o.path, .string o.data, .int .i64 o.ver, .int .i64 o.flags] 25)) [] [] := Upd.alloc0 _ _ _
  have HD := Lib.hid (show ∀ w' : World, Upd w w' [] [] → DoorN w' from fun w' hu => hd.upd hu)
  have HA := Lib.hid (show ∀ w' : World, Upd (w.alloc (.cells #[.int .i64 o.kind, .string o.path, .string o.data, .int .i64 o.ver, .int .i64 o.flags] 25)) w' [] [] → OpAt w' w.heap.size o from fun w' hu => opAt_new w o hu)
  obtain ⟨g, hg⟩ : ∃ g, goodE o = g := ⟨_, rfl⟩
  have HG := Lib.hid hg
  unfold goodE at HG
  obtain ⟨fo, h1⟩ : ∃ z, formedS o = z := ⟨_, rfl⟩
  obtain ⟨ow, h2⟩ : ∃ z, ownS o = z := ⟨_, rfl⟩
  obtain ⟨nu, h3⟩ : ∃ z, numS o = z := ⟨_, rfl⟩
  rw [hg]
  rw [h1] at HG HF HN
  rw [h2] at HG HO
  rw [h3] at HG HN
  obtain ⟨kind, path, data, ver, flags⟩ := o
  unfold OpS.val at HF HO HN ⊢
  dsimp only at HF HO HN HG HA hu0 ⊢
  unfold OpAt at HA
  dsimp only at HA
  have HU0 := Lib.hid hu0
  clear hg h1 h2 h3 hp hd hu0
  go_enter Tryd.func15, Tryd.ntmps15
  go_wp2_with fail
  refine (HF.out _ (HD.out _ HU0.out)).mono ?_
  rintro e w1 ⟨rfl, hu1⟩
  obtain ⟨c0, c1, c2, c3, c4⟩ := HA.out _ hu1
  have HU1 := Lib.hid hu1
  clear hu1 HF
  cases fo with
  | false =>
    have HE := Lib.hid (show g = 1 by rw [← HG.out]; rfl)
    clear HG HN HO
    go_wp2_with fail
    go_ret
    rw [HE.out]
    exact ⟨rfl, HU0.out.trans HU1.out⟩
  | true =>
  by_cases hl : 1000 < data.size
  · have HE := Lib.hid (show g = 2 by have := HG.out; rw [if_neg (by decide), if_pos hl] at this; exact this.symm)
    have hl2 : decide (1000 < (data.size : Int)) = true := decide_eq_true (by omega)
    clear HG HN HO
    go_wp2_with fail
    go_ret
    rw [HE.out]
    exact ⟨rfl, HU0.out.trans HU1.out⟩
  have hl2 : decide (1000 < (data.size : Int)) = false := decide_eq_false (by omega)
  have HG2 := Lib.hid (show (if ow = false ∨ nu = false then 1 else 0) = g by have := HG.out; rw [if_neg (by decide), if_neg hl] at this; exact this)
  clear HG hl
  go_wp2_with fail
  refine (HO.out _).mono ?_
  rintro e w2 ⟨rfl, hu2⟩
  obtain ⟨c0, c1, c2, c3, c4⟩ := HA.out _ (HU1.out.trans hu2)
  have HU2 := Lib.hid (HU1.out.trans hu2)
  clear hu2 HO
  cases ow with
  | false =>
    have HE := Lib.hid (show g = 1 by rw [← HG2.out]; rfl)
    clear HG2 HN
    go_wp2_with fail
    go_ret
    rw [HE.out]
    exact ⟨rfl, HU0.out.trans HU2.out⟩
  | true =>
  go_wp2_with fail
  refine (HN.out _ (HD.out _ (HU0.out.trans HU2.out)) trivial).mono ?_
  rintro e w3 ⟨rfl, hu3⟩
  have HU3 := Lib.hid (HU2.out.trans hu3)
  clear hu3 HN
  have HE := Lib.hid (show g = if nu = false then 1 else 0 by rw [← HG2.out]; cases nu <;> simp)
  clear HG2
  cases nu
  all_goals
    go_wp2_with fail
    go_ret
    rw [HE.out]
    exact ⟨rfl, HU0.out.trans HU3.out⟩
end Go.Proofs.YtjeaoopamebgjaaDoor
