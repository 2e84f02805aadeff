/-
  Texts of this claim, laid together.
-/
import Derived.Test.YtcnkifbjlihaoaaGreatDoorMg6
import Derived.Deep.DeepCutAuto
import Derived.Deep.CutBlock
set_option linter.unusedVariables false
set_option linter.unusedSimpArgs false

namespace Go.Av
open Go.RowKit
def FarW (W : List Bs) (p : Bs) : Prop := ∀ q ∈ W, ydp' p q = false
theorem FarW.no {W : List Bs} {p : Bs} (h : FarW W p) : p ∉ W ∧ (∀ u, yat' p = some u → u ∉ W) ∧ ∀ q ∈ W, yat' q ≠ some p := by
 refine ⟨fun hp => ?_, fun u hu hm => ?_, fun q hq he => ?_⟩
 ·have := h p hp; unfold ydp' at this; simp at this
 ·have := h u hm; unfold ydp' at this; rw [hu] at this; simp at this
 ·have := h q hq; unfold ydp' at this; rw [he] at this; simp at this
structure Keep (W : List Bs) (Y Y' : TreeS) : Prop where
 at_ : ∀ p ∈ W, yaj' p Y'.l = yaj' p Y.l
 kid : ∀ p ∈ W, ∀ q, yat' q = some p → (yaj' q Y'.l).isSome = (yaj' q Y.l).isSome
 up : ∀ p ∈ W, ∀ u, yat' p = some u → ∀ n, yaj' u Y.l = some n → ∃ n', yaj' u Y'.l = some n' ∧ n'.owner = n.owner
theorem Keep.rfl (W : List Bs) (Y : TreeS) : Keep W Y Y := ⟨fun _ _ => _root_.rfl, fun _ _ _ _ => _root_.rfl, fun _ _ _ _ n h => ⟨n, h, _root_.rfl⟩⟩
theorem Keep.trans {W : List Bs} {X Y Z : TreeS} (h : Keep W X Y) (h2 : Keep W Y Z) : Keep W X Z :=
 ⟨fun p hp => (h2.at_ p hp).trans (h.at_ p hp), fun p hp q hq => (h2.kid p hp q hq).trans (h.kid p hp q hq), fun p hp u hu n hn => by
  obtain ⟨n1, a1, a2⟩ := h.up p hp u hu n hn
  obtain ⟨n2, b1, b2⟩ := h2.up p hp u hu n1 a1
  exact ⟨n2, b1, b2.trans a2⟩⟩
theorem yfp' (n : NodeS) (s : Bs) : (addS n s).owner = n.owner := by unfold addS; split <;> rfl
theorem yv2' {W : List Bs} {S : TreeS} {q : Bs} {n : NodeS} (hr : ydn' S.l) (h0 : yaj' q S.l = none) (h1 : q ∉ W) (h2 : ∀ u, yat' q = some u → u ∉ W) : Keep W S { S with l := layT q n S.l } := by
 refine ⟨fun p hp => ?_, fun p hp k hk => ?_, fun p hp u hu m hm => ?_⟩
 ·rw [ydb' p q n hr h0, if_neg (fun e => h1 (by rw [← e]; exact hp)), if_neg (fun e => h2 p e hp)]
 ·rw [ydb' k q n hr h0, if_neg (fun e => h2 p (by rw [← e]; exact hk) hp)]
  split
  ·cases yaj' k S.l <;> rfl
  ·rfl
 ·rw [ydb' u q n hr h0, if_neg (fun e => by rw [e, h0] at hm; cases hm)]
  split
  ·rw [hm]; exact ⟨_, rfl, yfp' _ _⟩
  ·exact ⟨m, hm, rfl⟩
theorem yp1' {W : List Bs} {S : TreeS} {q : Bs} (h : FarW W q) : Keep W S { S with l := remT q S.l } := by
 obtain ⟨h1, h2, h3⟩ := h.no
 refine ⟨fun p hp => ?_, fun p hp k hk => ?_, fun p hp u hu m hm => ?_⟩
 ·rw [yc2' p q, if_neg (fun e => h1 (by rw [← e]; exact hp)), if_neg (fun e => h2 p e hp)]
 ·rw [yc2' k q, if_neg (fun e => h2 p (by rw [← e]; exact hk) hp)]
  split
  ·cases yaj' k S.l <;> rfl
  ·rfl
 ·rw [yc2' u q, if_neg (fun e => h3 p hp (by rw [← e]; exact hu))]
  split
  ·rw [hm]; exact ⟨_, rfl, yeu' _ _⟩
  ·exact ⟨m, hm, rfl⟩
theorem yv3' {W : List Bs} {S : TreeS} {q : Bs} {n n0 : NodeS} (h1 : q ∉ W) (h0 : yaj' q S.l = some n0) (ho : n.owner = n0.owner) : Keep W S { S with l := setT q n S.l } := by
 refine ⟨fun p hp => ?_, fun p hp k hk => ?_, fun p hp u hu m hm => ?_⟩
 ·rw [ycp' p q, if_neg (fun e => h1 (by rw [← e]; exact hp))]
 ·rw [ycp' k q]
  split
  ·rename_i e; rw [e]; cases yaj' q S.l <;> rfl
  ·rfl
 ·rw [ycp' u q]
  split
  ·rename_i e
   rw [e, h0] at hm
   injection hm with hm
   rw [h0]
   exact ⟨_, rfl, by rw [← hm]; exact ho⟩
  ·exact ⟨m, hm, rfl⟩
theorem yd2' {S : TreeS} {o : OpS} (h : (ya3' S o).1 = 0) :
  yaj' (ya3' S o).2 S.l = none ∧ (S.l.length : Int) < S.room ∧ yat' (ya3' S o).2 = yat' o.p ∧ ((ya3' S o).2 = o.p ∨ ∃ up m, yat' o.p = some up ∧ seqF o.flags = true ∧ yaj' up S.l = some m ∧ yb0' o.p m.next = some (ya3' S o).2) ∧
   ∀ up, yat' o.p = some up → ∃ m, yaj' up S.l = some m ∧ m.owner = 0 := by
 have hend : ∀ p, (endT S p).1 = 0 → endT S p = (0, p) ∧ yaj' p S.l = none ∧ (S.l.length : Int) < S.room := fun p h => by
  unfold endT at h ⊢
  split at h
  ·cases h
  ·rename_i h1
   split at h
   ·cases h
   ·rename_i h2
    rw [if_neg h1, if_neg h2]
    refine ⟨rfl, ?_, by omega⟩
    cases hl : yaj' p S.l with
    | none => rfl
    | some _ => rw [hl] at h1; exact absurd rfl h1
 unfold ya3' at h ⊢
 cases hup : yat' o.p with
 | none =>
  simp only [hup] at h ⊢
  obtain ⟨e1, e2, e3⟩ := hend _ h
  rw [e1]
  exact ⟨e2, e3, hup, .inl rfl, by simp⟩
 | some up =>
  simp only [hup] at h ⊢
  cases hn : yaj' up S.l with
  | none => simp only [hn] at h; exact absurd h (by decide)
  | some n =>
   simp only [hn] at h ⊢
   by_cases how : n.owner ≠ 0
   ·rw [if_pos how] at h; exact absurd h (by decide)
   rw [if_neg how] at h ⊢
   have how : n.owner = 0 := Decidable.not_not.1 how
   have hall : ∀ up', some up = some up' → ∃ m, yaj' up' S.l = some m ∧ m.owner = 0 := fun up' e => by injection e with e; subst e; exact ⟨n, hn, how⟩
   by_cases hsq : seqF o.flags = true
   ·rw [if_pos hsq] at h ⊢
    cases hq : yb0' o.p n.next with
    | none => simp only [hq] at h; exact absurd h (by decide)
    | some q =>
     simp only [hq] at h ⊢
     obtain ⟨e1, e2, e3⟩ := hend _ h
     rw [e1]
     exact ⟨e2, e3, (yg0' hq).1.trans hup, .inr ⟨up, n, rfl, hsq, hn, hq⟩, hall⟩
   ·rw [if_neg hsq] at h ⊢
    obtain ⟨e1, e2, e3⟩ := hend _ h
    rw [e1]
    exact ⟨e2, e3, hup, .inl rfl, hall⟩
theorem yh8' (o : OpS) : o.p ∈ yaz' o := by
 unfold yaz'
 split
 ·simp
 ·split <;> simp
theorem yl9' {o : OpS} {up : Bs} (h : yat' o.p = some up) (hk : o.kind = 1) (hs : seqF o.flags = true) : up ∈ yaz' o := by
 unfold yaz'
 rw [h]
 dsimp only
 rw [if_pos (by rw [hk, hs]; rfl)]
 simp
theorem yy6' {K : Nat} {W : List Bs} {S : TreeS} (hB : TreeB K S) {o : OpS} (hf : ∀ p ∈ yaz' o, FarW W p) (sess z : Int) : Keep W S (doT S o sess z).2 := by
 have hs := hf _ (yh8' o)
 obtain ⟨h1, h2, h3⟩ := hs.no
 unfold doT
 split
 ·exact .rfl W S
 ·split
  ·exact .rfl W S
  ·split
   ·rename_i hk
    unfold yb3'
    split
    ·exact .rfl W S
    ·rename_i hz
     obtain ⟨a1, a2, a3, a4, a5⟩ := yd2' (S := S) (o := o) (by omega)
     refine yv2' hB.rise a1 ?_ (by rw [a3]; exact h2)
     rcases a4 with e | ⟨up, m, e1, e2, e3, e4⟩
     ·rw [e]; exact h1
     ·intro hin
      exact (hf up (yl9' e1 hk e2)).no.2.2 _ hin (by rw [a3]; exact e1)
   ·split
    ·unfold ybv'
     split
     ·exact .rfl W S
     ·rename_i n hn
      split
      ·exact .rfl W S
      ·split
       ·exact .rfl W S
       ·split
        ·exact yp1' hs
        ·split
         ·exact yv3' h1 hn rfl
         ·exact .rfl W S
    ·exact .rfl W S
theorem ykd' {W : List Bs} {sess z : Int} : ∀ (l : List OpS) {K : Nat} {S : TreeS}, TreeB K S → (∀ o ∈ l, ∀ p ∈ yaz' o, FarW W p) → Keep W S (yao' sess z l S).2.1
 | [], _, S, _, _ => .rfl W S
 | o :: l, K, S, hB, hf => by
  have h1 := yy6' hB (hf o k_s) sess z
  unfold yao'
  split
  ·exact h1
  ·exact h1.trans (ykd' l (do_b hB o sess z) fun x hx => hf x (k_n _ hx))
theorem ym1' {K : Nat} {W : List Bs} {S : TreeS} (hB : TreeB K S) {l : List OpS} (hf : ∀ o ∈ l, ∀ p ∈ yaz' o, FarW W p) (sess z : Int) : Keep W S (ya2' S sess z l).2.1 := by
 unfold ya2'
 split
 ·exact .rfl W S
 ·split
  ·exact .rfl W S
  ·split
   ·exact .rfl W S
   ·exact ykd' l hB hf
theorem ym2' {K : Nat} {W : List Bs} {S : TreeS} (hB : TreeB K S) {l : List OpS} (hf : ∀ o ∈ l, ∀ p ∈ yaz' o, FarW W p) (sess num z : Int) : Keep W S (yas' S sess num z l).2 := by
 unfold yas'
 split
 ·exact .rfl W S
 ·exact ym1' hB hf sess z
theorem yp0' {W : List Bs} : ∀ (l : List Bs) {S : TreeS}, (∀ p ∈ l, FarW W p) → Keep W S (purT l S)
 | [], S, _ => .rfl W S
 | p :: l, S, hf => (yp1' (hf p k_s)).trans (yp0' l (S := { S with l := remT p S.l }) fun x hx => hf x (k_n _ hx))
def yb4' (n : NodeS) : NodeS := { n with made := 0, changed := 0 }
theorem yps' (n : NodeS) (s : Bs) : yb4' (addS n s) = addS (yb4' n) s := by unfold addS yb4'; dsimp only; split <;> rfl
theorem ypt' (n : NodeS) (s : Bs) : yb4' (remS n s) = remS (yb4' n) s := by unfold remS yb4'; dsimp only; split <;> rfl
theorem yq2' {n n' : NodeS} (h : yb4' n = yb4' n') (z z' : Int) (d : ByteArray) : yb4' (yc7' n z d) = yb4' (yc7' n' z' d) := by
 unfold yb4' at h
 unfold yb4' yc7'
 injection h with h1 h2 h3 h4 h5 h6 h7 h8
 dsimp only
 rw [h3, h4, h5, h7, h8]
structure Sim (W : List Bs) (X Y : TreeS) : Prop where
 at_ : ∀ p ∈ W, (yaj' p X.l).map yb4' = (yaj' p Y.l).map yb4'
 kid : ∀ p ∈ W, ∀ q, yat' q = some p → (yaj' q X.l).isSome = (yaj' q Y.l).isSome
 up : ∀ p ∈ W, ∀ u, yat' p = some u → ∀ n, yaj' u X.l = some n → ∃ n', yaj' u Y.l = some n' ∧ n'.owner = n.owner
theorem Sim.rfl (W : List Bs) (X : TreeS) : Sim W X X := ⟨fun _ _ => _root_.rfl, fun _ _ _ _ => _root_.rfl, fun _ _ _ _ n h => ⟨n, h, _root_.rfl⟩⟩
theorem Sim.keep {W : List Bs} {X Y Y' : TreeS} (h : Sim W X Y) (h2 : Keep W Y Y') : Sim W X Y' :=
 ⟨fun p hp => by rw [h2.at_ p hp]; exact h.at_ p hp, fun p hp q hq => by rw [h2.kid p hp q hq]; exact h.kid p hp q hq, fun p hp u hu n hn => by
  obtain ⟨n1, a1, a2⟩ := h.up p hp u hu n hn
  obtain ⟨n2, b1, b2⟩ := h2.up p hp u hu n1 a1
  exact ⟨n2, b1, b2.trans a2⟩⟩
theorem Sim.node {W : List Bs} {X Y : TreeS} (h : Sim W X Y) {p : Bs} (hp : p ∈ W) {n : NodeS} (hn : yaj' p X.l = some n) : ∃ n', yaj' p Y.l = some n' ∧ yb4' n = yb4' n' := by
 have h1 := h.at_ p hp
 rw [hn] at h1
 cases hy : yaj' p Y.l with
 | none => rw [hy] at h1; cases h1
 | some n' => rw [hy] at h1; injection h1 with h1; exact ⟨n', _root_.rfl, h1⟩
theorem Sim.none {W : List Bs} {X Y : TreeS} (h : Sim W X Y) {p : Bs} (hp : p ∈ W) (hn : yaj' p X.l = none) : yaj' p Y.l = none := by
 have h1 := h.at_ p hp
 rw [hn] at h1
 cases hy : yaj' p Y.l with
 | none => rfl
 | some n' => rw [hy] at h1; cases h1
theorem yzv' {W : List Bs} {X Y : TreeS} (h : Sim W X Y) (hx : ydn' X.l) (hy : ydn' Y.l) {q : Bs} (h1 : yaj' q X.l = none) (h2 : yaj' q Y.l = none) {n n' : NodeS} (hn : yb4' n = yb4' n') :
  Sim W { X with l := layT q n X.l } { Y with l := layT q n' Y.l } := by
 refine ⟨fun p hp => ?_, fun p hp k hk => ?_, fun p hp u hu m hm => ?_⟩
 ·rw [ydb' p q n hx h1, ydb' p q n' hy h2]
  split
  ·exact congrArg some hn
  ·split
   ·have := h.at_ p hp
    rw [Option.map_map, Option.map_map]
    have e : (yb4' ∘ fun m => addS m (yfc' q)) = (fun m => addS m (yfc' q)) ∘ yb4' := by funext m; exact yps' m _
    rw [e, ← Option.map_map, ← Option.map_map, this]
   ·exact h.at_ p hp
 ·rw [ydb' k q n hx h1, ydb' k q n' hy h2]
  split
  ·rfl
  ·split
   ·rw [Option.isSome_map, Option.isSome_map]; exact h.kid p hp k hk
   ·exact h.kid p hp k hk
 ·have hm : yaj' u (layT q n X.l) = some m := hm
  show ∃ n'_1, yaj' u (layT q n' Y.l) = some n'_1 ∧ _
  rw [ydb' u q n hx h1] at hm
  rw [ydb' u q n' hy h2]
  split at hm
  ·rename_i e
   rw [if_pos e]
   injection hm with hm
   refine ⟨n', rfl, ?_⟩
   rw [← hm]
   exact (congrArg NodeS.owner hn).symm
  ·rename_i e
   rw [if_neg e]
   split at hm
   ·rename_i e2
    rw [if_pos e2]
    obtain ⟨m0, hm0, hm1⟩ := Option.map_eq_some_iff.1 hm
    obtain ⟨n1, a1, a2⟩ := h.up p hp u hu m0 hm0
    rw [a1]
    exact ⟨_, rfl, by rw [yfp', a2, ← hm1, yfp']⟩
   ·rename_i e2
    rw [if_neg e2]
    exact h.up p hp u hu m hm
theorem yzw' {W : List Bs} {X Y : TreeS} (h : Sim W X Y) (q : Bs) : Sim W { X with l := remT q X.l } { Y with l := remT q Y.l } := by
 refine ⟨fun p hp => ?_, fun p hp k hk => ?_, fun p hp u hu m hm => ?_⟩
 ·rw [yc2' p q, yc2' p q]
  split
  ·rfl
  ·split
   ·have := h.at_ p hp
    rw [Option.map_map, Option.map_map]
    have e : (yb4' ∘ fun m => remS m (yfc' q)) = (fun m => remS m (yfc' q)) ∘ yb4' := by funext m; exact ypt' m _
    rw [e, ← Option.map_map, ← Option.map_map, this]
   ·exact h.at_ p hp
 ·rw [yc2' k q, yc2' k q]
  split
  ·rfl
  ·split
   ·rw [Option.isSome_map, Option.isSome_map]; exact h.kid p hp k hk
   ·exact h.kid p hp k hk
 ·have hm : yaj' u (remT q X.l) = some m := hm
  show ∃ n'_1, yaj' u (remT q Y.l) = some n'_1 ∧ _
  rw [yc2' u q] at hm
  rw [yc2' u q]
  split at hm
  ·cases hm
  ·rename_i e
   rw [if_neg e]
   split at hm
   ·rename_i e2
    rw [if_pos e2]
    obtain ⟨m0, hm0, hm1⟩ := Option.map_eq_some_iff.1 hm
    obtain ⟨n1, a1, a2⟩ := h.up p hp u hu m0 hm0
    rw [a1]
    exact ⟨_, rfl, by rw [yeu', a2, ← hm1, yeu']⟩
   ·rename_i e2
    rw [if_neg e2]
    exact h.up p hp u hu m hm
theorem yzx' {W : List Bs} {X Y : TreeS} (h : Sim W X Y) {q : Bs} {n n' m0 m1 : NodeS} (h1 : yaj' q X.l = some m0) (h2 : yaj' q Y.l = some m1) (hn : yb4' n = yb4' n') :
  Sim W { X with l := setT q n X.l } { Y with l := setT q n' Y.l } := by
 refine ⟨fun p hp => ?_, fun p hp k hk => ?_, fun p hp u hu m hm => ?_⟩
 ·rw [ycp' p q, ycp' p q]
  split
  ·rw [h1, h2]; exact congrArg some hn
  ·exact h.at_ p hp
 ·rw [ycp' k q, ycp' k q]
  split
  ·rw [h1, h2]; rfl
  ·exact h.kid p hp k hk
 ·have hm : yaj' u (setT q n X.l) = some m := hm
  show ∃ n'_1, yaj' u (setT q n' Y.l) = some n'_1 ∧ _
  rw [ycp' u q] at hm
  rw [ycp' u q]
  split at hm
  ·rename_i e
   rw [if_pos e]
   rw [h1] at hm
   rw [h2]
   injection hm with hm
   refine ⟨_, rfl, ?_⟩
   rw [← hm]
   exact (congrArg NodeS.owner hn).symm
  ·rename_i e
   rw [if_neg e]
   exact h.up p hp u hu m hm
theorem ysu' {S : TreeS} {p : Bs} (h : yaj' p S.l = none) (hl : (S.l.length : Int) < S.room) : endT S p = (0, p) := by
 unfold endT
 rw [if_neg (by rw [h]; decide), if_neg (by omega)]
theorem yue' {W : List Bs} {X Y : TreeS} (h : Sim W X Y) {o : OpS} (hw : ∀ p ∈ yaz' o, p ∈ W) (hk : o.kind = 1) (h0 : (ya3' X o).1 = 0) (hl : (Y.l.length : Int) < Y.room) : ya3' Y o = ya3' X o ∧ yaj' (ya3' X o).2 Y.l = none := by
 obtain ⟨a1, -, a3, a4, a5⟩ := yd2' h0
 have hp := hw _ (yh8' o)
 have hno : yaj' (ya3' X o).2 Y.l = none := by
  rcases a4 with e | ⟨up, m, e1, e2, e3, e4⟩
  ·rw [e] at a1 ⊢; exact h.none hp a1
  ·have := h.kid up (hw _ (yl9' e1 hk e2)) (ya3' X o).2 (a3.trans e1)
   rw [a1] at this
   cases hy : yaj' (ya3' X o).2 Y.l with
   | none => rfl
   | some _ => rw [hy] at this; cases this
 refine ⟨?_, hno⟩
 have hx : ya3' X o = (0, (ya3' X o).2) := Prod.ext h0 rfl
 rw [hx]
 obtain ⟨qq, hqq⟩ : ∃ q, (ya3' X o).2 = q := ⟨_, rfl⟩
 rw [hqq] at hno a4 ⊢
 rcases hpp : yat' o.p with - | up
 ·have e : qq = o.p := by
   rcases a4 with e | ⟨up, m, e1, -⟩
   ·exact e
   ·rw [hpp] at e1; cases e1
  rw [e] at hno ⊢
  unfold ya3'
  rw [hpp]
  exact ysu' hno hl
 ·obtain ⟨m, b1, b2⟩ := a5 up hpp
  obtain ⟨m', c1, c2⟩ := h.up _ hp up hpp m b1
  have c3 : m'.owner = 0 := c2.trans b2
  by_cases hs : seqF o.flags = true
  ·have hup := hw _ (yl9' hpp hk hs)
   obtain ⟨m2, d1, d2⟩ := h.node hup b1
   rw [c1] at d1
   injection d1 with d1
   have hnx : m'.next = m.next := by rw [d1]; exact (congrArg NodeS.next d2).symm
   have hq : yb0' o.p m.next = some qq := by
    rcases a4 with e | ⟨up', m3, e1, -, e3, e4⟩
    ·-- the number is there: the place is not the path itself
     have hz := h0
     have hee : ya3' X o = match yb0' o.p m.next with | none => (1, []) | some q => endT X q := by
      unfold ya3'
      rw [hpp]
      dsimp only
      rw [b1]
      dsimp only
      rw [if_neg (fun hh => hh b2), if_pos hs]
      rfl
     rw [hee] at hz
     cases hq : yb0' o.p m.next with
     | none => rw [hq] at hz; cases hz
     | some q =>
      rw [hq] at hz
      have := yvw' hz
      rw [← hqq, hee, hq]
      exact congrArg some this.symm
    ·rw [hpp] at e1
     injection e1 with e1
     rw [← e1, b1] at e3
     injection e3 with e3
     rw [e3]; exact e4
   unfold ya3'
   rw [hpp]
   dsimp only
   rw [c1]
   dsimp only
   rw [if_neg (fun hh => hh c3), if_pos hs, hnx, hq]
   dsimp only
   exact ysu' hno hl
  ·have e : qq = o.p := by
    rcases a4 with e | ⟨up', m3, -, e2, -⟩
    ·exact e
    ·exact absurd e2 hs
   rw [e] at hno ⊢
   unfold ya3'
   rw [hpp]
   dsimp only
   rw [c1]
   dsimp only
   rw [if_neg (fun hh => hh c3), if_neg hs]
   exact ysu' hno hl
theorem y0w' {K K' : Nat} {W : List Bs} {X Y : TreeS} (h : Sim W X Y) (hx : TreeB K X) (hy : TreeB K' Y) {o : OpS} (hw : ∀ p ∈ yaz' o, p ∈ W) {sess z z' : Int} (he : (doT X o sess z).1.err = 0) (hz : 0 ≤ z')
  (hl : o.kind = 1 → (Y.l.length : Int) < Y.room) :
  (doT Y o sess z').1.err = 0 ∧ (doT Y o sess z').1.path = (doT X o sess z).1.path ∧ Sim W (doT X o sess z).2 (doT Y o sess z').2 ∧ ((doT Y o sess z').2.l.length : Int) - Y.l.length = ((doT X o sess z).2.l.length : Int) - X.l.length := by
 have hp := hw _ (yh8' o)
 unfold doT at he ⊢
 by_cases h1 : yb9' o ≠ 0
 ·rw [if_pos h1] at he; exact absurd he h1
 rw [if_neg h1] at he
 rw [if_neg h1, if_neg h1]
 by_cases h2 : sess < 1 ∨ z < 0
 ·rw [if_pos h2] at he; exact absurd he (by show (1 : Int) ≠ 0; decide)
 rw [if_neg h2] at he
 rw [if_neg h2, if_neg (show ¬ (sess < 1 ∨ z' < 0) by omega)]
 by_cases h3 : o.kind = 1
 ·rw [if_pos h3] at he
  rw [if_pos h3, if_pos h3]
  unfold yb3' at he ⊢
  by_cases h4 : (ya3' X o).1 ≠ 0
  ·rw [if_pos h4] at he; exact absurd he h4
  have h4' : (ya3' X o).1 = 0 := by omega
  obtain ⟨b1, b2⟩ := yue' h hw h3 h4' (hl h3)
  rw [if_neg h4, b1, if_neg h4]
  refine ⟨rfl, rfl, ?_, ?_⟩
  ·exact yzv' h hx.rise hy.rise (yd2' h4').1 b2 rfl
  ·show ((layT _ _ _).length : Int) - _ = ((layT _ _ _).length : Int) - _
   rw [ys9', ys9']
   omega
 rw [if_neg h3] at he
 rw [if_neg h3, if_neg h3]
 by_cases h4 : o.kind = 2 ∨ o.kind = 3 ∨ o.kind = 4
 ·rw [if_pos h4] at he
  rw [if_pos h4, if_pos h4]
  unfold ybv' at he ⊢
  cases hn : yaj' o.p X.l with
  | none => rw [hn] at he; exact absurd he (by show (4 : Int) ≠ 0; decide)
  | some n =>
   obtain ⟨n', c1, c2⟩ := h.node hp hn
   rw [hn] at he
   rw [c1]
   dsimp only at he ⊢
   have hwr : ye9' o n' = ye9' o n := by unfold ye9'; rw [show n'.ver = n.ver from (congrArg NodeS.ver c2).symm]
   have hnm : n'.names = n.names := (congrArg NodeS.names c2).symm
   rw [hwr, hnm]
   by_cases g1 : ye9' o n = true
   ·rw [if_pos g1] at he; exact absurd he (by show (6 : Int) ≠ 0; decide)
   rw [if_neg g1] at he
   rw [if_neg g1, if_neg g1]
   by_cases g2 : o.kind = 2 ∧ 0 < n.names.length
   ·rw [if_pos g2] at he; exact absurd he (by show (7 : Int) ≠ 0; decide)
   rw [if_neg g2, if_neg g2]
   by_cases g3 : o.kind = 2
   ·rw [if_pos g3, if_pos g3]
    refine ⟨rfl, rfl, yzw' h o.p, ?_⟩
    show ((remT _ _).length : Int) - _ = ((remT _ _).length : Int) - _
    have e1 := yqh' hx.rise hn
    have e2 := yqh' hy.rise c1
    omega
   rw [if_neg g3, if_neg g3]
   by_cases g4 : o.kind = 3
   ·rw [if_pos g4, if_pos g4]
    refine ⟨rfl, rfl, yzx' h hn c1 (yq2' c2 _ _ _), ?_⟩
    show ((setT _ _ _).length : Int) - _ = ((setT _ _ _).length : Int) - _
    rw [yfz', yfz']
    omega
   rw [if_neg g4, if_neg g4]
   exact ⟨rfl, rfl, h, by dsimp only; omega⟩
 rw [if_neg h4] at he
 rw [if_neg h4, if_neg h4]
 unfold yil' at he ⊢
 cases hn : yaj' o.p X.l with
 | none => rw [hn] at he; exact absurd he (by show (4 : Int) ≠ 0; decide)
 | some n =>
  obtain ⟨n', c1, c2⟩ := h.node hp hn
  rw [c1]
  exact ⟨rfl, rfl, h, by dsimp only; omega⟩
theorem yst' (S : TreeS) (o : OpS) (sess z : Int) : (doT S o sess z).2.l.length ≤ S.l.length + (if o.kind = 1 then 1 else 0) := by
 by_cases hk : o.kind = 1
 ·rw [if_pos hk]; exact y0g' S o sess z
 ·rw [if_neg hk]
  unfold doT
  by_cases h1 : yb9' o ≠ 0
  ·rw [if_pos h1]; exact Nat.le_refl _
  rw [if_neg h1]
  by_cases h2 : sess < 1 ∨ z < 0
  ·rw [if_pos h2]; exact Nat.le_refl _
  rw [if_neg h2, if_neg hk]
  by_cases h4 : o.kind = 2 ∨ o.kind = 3 ∨ o.kind = 4
  ·rw [if_pos h4]
   unfold ybv'
   split
   ·exact Nat.le_refl _
   ·split
    ·exact Nat.le_refl _
    ·split
     ·exact Nat.le_refl _
     ·split
      ·exact yt8' _ _
      ·split
       ·show (setT _ _ _).length ≤ _; rw [yfz']; exact Nat.le_refl _
       ·exact Nat.le_refl _
  ·rw [if_neg h4]; exact Nat.le_refl _
theorem yn0' {W : List Bs} {sess z z' : Int} (hz : 0 ≤ z') : ∀ (l : List OpS) {K K' : Nat} {X Y : TreeS}, Sim W X Y → TreeB K X → TreeB K' Y → Y.room = X.room → (∀ o ∈ l, ∀ p ∈ yaz' o, p ∈ W) → (yao' sess z l X).2.2 = 0 →
  (((Y.l.length + yap' l : Nat) : Int) ≤ Y.room ∨ Y.l.length ≤ X.l.length) → (yao' sess z' l Y).2.2 = 0
 | [], _, _, _, _, _, _, _, _, _, _, _ => rfl
 | o :: l, K, K', X, Y, h, hx, hy, hr, hw, he, hl => by
  have he0 := yjo' he
  have hlen : o.kind = 1 → (Y.l.length : Int) < Y.room := fun hk => by
   rcases hl with hl | hl
   ·have : yap' (o :: l) = yap' l + 1 := by
     have := yc8' [o] l
     rw [ydy', if_pos hk] at this
     have e : [o] ++ l = o :: l := rfl
     rw [e] at this; omega
    omega
   ·have hxl : (X.l.length : Int) < X.room := by
     unfold doT at he0
     by_cases h1 : yb9' o ≠ 0
     ·rw [if_pos h1] at he0; exact absurd he0 h1
     rw [if_neg h1] at he0
     by_cases h2 : sess < 1 ∨ z < 0
     ·rw [if_pos h2] at he0; exact absurd he0 (by show (1 : Int) ≠ 0; decide)
     rw [if_neg h2, if_pos hk] at he0
     unfold yb3' at he0
     by_cases h4 : (ya3' X o).1 ≠ 0
     ·rw [if_pos h4] at he0; exact absurd he0 h4
     exact (yd2' (S := X) (o := o) (by omega)).2.1
    omega
  obtain ⟨a1, -, a2, a3⟩ := y0w' (z := z) h hx hy (hw o k_s) he0 hz hlen
  rw [yh3' l he0] at he
  rw [yh3' l a1]
  refine yn0' hz l a2 (do_b hx o sess z) (do_b hy o sess z') ?_ (fun x hx => hw x (k_n _ hx)) he ?_
  ·rw [yi5', yi5']; exact hr
  ·rcases hl with hl | hl
   ·left
    rw [yi5']
    have hc : yap' (o :: l) = (if o.kind = 1 then 1 else 0) + yap' l := by
     have := yc8' [o] l
     rw [ydy'] at this
     exact this
    have h5 := yst' Y o sess z'
    omega
   ·right; omega
end Go.Av

namespace Go.Av
open Go.RowKit
def yon' (e : Bs × NodeS) : Bs × NodeS := (e.1, yb4' e.2)
def ybw' (l : NoL) : NoL := l.map yon'
def yck' (S : TreeS) : TreeS := ⟨S.room, ybw' S.l⟩
theorem ydu' (p : Bs) : ∀ l : NoL, yaj' p (ybw' l) = (yaj' p l).map yb4'
 | [] => rfl
 | e :: l => by
  have ih := ydu' p l
  have hc : ybw' (e :: l) = yon' e :: ybw' l := rfl
  rw [hc, yc1', yc1', ih]
  show (if e.1 = p then some (yb4' e.2) else _) = _
  split <;> rfl
theorem yi1' (p : Bs) (n : NodeS) (l : NoL) : ybw' (setT p n l) = setT p (yb4' n) (ybw' l) := by
 unfold ybw' setT
 rw [List.map_map, List.map_map]
 apply List.map_congr_left
 intro e _
 show yon' (if e.1 = p then (e.1, n) else e) = if (yon' e).1 = p then ((yon' e).1, yb4' n) else yon' e
 have : (yon' e).1 = e.1 := rfl
 rw [this]
 split <;> rfl
theorem ysm' (p : Bs) (l : NoL) : ybw' (delT p l) = delT p (ybw' l) := by
 unfold ybw' delT
 rw [List.filter_map]
 rfl
theorem ysn' (p : Bs) (n : NodeS) (l : NoL) : ybw' (insT p n l) = insT p (yb4' n) (ybw' l) := by
 unfold ybw' insT
 rw [List.map_append, List.map_cons, List.takeWhile_map, List.dropWhile_map]
 rfl
theorem ypr' (p : Bs) (f : NodeS → NodeS) (hf : ∀ n, yb4' (f n) = f (yb4' n)) (l : NoL) : ybw' (atUp p f l) = atUp p f (ybw' l) := by
 unfold atUp
 cases yat' p with
 | none => rfl
 | some u =>
  dsimp only
  rw [ydu']
  cases yaj' u l with
  | none => rfl
  | some m =>
   show ybw' (setT u (f m) l) = setT u (f (yb4' m)) (ybw' l)
   rw [yi1', hf]
theorem ymk' (p : Bs) (n : NodeS) (l : NoL) : ybw' (layT p n l) = layT p (yb4' n) (ybw' l) := by
 unfold layT
 rw [ypr' _ _ (fun n => yps' n _), ysn']
theorem yml' (p : Bs) (l : NoL) : ybw' (remT p l) = remT p (ybw' l) := by
 unfold remT
 rw [ypr' _ _ (fun n => ypt' n _), ysm']
theorem yld' (S : TreeS) (p : Bs) : endT (yck' S) p = endT S p := by
 unfold endT
 show (if (yaj' p (ybw' S.l)).isSome = true then _ else if S.room ≤ ((ybw' S.l).length : Nat) then _ else _) = _
 rw [ydu', Option.isSome_map]
 unfold ybw'
 rw [List.length_map]
theorem yq1' (S : TreeS) (o : OpS) : ya3' (yck' S) o = ya3' S o := by
 unfold ya3'
 cases hp : yat' o.p with
 | none => exact yld' S o.p
 | some u =>
  have hl : yaj' u (yck' S).l = (yaj' u S.l).map yb4' := ydu' _ _
  dsimp only
  rw [hl]
  cases hn : yaj' u S.l with
  | none => rfl
  | some n =>
   have h1 : (yb4' n).owner = n.owner := rfl
   have h2 : (yb4' n).next = n.next := rfl
   dsimp only [Option.map]
   rw [h1, h2]
   split
   ·rfl
   ·split
    ·cases hq : yb0' o.p n.next with
     | none => rfl
     | some q => exact yld' S q
    ·exact yld' S o.p
theorem yso' (S : TreeS) (o : OpS) (sess : Int) {z : Int} (hz : 0 ≤ z) : (doT S o sess z).1.err = (doT (yck' S) o sess 0).1.err ∧ yck' (doT S o sess z).2 = yck' (doT (yck' S) o sess 0).2 := by
 have hidem : yck' (yck' S) = yck' S := by
  unfold yck' ybw'
  rw [List.map_map]
  rfl
 unfold doT
 by_cases h1 : yb9' o ≠ 0
 ·rw [if_pos h1, if_pos h1]; exact ⟨rfl, hidem.symm⟩
 rw [if_neg h1, if_neg h1]
 by_cases h2 : sess < 1
 ·rw [if_pos (.inl h2), if_pos (.inl h2)]; exact ⟨rfl, hidem.symm⟩
 rw [if_neg (show ¬ (sess < 1 ∨ z < 0) by omega), if_neg (show ¬ (sess < 1 ∨ (0 : Int) < 0) by omega)]
 by_cases h3 : o.kind = 1
 ·rw [if_pos h3, if_pos h3]
  unfold yb3'
  rw [yq1']
  by_cases h4 : (ya3' S o).1 ≠ 0
  ·rw [if_pos h4, if_pos h4]; exact ⟨rfl, hidem.symm⟩
  rw [if_neg h4, if_neg h4]
  refine ⟨rfl, ?_⟩
  show TreeS.mk S.room (ybw' (layT _ _ S.l)) = TreeS.mk S.room (ybw' (layT _ _ (ybw' S.l)))
  rw [ymk', ymk']
  have : ybw' (ybw' S.l) = ybw' S.l := congrArg TreeS.l hidem
  rw [this]
  rfl
 rw [if_neg h3, if_neg h3]
 by_cases h4 : o.kind = 2 ∨ o.kind = 3 ∨ o.kind = 4
 ·rw [if_pos h4, if_pos h4]
  unfold ybv'
  have hl : yaj' o.p (yck' S).l = (yaj' o.p S.l).map yb4' := ydu' _ _
  rw [hl]
  cases hn : yaj' o.p S.l with
  | none => exact ⟨rfl, hidem.symm⟩
  | some n =>
   dsimp only [Option.map]
   have hw : ye9' o (yb4' n) = ye9' o n := rfl
   have hm : (yb4' n).names = n.names := rfl
   rw [hw, hm]
   split
   ·exact ⟨rfl, hidem.symm⟩
   ·split
    ·exact ⟨rfl, hidem.symm⟩
    ·split
     ·refine ⟨rfl, ?_⟩
      show TreeS.mk S.room (ybw' (remT _ S.l)) = TreeS.mk S.room (ybw' (remT _ (ybw' S.l)))
      rw [yml', yml']
      have : ybw' (ybw' S.l) = ybw' S.l := congrArg TreeS.l hidem
      rw [this]
     ·split
      ·refine ⟨rfl, ?_⟩
       show TreeS.mk S.room (ybw' (setT _ _ S.l)) = TreeS.mk S.room (ybw' (setT _ _ (ybw' S.l)))
       rw [yi1', yi1']
       have : ybw' (ybw' S.l) = ybw' S.l := congrArg TreeS.l hidem
       rw [this]
       rfl
      ·exact ⟨rfl, hidem.symm⟩
 rw [if_neg h4, if_neg h4]
 unfold yil'
 have hl : yaj' o.p (yck' S).l = (yaj' o.p S.l).map yb4' := ydu' _ _
 rw [hl]
 cases hn : yaj' o.p S.l with
 | none => exact ⟨rfl, hidem.symm⟩
 | some n => exact ⟨rfl, hidem.symm⟩
theorem yvk' {S S' : TreeS} (h : yck' S = yck' S') (o : OpS) (sess : Int) {z z' : Int} (hz : 0 ≤ z) (hz' : 0 ≤ z') : (doT S o sess z).1.err = (doT S' o sess z').1.err ∧ yck' (doT S o sess z).2 = yck' (doT S' o sess z').2 := by
 obtain ⟨a1, a2⟩ := yso' S o sess hz
 obtain ⟨b1, b2⟩ := yso' S' o sess hz'
 rw [a1, a2, b1, b2, h]
 exact ⟨rfl, rfl⟩
theorem yj6' {sess z z' : Int} (hz : 0 ≤ z) (hz' : 0 ≤ z') : ∀ (l : List OpS) {S S' : TreeS}, yck' S = yck' S' →
  (yao' sess z l S).2.2 = (yao' sess z' l S').2.2 ∧ (yao' sess z l S).1.length = (yao' sess z' l S').1.length ∧ yck' (yao' sess z l S).2.1 = yck' (yao' sess z' l S').2.1
 | [], _, _, h => ⟨rfl, rfl, h⟩
 | o :: l, S, S', h => by
  obtain ⟨a1, a2⟩ := yvk' h o sess hz hz'
  obtain ⟨b1, b2, b3⟩ := yj6' (sess := sess) hz hz' l a2
  unfold yao'
  rw [a1]
  split
  ·exact ⟨rfl, rfl, a2⟩
  ·exact ⟨b1, by rw [List.length_cons, List.length_cons, b2], b3⟩
theorem ymm' {S S' : TreeS} (h : yck' S = yck' S') (sess : Int) {z z' : Int} (hz : 0 ≤ z) (hz' : 0 ≤ z') (l : List OpS) :
  (ya2' S sess z l).2.2 = (ya2' S' sess z' l).2.2 ∧ (ya2' S sess z l).1.err = (ya2' S' sess z' l).1.err ∧ (ya2' S sess z l).1.at_ = (ya2' S' sess z' l).1.at_ ∧ (ya2' S sess z l).1.rs.length = (ya2' S' sess z' l).1.rs.length ∧ yck' (ya2' S sess z l).2.1 = yck' (ya2' S' sess z' l).2.1 := by
 obtain ⟨a1, a2, a3⟩ := yj6' (sess := sess) hz hz' l h
 unfold ya2'
 rw [a1, a2]
 split
 ·exact ⟨rfl, rfl, rfl, rfl, h⟩
 ·split
  ·exact ⟨rfl, rfl, rfl, rfl, h⟩
  ·split
   ·exact ⟨rfl, rfl, rfl, rfl, h⟩
   ·exact ⟨rfl, rfl, rfl, a2, a3⟩
theorem ymn' {S S' : TreeS} (h : yck' S = yck' S') (sess num : Int) {z z' : Int} (hz : 0 ≤ z) (hz' : 0 ≤ z') (l : List OpS) :
  (yas' S sess num z l).1.err = (yas' S' sess num z' l).1.err ∧ (yas' S sess num z l).1.at_ = (yas' S' sess num z' l).1.at_ ∧ (yas' S sess num z l).1.rs.length = (yas' S' sess num z' l).1.rs.length ∧ yck' (yas' S sess num z l).2 = yck' (yas' S' sess num z' l).2 := by
 obtain ⟨a1, a2, a3, a4, a5⟩ := ymm' h sess hz hz' l
 unfold yas'
 split
 ·exact ⟨rfl, rfl, rfl, h⟩
 ·exact ⟨a2, a3, a4, a5⟩
theorem yle' {S S' : TreeS} (h : yck' S = yck' S') : S.l.length = S'.l.length ∧ S.room = S'.room ∧ S.l.map (·.1) = S'.l.map (·.1) := by
 have h1 := congrArg TreeS.l h
 have h2 := congrArg TreeS.room h
 have h2 : S.room = S'.room := h2
 have h1 : ybw' S.l = ybw' S'.l := h1
 refine ⟨?_, h2, ?_⟩
 ·have := congrArg List.length h1
  unfold ybw' at this
  rwa [List.length_map, List.length_map] at this
 ·have := congrArg (List.map (·.1)) h1
  unfold ybw' at this
  rw [List.map_map, List.map_map] at this
  exact this
structure Like (S S' : PartS) : Prop where
 t : yck' S.t = yck' S'.t
 held : S.held = S'.held
 wait : S.wait = S'.wait
 closed : S.closed = S'.closed
theorem yta' {S S' : PartS} (h : Like S S') (id sess : Int) (l : List OpS) : ycz' S id sess l = ycz' S' id sess l := by
 obtain ⟨h1, h2, -⟩ := yle' h.t
 unfold ycz'
 rw [h.closed, h.wait, h.held, h1, h2]
theorem yrd' {S S' : PartS} (h : Like S S') (hz : 0 ≤ S.zxid) (hz' : 0 ≤ S'.zxid) (sess num : Int) (l : List OpS) :
  (ybg' S sess num l).1.err = (ybg' S' sess num l).1.err ∧ (ybg' S sess num l).1.at_ = (ybg' S' sess num l).1.at_ ∧ (ybg' S sess num l).1.rs.length = (ybg' S' sess num l).1.rs.length ∧ Like (ybg' S sess num l).2 (ybg' S' sess num l).2 := by
 obtain ⟨a1, a2, a3, a4⟩ := ymn' h.t sess num (show 0 ≤ S.zxid + 1 by omega) (show 0 ≤ S'.zxid + 1 by omega) l
 unfold ybg'
 rw [yta' h]
 split
 ·exact ⟨rfl, rfl, rfl, h⟩
 ·split
  ·exact ⟨rfl, rfl, rfl, ⟨h.t, h.held, h.wait, h.closed⟩⟩
  ·exact ⟨a1, a2, a3, ⟨a4, h.held, h.wait, h.closed⟩⟩
end Go.Av

namespace Go.Proofs.YtcnkifbjlihaoaaGreatDoor
open Go.RowKit Go.Av
theorem ypx' {sess num : Int} {l : List OpS} (h : mayS sess num l ≠ 0) : getR (putR sess num l) = none := by
 unfold putR
 rw [if_pos h]
 exact yvz'
def locC (id : Int) (ops : List OpS) : CmdS := ⟨1, id, 0, 1, id, ops, [], 0, false⟩
def preC (id : Int) (ops : List OpS) : CmdS := ⟨2, id, 1, 1, id, ops, [], 0, false⟩
def decC (id : Int) (yes : Bool) : CmdS := ⟨4, id, 0, 0, 0, [], [], 0, yes⟩
theorem yll' (k id : Int) (x : Bs) (h1 : -9223372036854775808 ≤ k ∧ k ≤ 9223372036854775807) (h2 : -9223372036854775808 ≤ id ∧ id ≤ 9223372036854775807) : ylk' ((yal' k ++ yal' id) ++ x) = (k, id, x, false) := by
 unfold ylk'
 rw [List.append_assoc, yde' k _ false h1.1 h1.2]
 dsimp only
 rw [yde' id x false h2.1 h2.2]
theorem ywj' {id : Int} (h0 : 0 ≤ id) (h1 : id ≤ 9223372036854775807) (ops : List OpS) : rawC (putC (locC id ops)) =
  (⟨1, id, 0, (yc3' (putR 1 id ops)).1, (yc3' (putR 1 id ops)).2.1, (yc3' (putR 1 id ops)).2.2, [], 0, false⟩, ([], false), (getR (putR 1 id ops)).isNone) := by
 have hp : putC (locC id ops) = (yal' 1 ++ yal' id) ++ ydk' (putR 1 id ops) := by unfold putC; rw [if_pos (show (locC id ops).kind = 1 from rfl)]; rfl
 have ht := yf0' 40000 (putR 1 id ops) [] false (by have := yfx' 1 id ops; omega) (by omega)
 rw [List.append_nil] at ht
 unfold rawC
 rw [hp, yll' 1 id _ (by omega) (by omega)]
 dsimp only
 rw [if_pos rfl, ht]
theorem yli' {id : Int} (h0 : 1 ≤ id) (h1 : id ≤ 9223372036854775807) {ops : List OpS} (hf : ∀ o ∈ ops, FitO o) : getC (putC (locC id ops)) = if mayS 1 id ops = 0 then some (locC id ops) else none := by
 unfold getC
 rw [ywj' (by omega) h1]
 by_cases hm : mayS 1 id ops = 0
 ·have hg := ypy' hm (by omega) h1 hf
  unfold yc3'
  rw [hg, if_pos hm]
  dsimp only [Option.getD, Option.isNone]
  rw [if_pos ⟨rfl, rfl, rfl⟩]
  rfl
 ·rw [ypx' hm, if_neg hm, if_neg]
  rintro ⟨h, -⟩
  cases h
theorem ywk' {id : Int} (h0 : 0 ≤ id) (h1 : id ≤ 9223372036854775807) (ops : List OpS) : rawC (putC (preC id ops)) =
  (⟨2, id, 1, (yc3' (putR 1 id ops)).1, (yc3' (putR 1 id ops)).2.1, (yc3' (putR 1 id ops)).2.2, [], 0, false⟩, ([], false), (getR (putR 1 id ops)).isNone) := by
 have hp : putC (preC id ops) = (yal' 2 ++ yal' id) ++ (yal' 1 ++ (yal' 0 ++ ydk' (putR 1 id ops))) := by
  unfold putC
  rw [if_neg (show ¬ (preC id ops).kind = 1 from (by decide : ¬ (2 : Int) = 1)), if_pos (show (preC id ops).kind = 2 from rfl)]
  show ((yal' 2 ++ yal' id) ++ yal' 1 ++ shB []) ++ ydk' (putR 1 id ops) = _
  simp only [List.append_assoc]
  rfl
 have ht := yf0' 40000 (putR 1 id ops) [] false (by have := yfx' 1 id ops; omega) (by omega)
 rw [List.append_nil] at ht
 have hs : shR (yal' 0 ++ ydk' (putR 1 id ops), false) = ([], ydk' (putR 1 id ops), false) := by
  unfold shR
  rw [ygn' 4 0 _ false (by omega) (by omega) (by omega)]
  rfl
 unfold rawC
 rw [hp, yll' 2 id _ (by omega) (by omega)]
 dsimp only
 rw [if_neg (by decide), if_pos rfl, yde' 1 _ false (by omega) (by omega)]
 dsimp only
 rw [hs]
 dsimp only
 rw [ht]
theorem ylj' {id : Int} (h0 : 1 ≤ id) (h1 : id ≤ 9223372036854775807) {ops : List OpS} (hf : ∀ o ∈ ops, FitO o) : getC (putC (preC id ops)) = if mayS 1 id ops = 0 then some (preC id ops) else none := by
 unfold getC
 rw [ywk' (by omega) h1]
 by_cases hm : mayS 1 id ops = 0
 ·have hg := ypy' hm (by omega) h1 hf
  unfold yc3'
  rw [hg, if_pos hm]
  dsimp only [Option.getD, Option.isNone]
  rw [if_pos ⟨rfl, rfl, rfl⟩]
  rfl
 ·rw [ypx' hm, if_neg hm, if_neg]
  rintro ⟨h, -⟩
  cases h
theorem ylh' {id : Int} (h0 : 0 ≤ id) (h1 : id ≤ 9223372036854775807) (yes : Bool) : getC (putC (decC id yes)) = some (decC id yes) := by
 have hp : putC (decC id yes) = (yal' 4 ++ yal' id) ++ yal' (bitI yes) := by
  unfold putC
  rw [if_neg (show ¬ (decC id yes).kind = 1 from (by decide : ¬ (4 : Int) = 1)), if_neg (show ¬ (decC id yes).kind = 2 from (by decide : ¬ (4 : Int) = 2)), if_neg (show ¬ (decC id yes).kind = 3 from (by decide : ¬ (4 : Int) = 3)), if_pos (show (decC id yes).kind = 4 from rfl)]
  rfl
 have hb : 0 ≤ bitI yes ∧ bitI yes ≤ 1 := by unfold bitI; split <;> omega
 have hc := ygn' 1 (bitI yes) [] false hb.1 hb.2 (by omega)
 rw [List.append_nil] at hc
 have hr : rawC (putC (decC id yes)) = (decC id yes, ([], false), false) := by
  unfold rawC
  rw [hp, yll' 4 id _ (by omega) (by omega)]
  dsimp only
  rw [if_neg (by decide), if_neg (by decide), if_neg (by decide), if_pos rfl, hc]
  cases yes <;> rfl
 unfold getC
 rw [hr, if_pos ⟨rfl, rfl, rfl⟩]
theorem yt4' {c c' : CmdS} (h : getC (putC c) = some c) (h' : getC (putC c') = some c') (hne : c.kind ≠ c'.kind ∨ c.id ≠ c'.id) : putC c ≠ putC c' := by
 intro e
 rw [e, h'] at h
 injection h with h
 rcases hne with h1 | h1
 ·exact h1 (by rw [h])
 ·exact h1 (by rw [h])
theorem yhu' {b : Bs} {K : List (Bs × OutS)} (h : ∀ e ∈ K, e.1 ≠ b) : ygw' b K = none := by
 unfold ygw'
 have : K.find? (fun e => decide (e.1 = b)) = none := List.find?_eq_none.2 fun e he => by simpa using h e he
 rw [this]
 rfl
theorem yfw' {S : ShardS} {id : Int} (h0 : 1 ≤ id) (h1 : id ≤ 9223372036854775807) {ops : List OpS} (hf : ∀ o ∈ ops, FitO o) (hk : ∀ e ∈ S.known, ∃ c, getC (putC c) = some c ∧ e.1 = putC c ∧ (c.kind ≠ 1 ∨ c.id ≠ id)) :
  yav' S (putC (locC id ops)) = if mayS 1 id ops = 0 then (⟨1, id, (ybg' S.p 1 id ops).1, 0, 0, [], false⟩, { S with p := (ybg' S.p 1 id ops).2, played := S.played + 1, known := S.known ++ [(putC (locC id ops), ⟨1, id, (ybg' S.p 1 id ops).1, 0, 0, [], false⟩)] })
   else (badO, { S with played := S.played + 1 }) := by
 have hg := yli' h0 h1 hf
 unfold yav'
 by_cases hm : mayS 1 id ops = 0
 ·rw [if_pos hm] at hg
  have hl : ygw' (putC (locC id ops)) S.known = none := yhu' fun e he => by
   obtain ⟨c, c1, c2, c3⟩ := hk e he
   rw [c2]
   exact yt4' c1 hg c3
  rw [hg, if_pos hm]
  dsimp only
  rw [hl]
  dsimp only
  unfold doC
  rw [if_pos (show (locC id ops).kind = 1 from rfl)]
  rfl
 ·rw [if_neg hm] at hg
  rw [hg, if_neg hm]
theorem yqc' {S : ShardS} {id : Int} (h0 : 1 ≤ id) (h1 : id ≤ 9223372036854775807) {ops : List OpS} (hf : ∀ o ∈ ops, FitO o) (hk : ∀ e ∈ S.known, ∃ c, getC (putC c) = some c ∧ e.1 = putC c ∧ (c.kind ≠ 2 ∨ c.id ≠ id)) :
  yav' S (putC (preC id ops)) = if mayS 1 id ops = 0 then (⟨2, id, ye1', (ydf' S.p id 1 ops).1.1, (ydf' S.p id 1 ops).1.2, [], false⟩, { S with p := (ydf' S.p id 1 ops).2, played := S.played + 1, known := S.known ++ [(putC (preC id ops), ⟨2, id, ye1', (ydf' S.p id 1 ops).1.1, (ydf' S.p id 1 ops).1.2, [], false⟩)] })
   else (badO, { S with played := S.played + 1 }) := by
 have hg := ylj' h0 h1 hf
 unfold yav'
 by_cases hm : mayS 1 id ops = 0
 ·rw [if_pos hm] at hg
  have hl : ygw' (putC (preC id ops)) S.known = none := yhu' fun e he => by
   obtain ⟨c, c1, c2, c3⟩ := hk e he
   rw [c2]
   exact yt4' c1 hg c3
  rw [hg, if_pos hm]
  dsimp only
  rw [hl]
  dsimp only
  unfold doC
  rw [if_neg (show ¬ (preC id ops).kind = 1 by show ¬ (2 : Int) = 1; decide), if_pos (show (preC id ops).kind = 2 from rfl)]
  rfl
 ·rw [if_neg hm] at hg
  rw [hg, if_neg hm]
theorem yl1' {S : ShardS} {id : Int} (h0 : 0 ≤ id) (h1 : id ≤ 9223372036854775807) (yes : Bool) (hk : ∀ e ∈ S.known, ∃ c, getC (putC c) = some c ∧ e.1 = putC c ∧ (c.kind ≠ 4 ∨ c.id ≠ id)) :
  yav' S (putC (decC id yes)) = (⟨4, id, ye1', (ya9' S.p id yes).1.2, 0, (ya9' S.p id yes).1.1, false⟩, { S with p := (ya9' S.p id yes).2, played := S.played + 1, known := S.known ++ [(putC (decC id yes), ⟨4, id, ye1', (ya9' S.p id yes).1.2, 0, (ya9' S.p id yes).1.1, false⟩)] }) := by
 have hg := ylh' h0 h1 yes
 unfold yav'
 have hl : ygw' (putC (decC id yes)) S.known = none := yhu' fun e he => by
  obtain ⟨c, c1, c2, c3⟩ := hk e he
  rw [c2]
  exact yt4' c1 hg c3
 rw [hg]
 dsimp only
 rw [hl]
 dsimp only
 unfold doC
 rw [if_neg (show ¬ (decC id yes).kind = 1 by show ¬ (4 : Int) = 1; decide), if_neg (show ¬ (decC id yes).kind = 2 by show ¬ (4 : Int) = 2; decide), if_neg (show ¬ (decC id yes).kind = 3 by show ¬ (4 : Int) = 3; decide), if_pos (show (decC id yes).kind = 4 from rfl)]
 rfl
end Go.Proofs.YtcnkifbjlihaoaaGreatDoor

namespace Go.Av
open Go.RowKit
def yih' (ops : List OpS) : List Bs := ops.flatMap yaz'
theorem yr0' {o : OpS} (h : ybo' o.p = true) : ∀ p ∈ yaz' o, ybo' p = true := by
 intro p hp
 unfold yaz' at hp
 split at hp
 ·rw [List.mem_singleton] at hp; rw [hp]; exact h
 ·rename_i up hup
  split at hp
  ·rcases List.mem_cons.1 hp with hp | hp
   ·rw [hp]; exact h
   ·rw [List.mem_singleton] at hp; rw [hp]; exact yo2' hup
  ·rw [List.mem_singleton] at hp; rw [hp]; exact h
theorem ysz' {o : OpS} (h : yb9' o = 0) : ybo' o.p = true := (ydc' (yds' h).1).2.2.1
theorem yto' (p : Bs) : ydp' p p = true := by unfold ydp'; simp
theorem ygc' {H : yby'} {who : Int} {p : Bs} (h : ybp' H who p = false) (hg : ybo' p = true) : ∀ e ∈ H, e.2 ≠ who → ydp' p e.1 = false := by
 intro e he hw
 unfold ybp' at h
 rw [hg, Bool.true_and] at h
 have := List.any_eq_false.1 h e he
 cases hn : ydp' p e.1 with
 | false => rfl
 | true => exact absurd (by simp [hw, hn]) this
theorem yqu' {H : yby'} {id : Int} {ops : List OpS} (h : ydx' H id ops = none) : ∀ o ∈ ops, ∀ p ∈ yaz' o, ybp' H id p = false := by
 intro o ho p hp
 have h1 := List.findIdx?_eq_none_iff.1 h o ho
 have h2 := List.any_eq_false.1 h1 p hp
 simpa using h2
theorem ywv' {H : yby'} {p : Bs} {who : Int} {e : Bs × Int} (he : e ∈ H) (hne : e.1 ≠ p ∨ e.2 = who) : e ∈ setH H p who := by
 unfold setH
 by_cases h : (H.any fun e => decide (e.1 = p)) = true
 ·rw [if_pos h]
  refine List.mem_map.2 ⟨e, he, ?_⟩
  by_cases hp : e.1 = p
  ·rw [if_pos hp]
   rcases hne with h1 | h1
   ·exact absurd hp h1
   ·rw [← h1, ← hp]
  ·rw [if_neg hp]
 ·rw [if_neg h]
  exact List.mem_append_left _ he
theorem ymy' {who : Int} {e : Bs × Int} : ∀ (ps : List Bs) {H : yby'}, e ∈ H → ((∀ p ∈ ps, e.1 ≠ p) ∨ e.2 = who) → e ∈ ps.foldl (fun H p => setH H p who) H
 | [], _, h, _ => h
 | p :: ps, H, h, hne => ymy' ps (ywv' h (hne.imp (fun g => g p k_s) id)) (hne.imp (fun g q hq => g q (k_n _ hq)) id)
theorem yk5' {H : yby'} {who : Int} {ps : List Bs} (h : ¬ (ydq' H who ps).isSome = true) : ∀ p ∈ ps, ybo' p = true ∧ ybp' H who p = false := by
 unfold ydq' at h
 split at h
 ·exact absurd rfl h
 ·rename_i h1
  intro p hp
  have a := List.find?_eq_none.1 h1 p hp
  have b := List.find?_eq_none.1 (by cases hq : ps.find? (fun p => ybp' H who p) with | none => rfl | some _ => rw [hq] at h; exact absurd rfl h) p hp
  exact ⟨by simpa using a, by simpa using b⟩
theorem yuv' {H : yby'} {who : Int} {ps : List Bs} {e : Bs × Int} (he : e ∈ H) : e ∈ ydi' H who ps := by
 unfold ydi'
 split
 ·exact he
 ·rename_i h
  refine ymy' ps he ?_
  by_cases hw : e.2 = who
  ·exact .inr hw
  ·refine .inl fun p hp e1 => ?_
   obtain ⟨g1, g2⟩ := yk5' h p hp
   have := ygc' g2 g1 e he hw
   rw [e1, yto'] at this
   cases this
theorem ym8' {W : yeh'} {id : Int} {x : WaitS} (h : yd1' W id = some x) : (id, x) ∈ W := by
 unfold yd1' at h
 obtain ⟨e, h1, h2⟩ := Option.map_eq_some_iff.1 h
 have h3 := List.find?_some h1
 have h4 : e.1 = id := by simpa using h3
 have h5 := List.mem_of_find?_eq_some h1
 rw [← h4, ← h2]
 exact h5
theorem yti' {W : yeh'} {id : Int} {x : WaitS} {e : Int × WaitS} (h : yd1' W id = some x) : yd1' (W ++ [e]) id = some x := by
 unfold yd1' at h ⊢
 obtain ⟨y, h1, h2⟩ := Option.map_eq_some_iff.1 h
 rw [List.find?_append, h1]
 exact congrArg some h2
theorem ytg' {W : yeh'} {id i : Int} (hne : i ≠ id) : yd1' (delW W id) i = yd1' W i := by
 unfold yd1' delW
 rw [List.find?_filter]
 congr 1
 congr 1
 funext e
 by_cases h : e.1 = i
 ·simp [h, hne]
 ·simp [h]
def yhn' (e : Int × WaitS) : Nat := if e.2.fails then 0 else yap' e.2.ops
theorem yci' (e : Int × WaitS) (W : yeh') : ya6' (e :: W) = yhn' e + ya6' W := by unfold ya6' yhn'; rw [List.map_cons, List.sum_cons]
theorem yod' (W : yeh') (e : Int × WaitS) : ya6' (W ++ [e]) = ya6' W + yhn' e := by
 unfold ya6' yhn'
 rw [List.map_append, List.sum_append]
 simp
theorem yk3' (id : Int) : ∀ W : yeh', ya6' (delW W id) ≤ ya6' W
 | [] => Nat.le_refl _
 | e :: W => by
  have ih := yk3' id W
  unfold delW at ih ⊢
  rw [List.filter_cons]
  split
  ·rw [yci', yci']; omega
  ·rw [yci']; omega
theorem yjr' {id : Int} {x : WaitS} : ∀ {W : yeh'}, yd1' W id = some x → ya6' (delW W id) + yhn' (id, x) ≤ ya6' W
 | [], h => by cases h
 | e :: W, h => by
  by_cases he : e.1 = id
  ·have h1 : yd1' (e :: W) id = some e.2 := by unfold yd1'; rw [List.find?_cons]; simp [he]
   rw [h1] at h
   injection h with h
   have h2 : delW (e :: W) id = delW W id := by unfold delW; rw [List.filter_cons, if_neg (by simp [he])]
   have h3 := yk3' id W
   rw [h2, yci']
   have h4 : yhn' (id, x) = yhn' e := by unfold yhn'; rw [← h]
   omega
  ·have hb : (e.1 == id) = false := by simpa using he
   have h1 : yd1' (e :: W) id = yd1' W id := by unfold yd1'; rw [List.find?_cons, hb]
   rw [h1] at h
   have ih := yjr' h
   have h2 : delW (e :: W) id = e :: delW W id := by unfold delW; rw [List.filter_cons, if_pos (by simp [he])]
   rw [h2, yci', yci']
   omega
theorem yoe' {e : Int × WaitS} : ∀ {W : yeh'}, e ∈ W → yhn' e ≤ ya6' W
 | y :: W, h => by
  rw [yci']
  rcases List.mem_cons.1 h with rfl | h
  ·omega
  ·have := yoe' h; omega
theorem ymo' (o : OpS) (l : List OpS) : yap' (o :: l) = (if o.kind = 1 then 1 else 0) + yap' l := by
 have := yc8' [o] l
 rw [ydy'] at this
 exact this
theorem yn3' {sess z : Int} : ∀ (l : List OpS) (S : TreeS), (yao' sess z l S).2.1.l.length ≤ S.l.length + yap' l
 | [], _ => Nat.le_refl _
 | o :: l, S => by
  have h1 := yst' S o sess z
  have h2 := yn3' (sess := sess) (z := z) l (doT S o sess z).2
  rw [ymo']
  unfold yao'
  split
  ·dsimp only; omega
  ·dsimp only; omega
theorem yp4' (S : TreeS) (sess z : Int) (l : List OpS) : (ya2' S sess z l).2.1.l.length ≤ S.l.length + yap' l := by
 unfold ya2'
 split
 ·dsimp only; omega
 ·split
  ·dsimp only; omega
  ·split
   ·dsimp only; omega
   ·exact yn3' l S
theorem yo5' (S : TreeS) (sess num z : Int) (l : List OpS) : (yas' S sess num z l).2.l.length ≤ S.l.length + yap' l := by
 unfold yas'
 split
 ·dsimp only; omega
 ·exact yp4' S sess z l
def OwnK (s : Int) (S S' : TreeS) : Prop := ∀ p n, yaj' p S'.l = some n → n.owner = s → ∃ n0, yaj' p S.l = some n0 ∧ n0.owner = s
theorem OwnK.rfl (s : Int) (S : TreeS) : OwnK s S S := fun _ n h ho => ⟨n, h, ho⟩
theorem OwnK.trans {s : Int} {X Y Z : TreeS} (h : OwnK s X Y) (h2 : OwnK s Y Z) : OwnK s X Z := fun p n hn ho => by
 obtain ⟨m, h3, h4⟩ := h2 p n hn ho
 exact h p m h3 h4
theorem y0o' {K : Nat} {S : TreeS} (hB : TreeB K S) (o : OpS) {sess s : Int} (z : Int) (hs : 0 < s) (hne : s ≠ sess) : OwnK s S (doT S o sess z).2 := by
 unfold doT
 split
 ·exact .rfl s S
 ·split
  ·exact .rfl s S
  ·split
   ·unfold yb3'
    split
    ·exact .rfl s S
    ·rename_i hz
     obtain ⟨a1, -⟩ := yd2' (S := S) (o := o) (by omega)
     intro p n hn ho
     have hn : yaj' p (layT (ya3' S o).2 (yoo' o sess z) S.l) = some n := hn
     rw [ydb' p _ _ hB.rise a1] at hn
     split at hn
     ·exfalso
      injection hn with hn
      rw [← hn] at ho
      have ho : (if ephF o.flags then sess else 0) = s := ho
      split at ho <;> omega
     ·split at hn
      ·obtain ⟨m, h1, h2⟩ := Option.map_eq_some_iff.1 hn
       exact ⟨m, h1, by rw [← ho, ← h2, yfp']⟩
      ·exact ⟨n, hn, ho⟩
   ·split
    ·unfold ybv'
     split
     ·exact .rfl s S
     ·rename_i n0 hn0
      split
      ·exact .rfl s S
      ·split
       ·exact .rfl s S
       ·split
        ·intro p n hn ho
         have hn : yaj' p (remT o.p S.l) = some n := hn
         rw [yc2'] at hn
         split at hn
         ·cases hn
         ·split at hn
          ·obtain ⟨m, h1, h2⟩ := Option.map_eq_some_iff.1 hn
           exact ⟨m, h1, by rw [← ho, ← h2, yeu']⟩
          ·exact ⟨n, hn, ho⟩
        ·split
         ·intro p n hn ho
          have hn : yaj' p (setT o.p (yc7' n0 z o.data) S.l) = some n := hn
          rw [ycp'] at hn
          split at hn
          ·rename_i e
           rw [hn0] at hn
           injection hn with hn
           rw [e]
           exact ⟨n0, hn0, by rw [← ho, ← hn]; rfl⟩
          ·exact ⟨n, hn, ho⟩
         ·exact .rfl s S
    ·exact .rfl s S
theorem ynj' {sess z s : Int} (hs : 0 < s) (hne : s ≠ sess) : ∀ (l : List OpS) {K : Nat} {S : TreeS}, TreeB K S → OwnK s S (yao' sess z l S).2.1
 | [], _, S, _ => .rfl s S
 | o :: l, K, S, hB => by
  have h1 := y0o' hB o z hs hne
  unfold yao'
  split
  ·exact h1
  ·exact h1.trans (ynj' hs hne l (do_b hB o sess z))
theorem yqa' {K : Nat} {S : TreeS} (hB : TreeB K S) (l : List OpS) {sess s : Int} (z : Int) (hs : 0 < s) (hne : s ≠ sess) : OwnK s S (ya2' S sess z l).2.1 := by
 unfold ya2'
 split
 ·exact .rfl s S
 ·split
  ·exact .rfl s S
  ·split
   ·exact .rfl s S
   ·exact ynj' hs hne l hB
theorem yo0' {K : Nat} {S : TreeS} (hB : TreeB K S) (l : List OpS) {sess s : Int} (num z : Int) (hs : 0 < s) (hne : s ≠ sess) : OwnK s S (yas' S sess num z l).2 := by
 unfold yas'
 split
 ·exact .rfl s S
 ·exact yqa' hB l z hs hne
theorem ytv' (s : Int) : ∀ (l : List Bs) (S : TreeS), OwnK s S (purT l S)
 | [], S => .rfl s S
 | p :: l, S => by
  refine OwnK.trans (Y := { S with l := remT p S.l }) (fun q n hn ho => ?_) (ytv' s l _)
  have hn : yaj' q (remT p S.l) = some n := hn
  rw [yc2'] at hn
  split at hn
  ·cases hn
  ·split at hn
   ·obtain ⟨m, h1, h2⟩ := Option.map_eq_some_iff.1 hn
    exact ⟨m, h1, by rw [← ho, ← h2, yeu']⟩
   ·exact ⟨n, hn, ho⟩
theorem yo1' {K K' : Nat} {s : Int} {S S' : TreeS} (h : OwnK s S S') (hB : TreeB K S) (hB' : TreeB K' S') : ∀ p ∈ ofT S' s, p ∈ ofT S s := by
 intro p hp
 obtain ⟨n, h1, h2, h3⟩ := yxx'.1 hp
 obtain ⟨m, h4, h5⟩ := h p n ((ybt' (ybj' hB'.rise)).2 h1) h3
 exact yxx'.2 ⟨m, (ybt' (ybj' hB.rise)).1 h4, h2, h5⟩
structure Fore (ops : List OpS) (X : TreeS) (S : PartS) : Prop where
 look : yd1' S.wait 7 = some ⟨1, ops, false, false⟩
 held : ∀ p ∈ yih' ops, (p, (7 : Int)) ∈ S.held
 sim : Sim (yih' ops) X S.t
 room : S.t.room = X.room
 others : ∀ e ∈ S.wait, e.1 ≠ 7 → e.2.close = false → ∀ o ∈ e.2.ops, ∀ p ∈ yaz' o, FarW (yih' ops) p
 closes : ∀ e ∈ S.wait, e.2.close = true → 0 < e.2.sess ∧ e.2.ops = [] ∧ ∀ p ∈ ofT S.t e.2.sess, FarW (yih' ops) p
 sess : ∀ e ∈ S.wait, e.2.close = true → ∀ e' ∈ S.wait, e'.2.close = false → e.2.sess ≠ e'.2.sess
 cap : yap' ops = 0 ∨ ((S.t.l.length + ya6' S.wait : Nat) : Int) ≤ S.t.room ∨ (S.t.l.length ≤ X.l.length ∧ ∀ e ∈ S.wait, e.1 ≠ 7 → yhn' e = 0)
theorem Fore.in_ {ops : List OpS} {X : TreeS} {S : PartS} (h : Fore ops X S) : ((7 : Int), (⟨1, ops, false, false⟩ : WaitS)) ∈ S.wait := ym8' h.look
theorem Fore.want {ops : List OpS} {X : TreeS} {S : PartS} (h : Fore ops X S) : yap' ops ≤ ya6' S.wait := yoe' h.in_
theorem ysg' {S : PartS} {id sess : Int} {ops : List OpS} (h : ¬ (ycz' S id sess ops).1 ≠ 0) : yc0' S.wait sess = false ∧ ydx' S.held id ops = none ∧ ¬ (0 < yap' ops ∧ 0 < ya6' S.wait ∧ S.t.room < ya6' S.wait + S.t.l.length + yap' ops) := by
 unfold ycz' at h
 split at h
 ·exact absurd (by show (11 : Int) ≠ 0; decide) h
 ·split at h
  ·exact absurd (by show (12 : Int) ≠ 0; decide) h
  ·rename_i h2
   split at h
   ·exact absurd (by show (12 : Int) ≠ 0; decide) h
   ·rename_i h3
    split at h
    ·exact absurd (by show (12 : Int) ≠ 0; decide) h
    ·rename_i h4
     exact ⟨by simpa using h2, h3, h4⟩
theorem Fore.far {ops : List OpS} {X : TreeS} {S : PartS} (h : Fore ops X S) {id sess : Int} {l : List OpS} (hid : id ≠ 7) (hb : ¬ (ycz' S id sess l).1 ≠ 0) (hg : ∀ o ∈ l, yb9' o = 0) : ∀ o ∈ l, ∀ p ∈ yaz' o, FarW (yih' ops) p := by
 intro o ho p hp q hq
 have h1 := yqu' (ysg' hb).2.1 o ho p hp
 exact ygc' h1 (yr0' (ysz' (hg o ho)) p hp) _ (h.held q hq) (fun e => hid e.symm)
theorem yqz' {W : yeh'} {sess : Int} (h : yc0' W sess = false) : ∀ e ∈ W, e.2.close = true → e.2.sess ≠ sess := by
 intro e he hc hs
 have := List.any_eq_false.1 h e he
 rw [hc, hs] at this
 simp at this
theorem Fore.local {K : Nat} {ops : List OpS} {X : TreeS} {S : PartS} (h : Fore ops X S) (hB : PartB K S) (sess num : Int) (l : List OpS) : Fore ops X (ybg' S sess num l).2 := by
 unfold ybg'
 split
 ·exact h
 ·rename_i hm
  split
  ·exact ⟨h.look, h.held, h.sim, h.room, h.others, h.closes, h.sess, h.cap⟩
  ·rename_i hb
   have hg := yfb' (by simpa using hm : mayS sess num l = 0)
   have hf := h.far (by decide) hb hg.2
   obtain ⟨b1, b2, b3⟩ := ysg' hb
   have hr := yns' hB.tree sess num (S.zxid + 1) l
   refine ⟨h.look, h.held, h.sim.keep (ym2' hB.tree hf _ _ _), (yfj' ..).trans h.room, h.others, fun e he hc => ?_, h.sess, ?_⟩
   ·obtain ⟨c1, c2, c3⟩ := h.closes e he hc
    exact ⟨c1, c2, fun p hp => c3 p (yo1' (yo0' hB.tree l num (S.zxid + 1) c1 (yqz' b1 e he hc)) hB.tree hr p hp)⟩
   ·have hlen := yo5' S.t sess num (S.zxid + 1) l
    have hw := h.want
    show _ ∨ (((yas' S.t sess num (S.zxid + 1) l).2.l.length + ya6' S.wait : Nat) : Int) ≤ (yas' S.t sess num (S.zxid + 1) l).2.room ∨ ((yas' S.t sess num (S.zxid + 1) l).2.l.length ≤ X.l.length ∧ _)
    rw [yfj']
    by_cases h0 : yap' ops = 0
    ·exact .inl h0
    ·right
     by_cases hc : yap' l = 0
     ·rcases h.cap with h2 | h2 | h2
      ·exact absurd h2 h0
      ·left; omega
      ·right; exact ⟨by omega, h2.2⟩
     ·left; omega
theorem Fore.close {K : Nat} {ops : List OpS} {X : TreeS} {S : PartS} (h : Fore ops X S) (hB : PartB K S) {id : Int} (hid : id ≠ 7) (sess : Int) : Fore ops X (ycl' S id sess).2 := by
 unfold ycl'
 split
 ·exact h
 ·rename_i hk
  split
  ·exact h
  ·split
   ·exact h
   ·rename_i hu
    split
    ·exact h
    ·rename_i hw
     have hs : 0 < sess := by
      unfold yce' at hk
      simp only [Bool.or_eq_true, decide_eq_true_eq, not_or] at hk
      omega
     have huse : ∀ e ∈ S.wait, e.2.sess ≠ sess := fun e he hh => by
      have hu : yn9' S.wait sess = false := by simpa using hu
      have := List.any_eq_false.1 hu e he
      rw [hh] at this
      simp at this
     refine ⟨yti' h.look, fun p hp => yuv' (h.held p hp), h.sim, h.room, fun e he h7 hc => ?_, fun e he hc => ?_, fun e he hc e' he' hc' => ?_, ?_⟩
     ·rcases List.mem_append.1 he with he | he
      ·exact h.others e he h7 hc
      ·rw [List.mem_singleton] at he; rw [he] at hc; cases hc
     ·rcases List.mem_append.1 he with he | he
      ·exact h.closes e he hc
      ·rw [List.mem_singleton] at he
       rw [he]
       refine ⟨hs, rfl, fun p hp q hq => ?_⟩
       obtain ⟨g1, g2⟩ := yk5' hw p hp
       exact ygc' g2 g1 _ (h.held q hq) (fun e => hid e.symm)
     ·rcases List.mem_append.1 he with he | he
      ·rcases List.mem_append.1 he' with he' | he'
       ·exact h.sess e he hc e' he' hc'
       ·rw [List.mem_singleton] at he'; rw [he'] at hc'; cases hc'
      ·rcases List.mem_append.1 he' with he' | he'
       ·rw [List.mem_singleton] at he; rw [he]; exact (huse e' he').symm
       ·rw [List.mem_singleton] at he'; rw [he'] at hc'; cases hc'
     ·show _ ∨ ((S.t.l.length + ya6' (S.wait ++ [_]) : Nat) : Int) ≤ S.t.room ∨ (S.t.l.length ≤ X.l.length ∧ ∀ e ∈ S.wait ++ [_], _)
      have hcost : yhn' (id, ⟨sess, [], true, false⟩) = 0 := rfl
      rw [yod', hcost, Nat.add_zero]
      refine h.cap.imp (fun h => h) (Or.imp (fun h => h) fun h2 => ⟨h2.1, fun e he h7 => ?_⟩)
      rcases List.mem_append.1 he with he | he
      ·exact h2.2 e he h7
      ·rw [List.mem_singleton] at he; rw [he]; rfl
theorem Fore.decide {K : Nat} {ops : List OpS} {X : TreeS} {S : PartS} (h : Fore ops X S) (hB : PartB K S) {id : Int} (hid : id ≠ 7) (commit : Bool) : Fore ops X (ya9' S id commit).2 := by
 have hlk : yd1' (delW S.wait id) 7 = some ⟨1, ops, false, false⟩ := (ytg' (fun e => hid e.symm)).trans h.look
 have hw : ∀ e ∈ delW S.wait id, e ∈ S.wait := fun e he => (List.mem_filter.1 he).1
 have hhd : ∀ p ∈ yih' ops, (p, (7 : Int)) ∈ ydd' S.held id := fun p hp => List.mem_filter.2 ⟨h.held p hp, by simpa using fun e => hid e.symm⟩
 have hoth : ∀ e ∈ delW S.wait id, e.1 ≠ 7 → e.2.close = false → ∀ o ∈ e.2.ops, ∀ p ∈ yaz' o, FarW (yih' ops) p := fun e he => h.others e (hw e he)
 have hss : ∀ e ∈ delW S.wait id, e.2.close = true → ∀ e' ∈ delW S.wait id, e'.2.close = false → e.2.sess ≠ e'.2.sess := fun e he hc e' he' => h.sess e (hw e he) hc e' (hw e' he')
 unfold ya9'
 split
 ·exact h
 ·rename_i x hx
  have hxm := ym8' hx
  have hless := yjr' hx
  split
  ·refine ⟨hlk, hhd, h.sim, h.room, hoth, fun e he => h.closes e (hw e he), hss, h.cap.imp (fun h => h) (Or.imp (fun h2 => ?_) fun h2 => ⟨h2.1, fun e he => h2.2 e (hw e he)⟩)⟩
   show ((S.t.l.length + ya6' (delW S.wait id) : Nat) : Int) ≤ S.t.room
   omega
  ·rename_i hcf
   split
   ·rename_i hxc
    obtain ⟨c1, c2, c3⟩ := h.closes _ hxm hxc
    have hl := yt2' (yet' (ofT S.t x.sess)) S.t
    have hfar : ∀ p ∈ yet' (ofT S.t x.sess), FarW (yih' ops) p := fun p hp => c3 p (by
     unfold yet' at hp
     obtain ⟨d, -, hd⟩ := List.mem_flatMap.1 hp
     exact (List.mem_filter.1 hd).1)
    refine ⟨hlk, hhd, h.sim.keep (yp0' _ hfar), (yit' _ _).trans h.room, hoth, fun e he hc => ?_, hss, ?_⟩
    ·obtain ⟨d1, d2, d3⟩ := h.closes e (hw e he) hc
     exact ⟨d1, d2, fun p hp => d3 p (yo1' (ytv' _ _ _) hB.tree (yqf' _ hB.tree) p hp)⟩
    ·show _ ∨ (((purT (yet' (ofT S.t x.sess)) S.t).l.length + ya6' (delW S.wait id) : Nat) : Int) ≤ (purT (yet' (ofT S.t x.sess)) S.t).room ∨ ((purT (yet' (ofT S.t x.sess)) S.t).l.length ≤ X.l.length ∧ _)
     rw [yit']
     refine h.cap.imp (fun h => h) (Or.imp (fun h2 => by omega) fun h2 => ⟨by omega, fun e he => h2.2 e (hw e he)⟩)
   ·rename_i hxc
    have hxc : x.close = false := by simpa using hxc
    have hxf : x.fails = false := by
     cases hxx : x.fails with
     | false => rfl
     | true => rw [hxx] at hcf; simp at hcf
    have hfar := h.others _ hxm hid hxc
    have hcost : yhn' (id, x) = yap' x.ops := by unfold yhn'; rw [hxf]; rfl
    have hl := yp4' S.t x.sess (S.zxid + 1) x.ops
    refine ⟨hlk, hhd, h.sim.keep (ym1' hB.tree hfar _ _), (ygy' ..).trans h.room, hoth, fun e he hc => ?_, hss, ?_⟩
    ·obtain ⟨d1, d2, d3⟩ := h.closes e (hw e he) hc
     exact ⟨d1, d2, fun p hp => d3 p (yo1' (yqa' hB.tree x.ops (S.zxid + 1) d1 (h.sess e (hw e he) hc _ hxm hxc)) hB.tree (ytk' hB.tree _ _ _) p hp)⟩
    ·show _ ∨ (((ya2' S.t x.sess (S.zxid + 1) x.ops).2.1.l.length + ya6' (delW S.wait id) : Nat) : Int) ≤ (ya2' S.t x.sess (S.zxid + 1) x.ops).2.1.room ∨ ((ya2' S.t x.sess (S.zxid + 1) x.ops).2.1.l.length ≤ X.l.length ∧ _)
     rw [ygy']
     refine h.cap.imp (fun h => h) (Or.imp (fun h2 => by omega) fun h2 => ⟨?_, fun e he => h2.2 e (hw e he)⟩)
     have := h2.2 _ hxm hid
     omega
theorem ykv' {sess z : Int} : ∀ (l : List OpS) {K : Nat} {S : TreeS}, TreeB K S → ydr' S → (∀ o ∈ l, yb9' o = 0) → (yao' sess z l S).2.2 = 0 → ∀ r ∈ (yao' sess z l S).1, r.err = 0 ∧ r.path.data.toList ≠ []
 | [], _, _, _, _, _, _, r, hr => by cases hr
 | o :: l, K, S, hB, hG, hg, h, r, hr => by
  have h0 := yjo' h
  rw [yh3' l h0] at h hr
  rcases List.mem_cons.1 hr with rfl | hr
  ·refine ⟨h0, ?_⟩
   have hne : ∀ p : Bs, ybo' p = true → p ≠ [] := fun p hp e => by rw [e] at hp; cases hp
   have hgo := ysz' (hg o k_s)
   have hop : o.path.data.toList ≠ [] := hne o.p hgo
   unfold doT at h0 ⊢
   by_cases h1 : yb9' o ≠ 0
   ·exact absurd (hg o k_s) h1
   rw [if_neg h1] at h0 ⊢
   by_cases h2 : sess < 1 ∨ z < 0
   ·rw [if_pos h2] at h0; exact absurd h0 (by show (1 : Int) ≠ 0; decide)
   rw [if_neg h2] at h0 ⊢
   by_cases h3 : o.kind = 1
   ·rw [if_pos h3] at h0 ⊢
    unfold yb3' at h0 ⊢
    by_cases h4 : (ya3' S o).1 ≠ 0
    ·rw [if_pos h4] at h0; exact absurd h0 h4
    rw [if_neg h4]
    have := ytz' hgo (by omega : (ya3' S o).1 = 0)
    exact hne _ this
   rw [if_neg h3] at h0 ⊢
   by_cases h4 : o.kind = 2 ∨ o.kind = 3 ∨ o.kind = 4
   ·rw [if_pos h4] at h0 ⊢
    unfold ybv' at h0 ⊢
    cases hn : yaj' o.p S.l with
    | none => rw [hn] at h0; exact absurd h0 (by show (4 : Int) ≠ 0; decide)
    | some n =>
     rw [hn] at h0
     dsimp only at h0 ⊢
     by_cases g1 : ye9' o n = true
     ·rw [if_pos g1] at h0; exact absurd h0 (by show (6 : Int) ≠ 0; decide)
     rw [if_neg g1] at h0 ⊢
     by_cases g2 : o.kind = 2 ∧ 0 < n.names.length
     ·rw [if_pos g2] at h0; exact absurd h0 (by show (7 : Int) ≠ 0; decide)
     rw [if_neg g2]
     by_cases g3 : o.kind = 2
     ·rw [if_pos g3]; exact hop
     rw [if_neg g3]
     by_cases g4 : o.kind = 3
     ·rw [if_pos g4]; exact hop
     rw [if_neg g4]; exact hop
   rw [if_neg h4] at h0 ⊢
   unfold yil' at h0 ⊢
   cases hn : yaj' o.p S.l with
   | none => rw [hn] at h0; exact absurd h0 (by show (4 : Int) ≠ 0; decide)
   | some n => exact hop
  ·exact ykv' l (do_b hB o sess z) (do_g hG o sess z) (fun x hx => hg x (k_n _ hx)) h r hr
theorem Fore.done {K K' : Nat} {ops : List OpS} {X : TreeS} {S : PartS} {z : Int} (h : Fore ops X S) (hX : TreeB K X) (hB : PartB K' S) (hz : 0 ≤ S.zxid) (h0 : (yao' 1 z ops X).2.2 = 0) (hg : ∀ o ∈ ops, yb9' o = 0) (hne : ops ≠ []) (h16 : ops.length ≤ 16) :
  (ya9' S 7 true).1.2 = 0 ∧ (ya9' S 7 true).1.1.length = ops.length ∧ ∀ r ∈ (ya9' S 7 true).1.1, r.err = 0 ∧ r.path.data.toList ≠ [] := by
 have hs : (yao' 1 (S.zxid + 1) ops S.t).2.2 = 0 := by
  refine yn0' (by omega) ops h.sim hX hB.tree h.room (fun o ho p hp => List.mem_flatMap.2 ⟨o, ho, hp⟩) h0 ?_
  have hw := h.want
  rcases h.cap with h1 | h1 | h1
  ·left; have := hB.tree.len; omega
  ·left; omega
  ·right; exact h1.1
 have hm : ya2' S.t 1 (S.zxid + 1) ops = (⟨0, S.zxid + 1, 0, -1, (yao' 1 (S.zxid + 1) ops S.t).1⟩, (yao' 1 (S.zxid + 1) ops S.t).2.1, true) := by
  unfold ya2'
  rw [if_neg (by omega), if_neg (by intro e; exact hne (List.eq_nil_of_length_eq_zero e)), if_neg (fun hh => hh hs)]
 unfold ya9'
 rw [h.look]
 dsimp only
 rw [if_neg (by simp), if_neg (by simp), hm]
 refine ⟨rfl, yfn' ops _ hs, ?_⟩
 exact ykv' ops hB.tree hB.good hg hs
theorem Fore.not {ops : List OpS} {X : TreeS} {S : PartS} (h : Fore ops X S) : (ya9' S 7 false).1 = ([], 0) ∧ (ya9' S 7 false).2.t = S.t := by
 unfold ya9'
 rw [h.look]
 dsimp only
 rw [if_pos (by simp)]
 exact ⟨rfl, rfl⟩
end Go.Av

namespace Go.Av
open Go.RowKit
def ymc' (rs : List ResS) : Prop := rs.length ≤ 16 ∧ ∀ r ∈ rs, r.names.length ≤ 100000
theorem ybi' : ymc' [] := ⟨by simp, by simp⟩
theorem yvt' {K : Nat} {S : TreeS} (h : TreeB K S) (o : OpS) (sess zxid : Int) : (doT S o sess zxid).1.names.length ≤ K := by
 unfold doT
 split
 ·simp [yb8']
 ·split
  ·simp [yb8']
  ·split
   ·unfold yb3'
    split <;> simp [yb8']
   ·split
    ·unfold ybv'
     split
     ·simp [yb8']
     ·split
      ·simp [yb8']
      ·split
       ·simp [yb8']
       ·split
        ·simp
        ·split <;> simp
    ·unfold yil'
     split
     ·simp [yb8']
     ·rename_i n hn
      have h1 : ∃ e ∈ S.l, e.2 = n := by
       unfold yaj' at hn
       obtain ⟨e, he, rfl⟩ := Option.map_eq_some_iff.1 hn
       exact ⟨e, List.mem_of_find?_eq_some he, rfl⟩
      obtain ⟨e, he, rfl⟩ := h1
      have := (h.nodes e he).few
      dsimp only
      split
      ·exact this
      ·simp
theorem yjp' {sess zxid : Int} : ∀ (l : List OpS) {K : Nat} {S : TreeS}, TreeB K S → ∀ r ∈ (yao' sess zxid l S).1, r.names.length ≤ K + l.length
 | [], _, _, _, r, hr => by cases hr
 | o :: l, K, S, h, r, hr => by
  unfold yao' at hr
  split at hr
  ·cases hr
  ·rcases List.mem_cons.1 hr with rfl | hr
   ·have := yvt' h o sess zxid
    omega
   ·have := yjp' l (do_b h o sess zxid) r hr
    rw [List.length_cons]
    omega
theorem yfq' (num e at_ n : Int) : ymc' (yeo' num e at_ n).rs := by
 unfold yeo'
 dsimp only
 split
 ·exact ybi'
 ·refine ⟨by rw [yj8']; omega, fun r hr => ?_⟩
  unfold yf4' at hr
  obtain ⟨i, -, rfl⟩ := List.mem_map.1 hr
  simp [yb8']
theorem yp5' {K : Nat} {S : TreeS} (h : TreeB K S) (hK : K ≤ 90000) (sess zxid : Int) (ops : List OpS) : ymc' (ya2' S sess zxid ops).1.rs := by
 unfold ya2'
 split
 ·exact yfq' ..
 ·split
  ·exact yfq' ..
  ·split
   ·exact yfq' ..
   ·rename_i h1 h2 h3
    have h4 := yfn' (sess := sess) (zxid := zxid) ops S (by omega)
    refine ⟨by show (yao' sess zxid ops S).1.length ≤ 16; omega, fun r hr => ?_⟩
    have := yjp' ops h r hr
    omega
theorem yte' {K : Nat} {S : PartS} (h : PartB K S) (hK : K ≤ 1000) (sess num : Int) (ops : List OpS) : ymc' (ybg' S sess num ops).1.rs := by
 unfold ybg'
 split
 ·exact yfq' ..
 ·split
  ·dsimp only
   exact yfq' ..
  ·unfold yas'
   dsimp only
   split
   ·exact yfq' ..
   ·exact yp5' h.tree (by omega) ..
theorem yq5' {K : Nat} {S : PartS} (h : PartB K S) (hK : K ≤ 1000) (id : Int) (yes : Bool) : ymc' (ya9' S id yes).1.1 := by
 unfold ya9'
 split
 ·exact ybi'
 ·split
  ·exact ybi'
  ·split
   ·exact ybi'
   ·exact yp5' h.tree (by omega) ..
end Go.Av
namespace Go.Proofs.YtcnkifbjlihaoaaGreatDoor
open Go.RowKit Go.Av
def yr6' (o : OutS) : Prop := ymc' o.reply.rs ∧ ymc' o.rs
theorem yyn' : yr6' badO := ⟨ybi', ybi'⟩
theorem yse' (S : CoS) (id : Int) (l : List Int) : (yic' S id l).2.length ≤ S.length + 1 := by
 unfold yic'
 split
 ·exact Nat.le_succ _
 ·split
  ·exact Nat.le_succ _
  ·simp
theorem yl3' (id : Int) (φ : EntS → EntS) (S : CoS) : (putS id φ S).length = S.length := by unfold putS; rw [List.length_map]
theorem yxc' (S : CoS) (id k : Int) (ok : Bool) : (yoa' S id k ok).2.length = S.length := by
 unfold yoa'
 split
 ·rfl
 ·split
  ·rfl
  ·exact yl3' ..
theorem yvv' (S : CoS) (id k : Int) : (ymu' S id k).2.length = S.length := by
 unfold ymu'
 split
 ·rfl
 ·split
  ·rfl
  ·split
   ·rfl
   ·exact yl3' ..
theorem ysc' (S : CoS) (id : Int) : (yf3' S id).2.2.length = S.length := by
 unfold yf3'
 split
 ·rfl
 ·exact yl3' ..
structure ShB (K : Nat) (S : ShardS) : Prop where
 p : PartC K S.p
 c : S.c.length ≤ K
 known : ∀ e ∈ S.known, yr6' e.2
 played : 0 ≤ S.played ∧ S.played ≤ K
theorem ylv' (room : Int) (h : 1 ≤ room ∧ room ≤ 500) : ShB 0 (ycy' room) := ⟨y0l' room h, by simp [ycy'], by simp [ycy'], by simp [ycy']⟩
theorem y0e' {K : Nat} {S : ShardS} (hp : PartC K S.p) (hc : S.c.length ≤ K) (hK : K ≤ 1000) (c : CmdS) : yr6' (doC S c).1 ∧ PartC (K + 1) (doC S c).2.p ∧ (doC S c).2.c.length ≤ K + 1 ∧ (doC S c).2.known = S.known ∧ (doC S c).2.played = S.played := by
 have hp1 : PartC (K + 1) S.p := hp.mono (Nat.le_succ _)
 unfold doC
 split
 ·exact ⟨⟨yte' hp.b hK .., ybi'⟩, yza' hp .., Nat.le_succ_of_le hc, rfl, rfl⟩
 split
 ·exact ⟨⟨ybi', ybi'⟩, y0q' hp .., Nat.le_succ_of_le hc, rfl, rfl⟩
 split
 ·exact ⟨⟨ybi', ybi'⟩, yyr' hp .., Nat.le_succ_of_le hc, rfl, rfl⟩
 split
 ·exact ⟨⟨ybi', yq5' hp.b hK ..⟩, yvp' hp .., Nat.le_succ_of_le hc, rfl, rfl⟩
 split
 ·exact ⟨⟨ybi', ybi'⟩, hp1, by have := yse' S.c c.id c.shards; dsimp only; omega, rfl, rfl⟩
 split
 ·exact ⟨⟨ybi', ybi'⟩, hp1, by have := yxc' S.c c.id c.shard c.yes; dsimp only; omega, rfl, rfl⟩
 split
 ·exact ⟨⟨ybi', ybi'⟩, hp1, by have := yvv' S.c c.id c.shard; dsimp only; omega, rfl, rfl⟩
 ·exact ⟨⟨ybi', ybi'⟩, hp1, by have := ysc' S.c c.id; dsimp only; omega, rfl, rfl⟩
theorem yjb' {b : Bs} {K : List (Bs × OutS)} {o : OutS} (h : ygw' b K = some o) : (b, o) ∈ K := by
 unfold ygw' at h
 obtain ⟨e, he, rfl⟩ := Option.map_eq_some_iff.1 h
 have h1 := List.find?_some he
 have h2 : e.1 = b := of_decide_eq_true h1
 rw [← h2]
 exact List.mem_of_find?_eq_some he
theorem yf5' {K : Nat} {S : ShardS} (h : ShB K S) (hK : K ≤ 1000) (b : Bs) : yr6' (yav' S b).1 ∧ ShB (K + 1) (yav' S b).2 := by
 have h0 : ShB (K + 1) { S with played := S.played + 1 } := ⟨h.p.mono (Nat.le_succ _), Nat.le_succ_of_le h.c, h.known, by have := h.played; dsimp only; omega⟩
 unfold yav'
 split
 ·exact ⟨yyn', h0⟩
 ·rename_i c hc
  split
  ·rename_i o ho
   exact ⟨h.known _ (yjb' ho), h0⟩
  ·obtain ⟨a1, a2, a3, a4, a5⟩ := y0e' (S := { S with played := S.played + 1 }) h.p h.c hK c
   refine ⟨a1, ⟨a2, a3, fun e he => ?_, ?_⟩⟩
   ·rcases List.mem_append.1 he with he | he
    ·exact h.known e he
    ·rw [List.mem_singleton] at he
     rw [he]
     exact a1
   ·show 0 ≤ (doC { S with played := S.played + 1 } c).2.played ∧ _
    rw [a5]
    exact h0.played
theorem ysy' {b : Bs} {c : CmdS} (h : getC b = some c) : 1 ≤ c.kind ∧ c.kind ≤ 8 := by
 unfold getC at h
 split at h
 ·rename_i hc
  injection h with h
  subst h
  obtain ⟨h1, h2, h3⟩ := hc
  by_cases hk : 1 ≤ (rawC b).1.kind ∧ (rawC b).1.kind ≤ 8
  ·exact hk
  ·exfalso
   have hp : putC (rawC b).1 = [] := by
    unfold putC
    rw [if_neg (by omega), if_neg (by omega), if_neg (by omega), if_neg (by omega), if_neg (by omega), if_neg (by omega), if_neg (by omega), if_neg (by omega)]
   rw [hp] at h3
   subst h3
   revert h2
   decide
 ·cases h
def y02' (S S' : ShardS) : Prop := S.p = S'.p ∧ S.c = S'.c ∧ S.known = S'.known
theorem ytf' {b : Bs} {K : List (Bs × OutS)} (o : OutS) (h : ygw' b K = none) : ygw' b (K ++ [(b, o)]) = some o := by
 unfold ygw' at h ⊢
 have h1 : K.find? (fun e => decide (e.1 = b)) = none := by
  cases hf : K.find? (fun e => decide (e.1 = b)) with
  | none => rfl
  | some e => rw [hf] at h; cases h
 rw [List.find?_append, h1]
 simp
theorem yrl' (S : ShardS) (b : Bs) : (yav' (yav' S b).2 b).1 = (yav' S b).1 ∧ y02' (yav' (yav' S b).2 b).2 (yav' S b).2 := by
 cases hg : getC b with
 | none =>
  unfold yav'
  rw [hg]
  exact ⟨rfl, rfl, rfl, rfl⟩
 | some c =>
  cases hk : ygw' b S.known with
  | some o =>
   have e : yav' S b = (o, { S with played := S.played + 1 }) := by unfold yav'; rw [hg]; dsimp only; rw [hk]
   rw [e]
   dsimp only
   have e2 : yav' { S with played := S.played + 1 } b = (o, { S with played := S.played + 1 + 1 }) := by unfold yav'; rw [hg]; dsimp only; rw [hk]
   rw [e2]
   exact ⟨rfl, rfl, rfl, rfl⟩
  | none =>
   obtain ⟨q, hq⟩ : ∃ q, doC { S with played := S.played + 1 } c = q := ⟨_, rfl⟩
   have e : yav' S b = (q.1, { q.2 with known := S.known ++ [(b, q.1)] }) := by unfold yav'; rw [hg]; dsimp only; rw [hk, hq]
   rw [e]
   dsimp only
   have e2 : yav' { q.2 with known := S.known ++ [(b, q.1)] } b = (q.1, { q.2 with known := S.known ++ [(b, q.1)], played := q.2.played + 1 }) := by
    unfold yav'
    rw [hg]
    dsimp only
    rw [ytf' _ hk]
   rw [e2]
   exact ⟨rfl, rfl, rfl, rfl⟩
def yxy' (l : List Bs) (S : ShardS) : ShardS := l.foldl (fun S b => (yav' S b).2) S
theorem yqe' : ∀ (l : List Bs) {K : Nat} {S : ShardS}, ShB K S → K + l.length ≤ 1000 → ShB (K + l.length) (yxy' l S)
 | [], _, _, h, _ => h
 | b :: l, K, S, h, hK => by
  rw [List.length_cons] at hK ⊢
  have := yqe' l (yf5' h (by omega) b).2 (by omega)
  rw [show K + 1 + l.length = K + (l.length + 1) by omega] at this
  exact this
theorem ykk' : ∀ (l : List Bs) (b : Bs) (S : ShardS), ycm' (l ++ [b]) S = ((ycm' l S).1 ++ [(yav' (ycm' l S).2 b).1], (yav' (ycm' l S).2 b).2)
 | [], b, S => rfl
 | a :: l, b, S => by
  have ih := ykk' l b (yav' S a).2
  show ((yav' S a).1 :: (ycm' (l ++ [b]) (yav' S a).2).1, (ycm' (l ++ [b]) (yav' S a).2).2) = _
  rw [ih]
  rfl
theorem yqd' : ∀ (l : List Bs) (S : ShardS), (ycm' l S).2 = yxy' l S
 | [], S => rfl
 | a :: l, S => yqd' l (yav' S a).2
theorem ykl' : ∀ (l : List Bs) (S : ShardS), (ycm' l S).1.length = l.length
 | [], S => rfl
 | a :: l, S => by
  show (_ :: (ycm' l (yav' S a).2).1).length = _
  rw [List.length_cons, List.length_cons, ykl' l]
end Go.Proofs.YtcnkifbjlihaoaaGreatDoor

namespace Go.Proofs.YtcnkifbjlihaoaaGreatDoor
open Go.RowKit Go.Av
def cmdV (c : CmdS) (vo vs : Value) : Array Value := #[.int .i64 c.kind, .int .i64 c.id, .int .i64 c.sess, .int .i64 c.rs, .int .i64 c.rn, vo, vs, .int .i64 c.shard, .bool c.yes]
section
variable {w0 w : World} {P P' : List PRow} {R : List Thing} {rows : List (Value × Bs)}
set_option maxRecDepth 100000 in
set_option maxHeartbeats 8000000 in
theorem yb1' (h : Sep w0 w (yab' w0 P :: R) rows) (hd : DoorN w0) (c : CmdS) (vo vs : Value) (hvo : (5, vo, c.ops.flatMap OpS.cells) ∈ P) (hvs : (1, vs, c.shards.map ivn) ∈ P) (hp : ∀ o ∈ c.ops, o.path.size ≤ 100000) (hs : c.shards.length ≤ 1000) :
  Calls Tryz.prog 41 #[.agg (cmdV c vo vs)] w (yiw' w0 (putC c) (yab' w0 P :: R) rows) := by
 obtain ⟨E, hE⟩ := h.poolGet hvo
 obtain ⟨oa, on, oc, rfl, -⟩ := _root_.id hE
 obtain ⟨E, hE⟩ := h.poolGet hvs
 obtain ⟨sa, sn, sc, rfl, -⟩ := _root_.id hE
 have HV := Lib.hid (show _ ∧ _ ∧ _ ∧ _ from ⟨hvo, hvs, hp, hs⟩)
 have HX := Lib.hid h
 clear h hE hvo hvs hp hs
 obtain ⟨k0, id, sess, rs, rn, ops, shards, shard, yes⟩ := c
 unfold cmdV
 dsimp only at HV ⊢
 by_cases h1 : k0 = 1
 ·subst h1
  obtain ⟨bs, hbs⟩ : ∃ bs, putR rs rn ops = bs := ⟨_, rfl⟩
  have HB := Lib.hid (show _ ∧ _ from ⟨hbs, (by rw [← hbs]; exact yfx' rs rn ops : bs.length ≤ 19864)⟩)
  clear hbs
  go_enter Tryz.func41, Tryz.ntmps41
  go_wp2_with (first | refine u0 ?_ | (refine uS ?_; clear HX; intro w HX) | (refine uA ?_; clear HX; (first | (have hq := b2; clear hq; intro w b3 HX) | (have hq := b; clear hq; intro w b2 HX) | intro w b HX)))
  refine (ye8' (l := []) (xs := [1, id]) (n := 2) ((HX.out.newCell _).nilRow 1) rfl (by omega) (by simp)).mono ?_
  rintro e w ⟨v3, rfl, hx⟩
  rw [show ([] : Bs) ++ [1, id].flatMap yal' = yal' 1 ++ yal' id by simp] at hx
  replace HX := Lib.hid hx
  clear hx
  go_wp2_with (first | refine u0 ?_ | (refine uS ?_; clear HX; intro w HX) | (refine uA ?_; clear HX; (first | (have hq := b2; clear hq; intro w b3 HX) | (have hq := b; clear hq; intro w b2 HX) | intro w b HX)))
  refine (ynh' HX.out.up2 hd rs rn ops _ HV.out.1 HV.out.2.2.1).mono ?_
  rw [HB.out.1]
  rintro e w ⟨v4, rfl, hx⟩
  replace HX := Lib.hid hx
  clear hx
  go_wp2_with (first | refine u0 ?_ | (refine uS ?_; clear HX; intro w HX) | (refine uA ?_; clear HX; (first | (have hq := b2; clear hq; intro w b3 HX) | (have hq := b; clear hq; intro w b2 HX) | intro w b HX)) | (refine yx4' HX Tryz.underlying71 Tryz.underlying5 Tryz.underlying9 rfl rfl ?_; simp only [Act.put, k_a, k_b, k_c]))
  have hz : (⟨bs.toArray⟩ : ByteArray).size = bs.length := by show bs.toArray.size = _; simp
  refine (yl6' HX.out.up2 ⟨bs.toArray⟩ (by simp [ya0']) (by have := HB.out.2; omega)).mono ?_
  rintro e w ⟨v5, rfl, hx⟩
  replace HX := Lib.hid hx
  clear hx
  clear hz
  go_wp2_with (first | refine u0 ?_ | (refine uS ?_; clear HX; intro w HX) | (refine uA ?_; clear HX; (first | (have hq := b2; clear hq; intro w b3 HX) | (have hq := b; clear hq; intro w b2 HX) | intro w b HX)))
  go_ret
  refine ⟨v5, rfl, ?_⟩
  unfold putC
  rw [if_pos rfl]
  dsimp only
  rw [HB.out.1]
  exact HX.out.pm 4 [0, 2] rfl rfl
 have HLB := Lib.hid (show ∀ x : Int, (yal' k0 ++ yal' id).length = 16 from fun _ => by rw [List.length_append, ya0', ya0'])
 by_cases h2 : k0 = 2
 ·subst h2
  obtain ⟨bs, hbs⟩ : ∃ bs, putR sess id ops = bs := ⟨_, rfl⟩
  have HB := Lib.hid (show _ ∧ _ from ⟨hbs, (by rw [← hbs]; exact yfx' sess id ops : bs.length ≤ 19864)⟩)
  clear hbs h1 HLB
  go_enter Tryz.func41, Tryz.ntmps41
  go_wp2_with (first | refine u0 ?_ | (refine uS ?_; clear HX; intro w HX) | (refine uA ?_; clear HX; (first | (have hq := b2; clear hq; intro w b3 HX) | (have hq := b; clear hq; intro w b2 HX) | intro w b HX)))
  refine (ye8' (l := []) (xs := [2, id]) (n := 2) ((HX.out.newCell _).nilRow 1) rfl (by omega) (by simp)).mono ?_
  rintro e w ⟨v3, rfl, hx⟩
  rw [show ([] : Bs) ++ [2, id].flatMap yal' = yal' 2 ++ yal' id by simp] at hx
  replace HX := Lib.hid hx
  clear hx
  go_wp2_with (first | refine u0 ?_ | (refine uS ?_; clear HX; intro w HX) | (refine uA ?_; clear HX; (first | (have hq := b2; clear hq; intro w b3 HX) | (have hq := b; clear hq; intro w b2 HX) | intro w b HX)))
  refine rM (fun W => (∃ Ts, Sep w0 W (yac' b (.cells #[.int .i64 2, .int .i64 id, .int .i64 sess, .int .i64 rs, .int .i64 rn, .slice oa on oc, .slice sa sn sc, .int .i64 shard, .bool yes] 70 (0, 0)) :: yac' b2 (.cells #[.int .i64 sess, .int .i64 id, .slice oa on oc] 42 (0, 0)) :: Ts) rows)) 11 ?_
  intro KEEPX
  replace HX := Lib.hid HX.out.drew
  have hl : ∀ V, (∃ Ts, Sep w0 V (yac' b (.cells #[.int .i64 2, .int .i64 id, .int .i64 sess, .int .i64 rs, .int .i64 rn, .slice oa on oc, .slice sa sn sc, .int .i64 shard, .bool yes] 70 (0, 0)) :: yac' b2 (.cells #[.int .i64 sess, .int .i64 id, .slice oa on oc] 42 (0, 0)) :: Ts) rows) → (Instr.loadAt 2 (.pointer (some ⟨b, 2, none⟩))).run Tryz.prog V = .ok (.int .i64 sess) V := by
   rintro V ⟨Ts, hV⟩
   exact yae' (by kernel_rfl) (yaa' hV.blk 2 rfl)
  have hl2 : ∀ V, (∃ Ts, Sep w0 V (yac' b (.cells #[.int .i64 2, .int .i64 id, .int .i64 sess, .int .i64 rs, .int .i64 rn, .slice oa on oc, .slice sa sn sc, .int .i64 shard, .bool yes] 70 (0, 0)) :: yac' b2 (.cells #[.int .i64 sess, .int .i64 id, .slice oa on oc] 42 (0, 0)) :: Ts) rows) → (Instr.loadAt 68 (.pointer (some ⟨b, 6, none⟩))).run Tryz.prog V = .ok (.slice sa sn sc) V := by
   rintro V ⟨Ts, hV⟩
   exact yae' (by kernel_rfl) (yaa' hV.blk 6 rfl)
  have hl3 : ∀ V, (∃ Ts, Sep w0 V (yac' b (.cells #[.int .i64 2, .int .i64 id, .int .i64 sess, .int .i64 rs, .int .i64 rn, .slice oa on oc, .slice sa sn sc, .int .i64 shard, .bool yes] 70 (0, 0)) :: yac' b2 (.cells #[.int .i64 sess, .int .i64 id, .slice oa on oc] 42 (0, 0)) :: Ts) rows) → (Instr.loadAt 42 (.pointer (some ⟨b2, 0, none⟩))).run Tryz.prog V = .ok (.agg #[.int .i64 sess, .int .i64 id, .slice oa on oc]) V := by
   rintro V ⟨Ts, hV⟩
   exact ya4' sn_req.1 hV.up1.blk (Nat.le_refl 3)
  refine rT [(0, false), (1, false), (2, true), (4, false), (5, true), (7, true)] 6 ?_
  apply Exists.intro; refine ⟨?_, ⟨_, HX.out.up2⟩, ?_⟩
  ·iterate 6 (refine xE ?_)
   exact rfl
  clear hl hl2 hl3
  refine r1 5 3 fun K hK => ?_
  go_wp2_with fail
  refine (yi7' HX.out.up1 sess (by simp [ya0'])).mono ?_
  rintro e w ⟨v4, rfl, hx⟩
  replace HX := Lib.hid hx
  clear hx
  go_wp2_with fail
  refine hK _ _ ⟨_, HX.out.up1.up2⟩ ?_
  clear hK
  refine r1 4 6 fun K hK => ?_
  go_wp2_with fail
  refine (yh1' v4 _ (HX.out.up3.up1) _ shards HV.out.2.1 (by simp [ya0']) HV.out.2.2.2).mono ?_
  rintro e w ⟨v5, rfl, hx⟩
  replace HX := Lib.hid hx
  clear hx
  go_wp2_with fail
  refine hK _ _ ⟨_, HX.out.up2.up3⟩ ?_
  clear hK
  refine r1 3 8 fun K hK => ?_
  go_wp2_with fail
  refine (ynh' HX.out.up1 hd sess id ops _ HV.out.1 HV.out.2.2.1).mono ?_
  rw [HB.out.1]
  rintro e w ⟨v6, rfl, hx⟩
  replace HX := Lib.hid hx
  clear hx
  go_wp2_with fail
  refine hK _ _ ⟨_, HX.out.up3.up4⟩ ?_
  clear hK
  refine r1 2 9 fun K hK => ?_
  go_wp2_with (first | refine u0 ?_ | (refine uS ?_; clear HX; intro w HX) | (refine uA ?_; clear HX; (first | (have hq := b2; clear hq; intro w b3 HX) | (have hq := b; clear hq; intro w b2 HX) | intro w b HX)) | (refine yx4' HX Tryz.underlying71 Tryz.underlying5 Tryz.underlying9 rfl rfl ?_; simp only [Act.put, k_a, k_b, k_c]))
  refine hK _ _ ⟨_, HX.out.up3.up4⟩ ?_
  clear hK
  refine r1 1 10 fun K hK => ?_
  go_wp2_with fail
  have hz : (⟨bs.toArray⟩ : ByteArray).size = bs.length := by show bs.toArray.size = _; simp
  refine (yl6' HX.out.up2 ⟨bs.toArray⟩ (by have := HV.out.2.2.2; unfold shB; simp only [List.length_append, ya0', ygq']; omega) (by have := HB.out.2; omega)).mono ?_
  rintro e w ⟨v7, rfl, hx⟩
  replace HX := Lib.hid hx
  clear hx
  clear hz
  go_wp2_with fail
  refine hK _ _ ⟨_, HX.out.up3.up4⟩ ?_
  clear hK
  refine rL [11] 0 ?_
  simp only [List.filterMap_cons, List.filterMap_nil, k_i, k_j, k_k]
  go_wp2_with (first | refine u0 ?_ | (refine uS ?_; clear HX; intro w HX) | (refine uA ?_; clear HX; (first | (have hq := b2; clear hq; intro w b3 HX) | (have hq := b; clear hq; intro w b2 HX) | intro w b HX)))
  go_ret
  refine ⟨v7, rfl, ?_⟩
  unfold putC
  dsimp only
  rw [if_neg (show ¬ (2 : Int) = 1 by decide), if_pos rfl, HB.out.1]
  exact HX.out.pm 5 [0, 2] rfl rfl
 by_cases h3 : k0 = 3
 ·subst h3
  clear h1 h2 HLB
  go_enter Tryz.func41, Tryz.ntmps41
  go_wp2_with (first | refine u0 ?_ | (refine uS ?_; clear HX; intro w HX) | (refine uA ?_; clear HX; (first | (have hq := b2; clear hq; intro w b3 HX) | (have hq := b; clear hq; intro w b2 HX) | intro w b HX)))
  refine (ye8' (l := []) (xs := [3, id]) (n := 2) ((HX.out.newCell _).nilRow 1) rfl (by omega) (by simp)).mono ?_
  rintro e w ⟨v3, rfl, hx⟩
  rw [show ([] : Bs) ++ [3, id].flatMap yal' = yal' 3 ++ yal' id by simp] at hx
  replace HX := Lib.hid hx
  clear hx
  go_wp2_with (first | refine u0 ?_ | (refine uS ?_; clear HX; intro w HX) | (refine uA ?_; clear HX; (first | (have hq := b2; clear hq; intro w b3 HX) | (have hq := b; clear hq; intro w b2 HX) | intro w b HX)))
  refine rM (fun W => (∃ Ts, Sep w0 W (yac' b (.cells #[.int .i64 3, .int .i64 id, .int .i64 sess, .int .i64 rs, .int .i64 rn, .slice oa on oc, .slice sa sn sc, .int .i64 shard, .bool yes] 70 (0, 0)) :: Ts) rows)) 7 ?_
  intro KEEPX
  replace HX := Lib.hid HX.out.drew
  have hl : ∀ V, (∃ Ts, Sep w0 V (yac' b (.cells #[.int .i64 3, .int .i64 id, .int .i64 sess, .int .i64 rs, .int .i64 rn, .slice oa on oc, .slice sa sn sc, .int .i64 shard, .bool yes] 70 (0, 0)) :: Ts) rows) → (Instr.loadAt 2 (.pointer (some ⟨b, 2, none⟩))).run Tryz.prog V = .ok (.int .i64 sess) V := by
   rintro V ⟨Ts, hV⟩
   exact yae' (by kernel_rfl) (yaa' hV.blk 2 rfl)
  have hl2 : ∀ V, (∃ Ts, Sep w0 V (yac' b (.cells #[.int .i64 3, .int .i64 id, .int .i64 sess, .int .i64 rs, .int .i64 rn, .slice oa on oc, .slice sa sn sc, .int .i64 shard, .bool yes] 70 (0, 0)) :: Ts) rows) → (Instr.loadAt 68 (.pointer (some ⟨b, 6, none⟩))).run Tryz.prog V = .ok (.slice sa sn sc) V := by
   rintro V ⟨Ts, hV⟩
   exact yae' (by kernel_rfl) (yaa' hV.blk 6 rfl)
  refine rT [(0, false), (1, false), (2, true), (4, false), (5, true)] 3 ?_
  apply Exists.intro; refine ⟨?_, ⟨_, HX.out.up1⟩, ?_⟩
  ·iterate 5 (refine xE ?_)
   exact rfl
  clear hl hl2
  refine r1 2 3 fun K hK => ?_
  go_wp2_with fail
  refine (yi7' HX.out sess (by simp [ya0'])).mono ?_
  rintro e w ⟨v4, rfl, hx⟩
  replace HX := Lib.hid hx
  clear hx
  go_wp2_with fail
  refine hK _ _ ⟨_, HX.out.up1⟩ ?_
  clear hK
  refine r1 1 6 fun K hK => ?_
  go_wp2_with fail
  refine (yh1' v4 _ HX.out.up2.up1 _ shards HV.out.2.1 (by simp [ya0']) HV.out.2.2.2).mono ?_
  rintro e w ⟨v5, rfl, hx⟩
  replace HX := Lib.hid hx
  clear hx
  go_wp2_with fail
  refine hK _ _ ⟨_, HX.out.up2⟩ ?_
  clear hK
  refine rL [7] 0 ?_
  simp only [List.filterMap_cons, List.filterMap_nil, k_i, k_j, k_k]
  go_wp2_with (first | refine u0 ?_ | (refine uS ?_; clear HX; intro w HX) | (refine uA ?_; clear HX; (first | (have hq := b2; clear hq; intro w b3 HX) | (have hq := b; clear hq; intro w b2 HX) | intro w b HX)))
  go_ret
  refine ⟨v5, rfl, ?_⟩
  unfold putC
  dsimp only
  rw [if_neg (show ¬ (3 : Int) = 1 by decide), if_neg (show ¬ (3 : Int) = 2 by decide), if_pos rfl]
  exact HX.out.pm 3 [0, 1] rfl rfl
 by_cases h4 : k0 = 4
 ·subst h4
  clear h1 h2 h3 HLB
  go_enter Tryz.func41, Tryz.ntmps41
  go_wp2_with (first | refine u0 ?_ | (refine uS ?_; clear HX; intro w HX) | (refine uA ?_; clear HX; (first | (have hq := b2; clear hq; intro w b3 HX) | (have hq := b; clear hq; intro w b2 HX) | intro w b HX)))
  refine (ye8' (l := []) (xs := [4, id]) (n := 2) ((HX.out.newCell _).nilRow 1) rfl (by omega) (by simp)).mono ?_
  rintro e w ⟨v3, rfl, hx⟩
  rw [show ([] : Bs) ++ [4, id].flatMap yal' = yal' 4 ++ yal' id by simp] at hx
  replace HX := Lib.hid hx
  clear hx
  go_wp2_with (first | refine u0 ?_ | (refine uS ?_; clear HX; intro w HX) | (refine uA ?_; clear HX; (first | (have hq := b2; clear hq; intro w b3 HX) | (have hq := b; clear hq; intro w b2 HX) | intro w b HX)))
  refine (ysf' yes _).mono ?_
  rintro e w1 ⟨rfl, rfl⟩
  go_wp2_with (first | refine u0 ?_ | (refine uS ?_; clear HX; intro w HX) | (refine uA ?_; clear HX; (first | (have hq := b2; clear hq; intro w b3 HX) | (have hq := b; clear hq; intro w b2 HX) | intro w b HX)))
  refine (yi7' HX.out (bitI yes) (by simp [ya0'])).mono ?_
  rintro e w ⟨v5, rfl, hx⟩
  replace HX := Lib.hid hx
  clear hx
  go_wp2_with (first | refine u0 ?_ | (refine uS ?_; clear HX; intro w HX) | (refine uA ?_; clear HX; (first | (have hq := b2; clear hq; intro w b3 HX) | (have hq := b; clear hq; intro w b2 HX) | intro w b HX)))
  go_ret
  refine ⟨v5, rfl, ?_⟩
  unfold putC
  dsimp only
  rw [if_neg (show ¬ (4 : Int) = 1 by decide), if_neg (show ¬ (4 : Int) = 2 by decide), if_neg (show ¬ (4 : Int) = 3 by decide), if_pos rfl]
  exact HX.out.pm 3 [0, 2] rfl rfl
 by_cases h5 : k0 = 5
 ·subst h5
  clear h1 h2 h3 h4 HLB
  go_enter Tryz.func41, Tryz.ntmps41
  go_wp2_with (first | refine u0 ?_ | (refine uS ?_; clear HX; intro w HX) | (refine uA ?_; clear HX; (first | (have hq := b2; clear hq; intro w b3 HX) | (have hq := b; clear hq; intro w b2 HX) | intro w b HX)))
  refine (ye8' (l := []) (xs := [5, id]) (n := 2) ((HX.out.newCell _).nilRow 1) rfl (by omega) (by simp)).mono ?_
  rintro e w ⟨v3, rfl, hx⟩
  rw [show ([] : Bs) ++ [5, id].flatMap yal' = yal' 5 ++ yal' id by simp] at hx
  replace HX := Lib.hid hx
  clear hx
  go_wp2_with (first | refine u0 ?_ | (refine uS ?_; clear HX; intro w HX) | (refine uA ?_; clear HX; (first | (have hq := b2; clear hq; intro w b3 HX) | (have hq := b; clear hq; intro w b2 HX) | intro w b HX)))
  refine (yh1' v3 _ HX.out.up2.up1 _ shards HV.out.2.1 (by simp [ya0']) HV.out.2.2.2).mono ?_
  rintro e w ⟨v5, rfl, hx⟩
  replace HX := Lib.hid hx
  clear hx
  go_wp2_with (first | refine u0 ?_ | (refine uS ?_; clear HX; intro w HX) | (refine uA ?_; clear HX; (first | (have hq := b2; clear hq; intro w b3 HX) | (have hq := b; clear hq; intro w b2 HX) | intro w b HX)))
  go_ret
  refine ⟨v5, rfl, ?_⟩
  unfold putC
  dsimp only
  rw [if_neg (show ¬ (5 : Int) = 1 by decide), if_neg (show ¬ (5 : Int) = 2 by decide), if_neg (show ¬ (5 : Int) = 3 by decide), if_neg (show ¬ (5 : Int) = 4 by decide), if_pos rfl]
  exact HX.out.pm 3 [0, 1] rfl rfl
 by_cases h6 : k0 = 6
 ·subst h6
  clear h1 h2 h3 h4 h5 HLB
  go_enter Tryz.func41, Tryz.ntmps41
  go_wp2_with (first | refine u0 ?_ | (refine uS ?_; clear HX; intro w HX) | (refine uA ?_; clear HX; (first | (have hq := b2; clear hq; intro w b3 HX) | (have hq := b; clear hq; intro w b2 HX) | intro w b HX)))
  refine (ye8' (l := []) (xs := [6, id]) (n := 2) ((HX.out.newCell _).nilRow 1) rfl (by omega) (by simp)).mono ?_
  rintro e w ⟨v3, rfl, hx⟩
  rw [show ([] : Bs) ++ [6, id].flatMap yal' = yal' 6 ++ yal' id by simp] at hx
  replace HX := Lib.hid hx
  clear hx
  go_wp2_with (first | refine u0 ?_ | (refine uS ?_; clear HX; intro w HX) | (refine uA ?_; clear HX; (first | (have hq := b2; clear hq; intro w b3 HX) | (have hq := b; clear hq; intro w b2 HX) | intro w b HX)))
  refine rM (fun W => (∃ Ts, Sep w0 W (yac' b (.cells #[.int .i64 6, .int .i64 id, .int .i64 sess, .int .i64 rs, .int .i64 rn, .slice oa on oc, .slice sa sn sc, .int .i64 shard, .bool yes] 70 (0, 0)) :: Ts) rows)) 8 ?_
  intro KEEPX
  replace HX := Lib.hid HX.out.drew
  have hl : ∀ V, (∃ Ts, Sep w0 V (yac' b (.cells #[.int .i64 6, .int .i64 id, .int .i64 sess, .int .i64 rs, .int .i64 rn, .slice oa on oc, .slice sa sn sc, .int .i64 shard, .bool yes] 70 (0, 0)) :: Ts) rows) → (Instr.loadAt 3 (.pointer (some ⟨b, 7, none⟩))).run Tryz.prog V = .ok (.int .i64 shard) V := by
   rintro V ⟨Ts, hV⟩
   exact yae' (by kernel_rfl) (yaa' hV.blk 7 rfl)
  have hl2 : ∀ V, (∃ Ts, Sep w0 V (yac' b (.cells #[.int .i64 6, .int .i64 id, .int .i64 sess, .int .i64 rs, .int .i64 rn, .slice oa on oc, .slice sa sn sc, .int .i64 shard, .bool yes] 70 (0, 0)) :: Ts) rows) → (Instr.loadAt 4 (.pointer (some ⟨b, 8, none⟩))).run Tryz.prog V = .ok (.bool yes) V := by
   rintro V ⟨Ts, hV⟩
   exact yae' (by kernel_rfl) (yaa' hV.blk 8 rfl)
  refine rT [(0, false), (1, false), (2, true), (3, false), (4, true)] 4 ?_
  apply Exists.intro; refine ⟨?_, ⟨_, HX.out.up1⟩, ?_⟩
  ·iterate 5 (refine xE ?_)
   exact rfl
  clear hl hl2
  refine r1 3 5 fun K hK => ?_
  go_wp2_with fail
  refine (ysf' yes _).mono ?_
  rintro e w1 ⟨rfl, rfl⟩
  go_wp2_with fail
  refine hK _ _ ⟨_, HX.out.up1⟩ ?_
  clear hK
  refine r1 2 6 fun K hK => ?_
  go_wp2_with (first | refine u0 ?_ | (refine uS ?_; clear HX; intro w HX) | (refine uA ?_; clear HX; (first | (have hq := b2; clear hq; intro w b3 HX) | (have hq := b; clear hq; intro w b2 HX) | intro w b HX)))
  have hx : Sep w0 (w.alloc (.cells #[.int .i64 shard, .int .i64 (bitI yes)] 2 (0, 0))).drew (yac' w.heap.size (.cells #[.int .i64 shard, .int .i64 (bitI yes)] 2 (0, 0)) :: _) rows := HX.out.newCell (.cells #[.int .i64 shard, .int .i64 (bitI yes)] 2 (0, 0))
  generalize w.heap.size = cb at hx ⊢
  generalize (w.alloc (.cells #[.int .i64 shard, .int .i64 (bitI yes)] 2 (0, 0))).drew = w4 at hx ⊢
  replace HX := Lib.hid hx
  clear hx
  refine hK _ _ ⟨_, HX.out.up2⟩ ?_
  clear hK
  refine r1 1 7 fun K hK => ?_
  go_wp2_with fail
  refine (ye8' (xs := [shard, bitI yes]) (n := 2) HX.out.up1 rfl (by omega) (by simp [ya0'])).mono ?_
  rintro e w ⟨v5, rfl, hx⟩
  replace HX := Lib.hid hx
  clear hx
  go_wp2_with fail
  refine hK _ _ ⟨_, HX.out.up1⟩ ?_
  clear hK
  refine rL [8] 0 ?_
  simp only [List.filterMap_cons, List.filterMap_nil, k_i, k_j, k_k]
  go_wp2_with (first | refine u0 ?_ | (refine uS ?_; clear HX; intro w HX) | (refine uA ?_; clear HX; (first | (have hq := b2; clear hq; intro w b3 HX) | (have hq := b; clear hq; intro w b2 HX) | intro w b HX)))
  go_ret
  refine ⟨v5, rfl, ?_⟩
  unfold putC
  dsimp only
  rw [if_neg (show ¬ (6 : Int) = 1 by decide), if_neg (show ¬ (6 : Int) = 2 by decide), if_neg (show ¬ (6 : Int) = 3 by decide), if_neg (show ¬ (6 : Int) = 4 by decide), if_neg (show ¬ (6 : Int) = 5 by decide), if_pos rfl, show yal' 6 ++ yal' id ++ yal' shard ++ yal' (bitI yes) = yal' 6 ++ yal' id ++ [shard, bitI yes].flatMap yal' by simp]
  exact HX.out.pm 3 [0, 2] rfl rfl
 by_cases h7 : k0 = 7
 ·subst h7
  clear h1 h2 h3 h4 h5 h6 HLB
  go_enter Tryz.func41, Tryz.ntmps41
  go_wp2_with (first | refine u0 ?_ | (refine uS ?_; clear HX; intro w HX) | (refine uA ?_; clear HX; (first | (have hq := b2; clear hq; intro w b3 HX) | (have hq := b; clear hq; intro w b2 HX) | intro w b HX)))
  refine (ye8' (l := []) (xs := [7, id]) (n := 2) ((HX.out.newCell _).nilRow 1) rfl (by omega) (by simp)).mono ?_
  rintro e w ⟨v3, rfl, hx⟩
  rw [show ([] : Bs) ++ [7, id].flatMap yal' = yal' 7 ++ yal' id by simp] at hx
  replace HX := Lib.hid hx
  clear hx
  go_wp2_with (first | refine u0 ?_ | (refine uS ?_; clear HX; intro w HX) | (refine uA ?_; clear HX; (first | (have hq := b2; clear hq; intro w b3 HX) | (have hq := b; clear hq; intro w b2 HX) | intro w b HX)))
  refine (yi7' HX.out shard (by simp [ya0'])).mono ?_
  rintro e w ⟨v5, rfl, hx⟩
  replace HX := Lib.hid hx
  clear hx
  go_wp2_with (first | refine u0 ?_ | (refine uS ?_; clear HX; intro w HX) | (refine uA ?_; clear HX; (first | (have hq := b2; clear hq; intro w b3 HX) | (have hq := b; clear hq; intro w b2 HX) | intro w b HX)))
  go_ret
  refine ⟨v5, rfl, ?_⟩
  unfold putC
  dsimp only
  rw [if_neg (show ¬ (7 : Int) = 1 by decide), if_neg (show ¬ (7 : Int) = 2 by decide), if_neg (show ¬ (7 : Int) = 3 by decide), if_neg (show ¬ (7 : Int) = 4 by decide), if_neg (show ¬ (7 : Int) = 5 by decide), if_neg (show ¬ (7 : Int) = 6 by decide), if_pos rfl]
  exact HX.out.pm 3 [0, 2] rfl rfl
 by_cases h8 : k0 = 8
 ·subst h8
  clear h1 h2 h3 h4 h5 h6 h7 HLB
  go_enter Tryz.func41, Tryz.ntmps41
  go_wp2_with (first | refine u0 ?_ | (refine uS ?_; clear HX; intro w HX) | (refine uA ?_; clear HX; (first | (have hq := b2; clear hq; intro w b3 HX) | (have hq := b; clear hq; intro w b2 HX) | intro w b HX)))
  refine (ye8' (l := []) (xs := [8, id]) (n := 2) ((HX.out.newCell _).nilRow 1) rfl (by omega) (by simp)).mono ?_
  rintro e w ⟨v3, rfl, hx⟩
  rw [show ([] : Bs) ++ [8, id].flatMap yal' = yal' 8 ++ yal' id by simp] at hx
  replace HX := Lib.hid hx
  clear hx
  go_wp2_with (first | refine u0 ?_ | (refine uS ?_; clear HX; intro w HX) | (refine uA ?_; clear HX; (first | (have hq := b2; clear hq; intro w b3 HX) | (have hq := b; clear hq; intro w b2 HX) | intro w b HX)))
  go_ret
  refine ⟨v3, rfl, ?_⟩
  unfold putC
  dsimp only
  rw [if_neg (show ¬ (8 : Int) = 1 by decide), if_neg (show ¬ (8 : Int) = 2 by decide), if_neg (show ¬ (8 : Int) = 3 by decide), if_neg (show ¬ (8 : Int) = 4 by decide), if_neg (show ¬ (8 : Int) = 5 by decide), if_neg (show ¬ (8 : Int) = 6 by decide), if_neg (show ¬ (8 : Int) = 7 by decide), if_pos rfl]
  exact HX.out.pm 3 [0, 2] rfl rfl
 have q1 : (k0 == 1) = false := by rw [beq_eq_false_iff_ne]; exact h1
 have q2 : (k0 == 2) = false := by rw [beq_eq_false_iff_ne]; exact h2
 have q3 : (k0 == 3) = false := by rw [beq_eq_false_iff_ne]; exact h3
 have q4 : (k0 == 4) = false := by rw [beq_eq_false_iff_ne]; exact h4
 have q5 : (k0 == 5) = false := by rw [beq_eq_false_iff_ne]; exact h5
 have q6 : (k0 == 6) = false := by rw [beq_eq_false_iff_ne]; exact h6
 have q7 : (k0 == 7) = false := by rw [beq_eq_false_iff_ne]; exact h7
 have q8 : (k0 == 8) = false := by rw [beq_eq_false_iff_ne]; exact h8
 have HNO := Lib.hid (show putC ⟨k0, id, sess, rs, rn, ops, shards, shard, yes⟩ = [] by unfold putC; dsimp only; rw [if_neg h1, if_neg h2, if_neg h3, if_neg h4, if_neg h5, if_neg h6, if_neg h7, if_neg h8])
 clear h1 h2 h3 h4 h5 h6 h7 h8 HLB
 go_enter Tryz.func41, Tryz.ntmps41
 go_wp2_with (first | refine u0 ?_ | (refine uS ?_; clear HX; intro w HX) | (refine uA ?_; clear HX; (first | (have hq := b2; clear hq; intro w b3 HX) | (have hq := b; clear hq; intro w b2 HX) | intro w b HX)))
 refine (ye8' (l := []) (xs := [k0, id]) (n := 2) ((HX.out.newCell _).nilRow 1) rfl (by omega) (by simp)).mono ?_
 rintro e w ⟨v3, rfl, hx⟩
 rw [show ([] : Bs) ++ [k0, id].flatMap yal' = yal' k0 ++ yal' id by simp] at hx
 replace HX := Lib.hid hx
 clear hx
 go_wp2_with (first | refine u0 ?_ | (refine uS ?_; clear HX; intro w HX) | (refine uA ?_; clear HX; (first | (have hq := b2; clear hq; intro w b3 HX) | (have hq := b; clear hq; intro w b2 HX) | intro w b HX)))
 go_ret
 refine ⟨_, rfl, ?_⟩
 rw [HNO.out]
 exact (HX.out.pm 3 [2] rfl rfl).nilRow 1
end
end Go.Proofs.YtcnkifbjlihaoaaGreatDoor

namespace Go.Proofs.YtcnkifbjlihaoaaGreatDoor
open Go.RowKit Go.Av
theorem yie' {w W : World} (h : W.heap = w.heap) (a : Addr) : W.cell? a = w.cell? a := by unfold World.cell?; rw [h]
theorem yw2' {l1 l2 : Bs} {p : Nat} (h : l1.take p = l2.take p) (h1 : p < l1.length) (h2 : p < l2.length) (he : l1[p] = l2[p]) : l1.take (p + 1) = l2.take (p + 1) := by
 rw [List.take_succ_eq_append_getElem h1, List.take_succ_eq_append_getElem h2, h, he]
set_option maxRecDepth 100000 in
set_option maxHeartbeats 1000000 in
theorem yyz' (v1 v2 : Value) (l1 l2 : Bs) (E1 E2 : List Nat) (w : World) (h1 : ReadRow w 1 v1 (l1.map bv) E1) (h2 : ReadRow w 1 v2 (l2.map bv) E2) :
  Calls Tryz.prog 108 #[v1, v2] w fun e w' => e = .returned (.bool (decide (l1 = l2))) ∧ Upd w w' [] [] := by
 obtain ⟨a1, n1, c1, rfl, -⟩ := id h1
 obtain ⟨hn1, hnc1, hcm1, hcell1⟩ := yc4' h1
 obtain ⟨a2, n2, c2, rfl, -⟩ := id h2
 obtain ⟨hn2, hnc2, hcm2, hcell2⟩ := yc4' h2
 rw [List.length_map] at hn1 hn2
 subst hn1
 subst hn2
 unfold maxLen at hcm1 hcm2
 have HC1 := Lib.hid hcell1
 have HC2 := Lib.hid hcell2
 clear hcell1 hcell2 h1 h2
 by_cases hll : l1.length = l2.length
 case neg =>
  have hb : ((l1.length : Int) != (l2.length : Int)) = true := by simp; omega
  have HD := Lib.hid (show decide (l1 = l2) = false by simp; intro e; exact hll (by rw [e]))
  clear hll
  go_enter Tryz.func108, Tryz.ntmps108
  go_wp2_with fail
  go_ret
  rw [HD.out]
  exact ⟨rfl, Upd.refl _ _⟩
 have hb : ((l1.length : Int) != (l2.length : Int)) = false := by simp; omega
 have HLL := Lib.hid hll
 clear hll
 go_enter Tryz.func108, Tryz.ntmps108
 go_wp2_with fail
 go_loopg [5, 13] l1.length (fun k _ i wr => ∃ p : Nat, p ≤ l1.length ∧ k = l1.length - p ∧ i = .int .i64 (p : Int) ∧ l1.take p = l2.take p ∧ wr.heap = w.heap ∧ Upd w wr [] [])
 case atStart => exact ⟨0, Nat.zero_le _, rfl, rfl, rfl, rfl, Upd.refl _ _⟩
 case round =>
  obtain ⟨p, hp, hk, hv, ht, hh, hu⟩ := hrel
  subst hv
  by_cases hlt : p < l1.length
  ·have hlt2 : p < l2.length := by rw [← HLL.out]; exact hlt
   obtain ⟨x1, rfl, hs1, hx1⟩ := HC1.out (by omega)
   obtain ⟨x2, rfl, hs2, hx2⟩ := HC2.out (by omega)
   have k1 := fun (W : World) (hW : W.heap = wr.heap) => (yie' (hW.trans hh) _).trans (hx1 p (bv l1[p]) (by rw [List.getElem?_map, List.getElem?_eq_getElem hlt]; rfl))
   have k2 := fun (W : World) (hW : W.heap = wr.heap) => (yie' (hW.trans hh) _).trans (hx2 p (bv l2[p]) (by rw [List.getElem?_map, List.getElem?_eq_getElem hlt2]; rfl))
   obtain ⟨u1, hu1⟩ : ∃ u, l1[p] = u := ⟨_, rfl⟩
   obtain ⟨u2, hu2⟩ : ∃ u, l2[p] = u := ⟨_, rfl⟩
   rw [hu1] at k1
   rw [hu2] at k2
   unfold bv at k1 k2
   have HT := Lib.hid (show _ ∧ _ ∧ _ ∧ _ ∧ _ from ⟨ht, hu1, hu2, hh, hu⟩)
   clear hx1 hx2 ht hu1 hu2 hh hu
   obtain ⟨b, hbb⟩ : ∃ b, ((u1.toNat : Int) != (u2.toNat : Int)) = b := ⟨_, rfl⟩
   have HB := Lib.hid hbb
   go_wp2_with fail
   refine yaq' (fun W => W.heap = wr.heap) 9 (by kernel_rfl) ?_
   refine rT [(0, false), (1, false), (2, false), (3, true), (4, false), (5, false), (6, false), (7, true), (8, false)] 0 ?_
   apply Exists.intro; refine ⟨?_, rfl, ?_⟩
   ·iterate 9 ((first | (apply ycn'; (· (simp only [k_i, k_j, k_k]; try rfl)); (· rfl)) | ((first | apply ya5' | apply yay'); (· (simp only [k_i, k_j, k_k]; try rfl)); (· rfl); (· (intros; go_simp; try with_reducible rfl)))); (· (simp only [Act.put, k_a, k_b, k_c]; try rfl)))
    exact rfl
   refine yaf' (by kernel_rfl) ?_ _
   cases b with
   | true =>
    have hne : u1 ≠ u2 := by rintro rfl; have := HB.out; simp at this
    have HNE := Lib.hid hne
    clear hne
    go_wp2_with fail
    go_ret
    obtain ⟨ht, hu1, hu2, hh, hu⟩ := HT.out
    refine ⟨?_, hu.drew⟩
    have : decide (l1 = l2) = false := by
     simp
     intro e
     subst e
     exact HNE.out (hu1.symm.trans hu2)
    rw [this]
    rfl
   | false =>
    have heq : u1 = u2 := by have := HB.out; simp at this; exact UInt8.toNat_inj.1 (by omega)
    have HEQ := Lib.hid heq
    clear heq
    go_wp2_with fail
    go_roundg (l1.length - (p + 1))
    case rel =>
     obtain ⟨ht, hu1, hu2, hh, hu⟩ := HT.out
     exact ⟨p + 1, by omega, rfl, by go_num, yw2' ht hlt hlt2 (by rw [hu1, hu2, HEQ.out]), hh, hu.drew⟩
    case measure => omega
  ·obtain rfl : p = l1.length := by omega
   have HU := Lib.hid (show _ ∧ _ from ⟨ht, hu⟩)
   clear ht hu hh
   go_wp2_with fail
   go_ret
   obtain ⟨ht, hu⟩ := HU.out
   rw [List.take_length, HLL.out, List.take_length] at ht
   exact ⟨by simp [ht], hu⟩
theorem yy0' {w0 w : World} {P : List PRow} {R : List Thing} {rows : List (Value × Bs)} (h : Sep w0 w (yab' w0 P :: R) rows) {v1 v2 : Value} {l1 l2 : Bs} (h1 : (1, v1, l1.map bv) ∈ P) (h2 : (1, v2, l2.map bv) ∈ P) :
  Calls Tryz.prog 108 #[v1, v2] w fun e w' => e = .returned (.bool (decide (l1 = l2))) ∧ Sep w0 w' (yab' w0 P :: R) rows := by
 obtain ⟨E1, e1⟩ := h.poolGet h1
 obtain ⟨E2, e2⟩ := h.poolGet h2
 exact (yyz' v1 v2 l1 l2 E1 E2 w e1 e2).mono fun e w' hh => ⟨hh.1, h.keep hh.2⟩
end Go.Proofs.YtcnkifbjlihaoaaGreatDoor

namespace Go.Proofs.YtcnkifbjlihaoaaGreatDoor
open Go.RowKit Go.Av
section
variable {w0 w : World} {P P' : List PRow} {R : List Thing} {rows : List (Value × Bs)}
def ypj' : CmdS := ⟨0, 0, 0, 0, 0, [], [], 0, false⟩
def yu8' (w0 : World) (o : Option CmdS) (P : List PRow) (R : List Thing) (rows : List (Value × Bs)) (e : Ending) (w' : World) : Prop :=
 ∃ vo vs P', e = .returned (.tuple #[.agg (cmdV (o.getD ypj') vo vs), .int .i64 (if o.isSome then 0 else 3)]) ∧ (∀ z ∈ P, z ∈ P') ∧ (5, vo, (o.getD ypj').ops.flatMap OpS.cells) ∈ P' ∧ (1, vs, (o.getD ypj').shards.map ivn) ∈ P' ∧ Sep w0 w' (yab' w0 P' :: R) rows
theorem ye5' (t : Bs) : ∀ o ∈ (yc3' t).2.2, o.path.size ≤ 100000 := by
 unfold yc3' getR
 intro o ho
 split at ho
 ·have := yhw' _ _ o ho
  omega
 ·cases ho
theorem yo9' (d : Rd) : (shR d).1.length ≤ 1000 := by
 have h := yiz' (most := 4) (by omega) d
 unfold shR
 rw [yla']
 omega
theorem yah' {K : Nat} {v : Value} {xs : List Value} (h : Sep w0 w (yab' w0 P :: R) rows) (hv : (K, v, xs) ∈ P) : ∃ a n c, v = .slice a n c := by
 obtain ⟨E, hE⟩ := h.poolGet hv
 obtain ⟨a, n, c, e, -⟩ := hE
 exact ⟨a, n, c, e⟩
def yyb' (w0 : World) (l : Bs) (r b b2 b3 : Nat) (P : List PRow) (R : List Thing) (rows : List (Value × Bs)) (W : World) : Prop :=
 ∃ (c : CmdS) (d : Rd) (bad : Bool) (vo vs : Value) (P' : List PRow), rawC l = (c, d, bad) ∧ (∀ z ∈ P, z ∈ P') ∧ (5, vo, c.ops.flatMap OpS.cells) ∈ P' ∧ (1, vs, c.shards.map ivn) ∈ P' ∧ (∀ o ∈ c.ops, o.path.size ≤ 100000) ∧ c.shards.length ≤ 1000 ∧
  Sep w0 W (yd9' r d :: yac' b2 (.cells #[.pointer (some ⟨r, 0, none⟩), .bool bad] 180 (0, 0)) :: yab' w0 P' :: yac' b3 (.cells (cmdV c vo vs) 70 (0, 0)) :: yac' b (.cells (cmdV ypj' (.slice none 0 0) (.slice none 0 0)) 70 (0, 0)) :: R) rows
set_option maxRecDepth 100000 in
set_option maxHeartbeats 8000000 in
theorem yg9' (h : Sep w0 w (yab' w0 P :: R) rows) (hd : DoorN w0) (v : Value) (l : Bs) (hv : (1, v, l.map bv) ∈ P) (hl : l.length ≤ 1000000) :
  Calls Tryz.prog 39 #[v] w (yu8' w0 (getC l) P R rows) := by
 have HV := Lib.hid (show _ ∧ _ from ⟨hv, hl⟩)
 have HX := Lib.hid ((h.poolNil 5).poolNil 1)
 obtain ⟨o, ho⟩ : ∃ o, getC l = o := ⟨_, rfl⟩
 rw [ho]
 have HO := Lib.hid ho
 clear h hv hl ho
 obtain ⟨⟨k0, d1⟩, h1⟩ : ∃ x, i64R (l, false) = x := ⟨_, rfl⟩
 obtain ⟨⟨id, d2⟩, h2⟩ : ∃ x, i64R d1 = x := ⟨_, rfl⟩
 have HD := Lib.hid (show ylk' l = (k0, id, d2) by unfold ylk'; rw [h1]; dsimp only; rw [h2])
 have H1 := Lib.hid h1
 have H2 := Lib.hid h2
 clear h1 h2
 go_enter Tryz.func39, Tryz.ntmps39
 go_wp2_with (first | refine u0 ?_ | (refine uS ?_; clear HX; intro w HX) | (refine uA ?_; clear HX; (first | (have hq := b3; clear hq; intro w b4 HX) | (have hq := b2; clear hq; intro w b3 HX) | (have hq := b; clear hq; intro w b2 HX) | intro w b HX)))
 refine (ynr' HX.out.up1 v l (k_n _ (k_n _ HV.out.1)) HV.out.2).mono ?_
 rintro e w ⟨r, rfl, hx⟩
 replace HX := Lib.hid hx
 clear hx
 go_wp2_with (first | refine u0 ?_ | (refine uS ?_; clear HX; intro w HX) | (refine uA ?_; clear HX; (first | (have hq := b3; clear hq; intro w b4 HX) | (have hq := b2; clear hq; intro w b3 HX) | (have hq := b; clear hq; intro w b2 HX) | intro w b HX)))
 refine (ycj' HX.out.up1).mono ?_
 rw [H1.out]
 rintro e w ⟨rfl, hx⟩
 replace HX := Lib.hid hx
 clear hx
 go_wp2_with (first | refine u0 ?_ | (refine uS ?_; clear HX; intro w HX) | (refine uA ?_; clear HX; (first | (have hq := b3; clear hq; intro w b4 HX) | (have hq := b2; clear hq; intro w b3 HX) | (have hq := b; clear hq; intro w b2 HX) | intro w b HX)))
 refine (ycj' HX.out.up1).mono ?_
 rw [H2.out]
 rintro e w ⟨rfl, hx⟩
 replace HX := Lib.hid hx
 clear hx
 go_upto_block 0 with (first | refine u0 ?_ | (refine uS ?_; clear HX; intro w HX) | (refine uA ?_; clear HX; (first | (have hq := b3; clear hq; intro w b4 HX) | (have hq := b2; clear hq; intro w b3 HX) | (have hq := b; clear hq; intro w b2 HX) | intro w b HX)))
 go_cut [] (fun W => yyb' w0 l r b b2 b3 P R rows W)
 case first =>
  by_cases g1 : k0 = 1
  ·subst g1
   go_wp2_with (first | refine u0 ?_ | (refine uS ?_; clear HX; intro w HX) | (refine uA ?_; clear HX; (first | (have hq := b3; clear hq; intro w b4 HX) | (have hq := b2; clear hq; intro w b3 HX) | (have hq := b; clear hq; intro w b2 HX) | intro w b HX)))
   refine (yko' HX.out.up3.up3.up2 hd).mono ?_
   rintro e w ⟨vo, P3, rfl, hP3, hvo, hx⟩
   replace HX := Lib.hid hx
   clear hx
   obtain ⟨va, vn, vc, rfl⟩ := yah' HX.out.up2 hvo
   have HP := Lib.hid (show _ ∧ _ from ⟨hP3, hvo⟩)
   clear hP3 hvo
   go_wp2_with (first | refine u0 ?_ | (refine uS ?_; clear HX; intro w HX) | (refine uA ?_; clear HX; (first | (have hq := b3; clear hq; intro w b4 HX) | (have hq := b2; clear hq; intro w b3 HX) | (have hq := b; clear hq; intro w b2 HX) | intro w b HX)))
   go_meet
   refine ⟨⟨1, id, 0, (yc3' (ybq' 40000 d2).1).1, (yc3' (ybq' 40000 d2).1).2.1, (yc3' (ybq' 40000 d2).1).2.2, [], 0, false⟩, _, _, _, .slice none 0 0, _, ?_, fun z hz => HP.out.1 _ ((fun z hz => k_n _ (k_n _ hz)) z hz), HP.out.2, HP.out.1 _ k_s, ye5' _, by simp, HX.out⟩
   unfold rawC
   rw [HD.out]
   dsimp only
   rw [if_pos rfl, Bool.false_or]
  by_cases g2 : k0 = 2
  ·subst g2
   clear g1
   obtain ⟨⟨se, d3⟩, h3⟩ : ∃ x, i64R d2 = x := ⟨_, rfl⟩
   obtain ⟨⟨sl, d4⟩, h4⟩ : ∃ x, shR d3 = x := ⟨_, rfl⟩
   have hsl := yo9' d3
   rw [h4] at hsl
   have H34 := Lib.hid (show _ ∧ _ ∧ _ from ⟨h3, h4, hsl⟩)
   clear h3 h4 hsl
   go_wp2_with (first | refine u0 ?_ | (refine uS ?_; clear HX; intro w HX) | (refine uA ?_; clear HX; (first | (have hq := b3; clear hq; intro w b4 HX) | (have hq := b2; clear hq; intro w b3 HX) | (have hq := b; clear hq; intro w b2 HX) | intro w b HX)))
   refine (ycj' HX.out).mono ?_
   rw [H34.out.1]
   rintro e w ⟨rfl, hx⟩
   replace HX := Lib.hid hx
   clear hx
   go_wp2_with (first | refine u0 ?_ | (refine uS ?_; clear HX; intro w HX) | (refine uA ?_; clear HX; (first | (have hq := b3; clear hq; intro w b4 HX) | (have hq := b2; clear hq; intro w b3 HX) | (have hq := b; clear hq; intro w b2 HX) | intro w b HX)))
   refine (yfh' HX.out.up3.up3.up2).mono ?_
   rw [H34.out.2.1]
   rintro e w ⟨vs, P2, rfl, hP2, hvs, hx⟩
   replace HX := Lib.hid hx
   clear hx
   obtain ⟨sa, sn, sc, rfl⟩ := yah' HX.out.up2 hvs
   have HQ := Lib.hid (show _ ∧ _ from ⟨hP2, hvs⟩)
   clear hP2 hvs
   go_wp2_with (first | refine u0 ?_ | (refine uS ?_; clear HX; intro w HX) | (refine uA ?_; clear HX; (first | (have hq := b3; clear hq; intro w b4 HX) | (have hq := b2; clear hq; intro w b3 HX) | (have hq := b; clear hq; intro w b2 HX) | intro w b HX)))
   refine (yko' HX.out hd).mono ?_
   rintro e w ⟨vo, P3, rfl, hP3, hvo, hx⟩
   replace HX := Lib.hid hx
   clear hx
   obtain ⟨va, vn, vc, rfl⟩ := yah' HX.out.up2 hvo
   have HP := Lib.hid (show _ ∧ _ from ⟨hP3, hvo⟩)
   clear hP3 hvo
   go_wp2_with (first | refine u0 ?_ | (refine uS ?_; clear HX; intro w HX) | (refine uA ?_; clear HX; (first | (have hq := b3; clear hq; intro w b4 HX) | (have hq := b2; clear hq; intro w b3 HX) | (have hq := b; clear hq; intro w b2 HX) | intro w b HX)))
   go_meet
   refine ⟨⟨2, id, se, (yc3' (ybq' 40000 d4).1).1, (yc3' (ybq' 40000 d4).1).2.1, (yc3' (ybq' 40000 d4).1).2.2, sl, 0, false⟩, _, _, _, .slice sa sn sc, _, ?_, fun z hz => HP.out.1 _ (HQ.out.1 _ ((fun z hz => k_n _ (k_n _ hz)) z hz)), HP.out.2, HP.out.1 _ HQ.out.2, ye5' _, H34.out.2.2, HX.out⟩
   unfold rawC
   rw [HD.out]
   dsimp only
   rw [if_neg (by decide), if_pos rfl, H34.out.1]
   dsimp only
   rw [H34.out.2.1, Bool.false_or]
  by_cases g3 : k0 = 3
  ·subst g3
   clear g1 g2
   obtain ⟨⟨se, d3⟩, h3⟩ : ∃ x, i64R d2 = x := ⟨_, rfl⟩
   obtain ⟨⟨sl, d4⟩, h4⟩ : ∃ x, shR d3 = x := ⟨_, rfl⟩
   have hsl := yo9' d3
   rw [h4] at hsl
   have H34 := Lib.hid (show _ ∧ _ ∧ _ from ⟨h3, h4, hsl⟩)
   clear h3 h4 hsl
   go_wp2_with (first | refine u0 ?_ | (refine uS ?_; clear HX; intro w HX) | (refine uA ?_; clear HX; (first | (have hq := b3; clear hq; intro w b4 HX) | (have hq := b2; clear hq; intro w b3 HX) | (have hq := b; clear hq; intro w b2 HX) | intro w b HX)))
   refine (ycj' HX.out).mono ?_
   rw [H34.out.1]
   rintro e w ⟨rfl, hx⟩
   replace HX := Lib.hid hx
   clear hx
   go_wp2_with (first | refine u0 ?_ | (refine uS ?_; clear HX; intro w HX) | (refine uA ?_; clear HX; (first | (have hq := b3; clear hq; intro w b4 HX) | (have hq := b2; clear hq; intro w b3 HX) | (have hq := b; clear hq; intro w b2 HX) | intro w b HX)))
   refine (yfh' HX.out.up3.up3.up2).mono ?_
   rw [H34.out.2.1]
   rintro e w ⟨vs, P2, rfl, hP2, hvs, hx⟩
   replace HX := Lib.hid hx
   clear hx
   obtain ⟨sa, sn, sc, rfl⟩ := yah' HX.out.up2 hvs
   have HQ := Lib.hid (show _ ∧ _ from ⟨hP2, hvs⟩)
   clear hP2 hvs
   go_wp2_with (first | refine u0 ?_ | (refine uS ?_; clear HX; intro w HX) | (refine uA ?_; clear HX; (first | (have hq := b3; clear hq; intro w b4 HX) | (have hq := b2; clear hq; intro w b3 HX) | (have hq := b; clear hq; intro w b2 HX) | intro w b HX)))
   go_meet
   refine ⟨⟨3, id, se, 0, 0, [], sl, 0, false⟩, d4, false, .slice none 0 0, .slice sa sn sc, _, ?_, fun z hz => HQ.out.1 _ ((fun z hz => k_n _ (k_n _ hz)) z hz), HQ.out.1 _ (k_n _ k_s), HQ.out.2, by simp, H34.out.2.2, HX.out⟩
   unfold rawC
   rw [HD.out]
   dsimp only
   rw [if_neg (by decide), if_neg (by decide), if_pos rfl, H34.out.1]
   dsimp only
   rw [H34.out.2.1]
  by_cases g4 : k0 = 4
  ·subst g4
   clear g1 g2 g3
   go_wp2_with (first | refine u0 ?_ | (refine uS ?_; clear HX; intro w HX) | (refine uA ?_; clear HX; (first | (have hq := b3; clear hq; intro w b4 HX) | (have hq := b2; clear hq; intro w b3 HX) | (have hq := b; clear hq; intro w b2 HX) | intro w b HX)))
   refine (ynq' HX.out.up2.up1).mono ?_
   rintro e w ⟨rfl, hx⟩
   replace HX := Lib.hid hx
   clear hx
   go_wp2_with (first | refine u0 ?_ | (refine uS ?_; clear HX; intro w HX) | (refine uA ?_; clear HX; (first | (have hq := b3; clear hq; intro w b4 HX) | (have hq := b2; clear hq; intro w b3 HX) | (have hq := b; clear hq; intro w b2 HX) | intro w b HX)))
   go_meet
   refine ⟨⟨4, id, 0, 0, 0, [], [], 0, (cntR 1 d2).1 == 1⟩, _, false, .slice none 0 0, .slice none 0 0, _, ?_, fun z hz => k_n _ (k_n _ hz), k_n _ k_s, k_s, by simp, by simp, HX.out.pm 5 [0, 1, 3, 2, 4] rfl rfl⟩
   unfold rawC
   rw [HD.out]
   dsimp only
   rw [if_neg (by decide), if_neg (by decide), if_neg (by decide), if_pos rfl]
  by_cases g5 : k0 = 5
  ·subst g5
   clear g1 g2 g3 g4
   obtain ⟨⟨sl, d4⟩, h4⟩ : ∃ x, shR d2 = x := ⟨_, rfl⟩
   have hsl := yo9' d2
   rw [h4] at hsl
   have H34 := Lib.hid (show _ ∧ _ from ⟨h4, hsl⟩)
   clear h4 hsl
   go_wp2_with (first | refine u0 ?_ | (refine uS ?_; clear HX; intro w HX) | (refine uA ?_; clear HX; (first | (have hq := b3; clear hq; intro w b4 HX) | (have hq := b2; clear hq; intro w b3 HX) | (have hq := b; clear hq; intro w b2 HX) | intro w b HX)))
   refine (yfh' HX.out.up3.up3.up2).mono ?_
   rw [H34.out.1]
   rintro e w ⟨vs, P2, rfl, hP2, hvs, hx⟩
   replace HX := Lib.hid hx
   clear hx
   obtain ⟨sa, sn, sc, rfl⟩ := yah' HX.out.up2 hvs
   have HQ := Lib.hid (show _ ∧ _ from ⟨hP2, hvs⟩)
   clear hP2 hvs
   go_wp2_with (first | refine u0 ?_ | (refine uS ?_; clear HX; intro w HX) | (refine uA ?_; clear HX; (first | (have hq := b3; clear hq; intro w b4 HX) | (have hq := b2; clear hq; intro w b3 HX) | (have hq := b; clear hq; intro w b2 HX) | intro w b HX)))
   go_meet
   refine ⟨⟨5, id, 0, 0, 0, [], sl, 0, false⟩, d4, false, .slice none 0 0, .slice sa sn sc, _, ?_, fun z hz => HQ.out.1 _ ((fun z hz => k_n _ (k_n _ hz)) z hz), HQ.out.1 _ (k_n _ k_s), HQ.out.2, by simp, H34.out.2, HX.out⟩
   unfold rawC
   rw [HD.out]
   dsimp only
   rw [if_neg (by decide), if_neg (by decide), if_neg (by decide), if_neg (by decide), if_pos rfl]
   rw [H34.out.1]
  by_cases g6 : k0 = 6
  ·subst g6
   clear g1 g2 g3 g4 g5
   go_wp2_with (first | refine u0 ?_ | (refine uS ?_; clear HX; intro w HX) | (refine uA ?_; clear HX; (first | (have hq := b3; clear hq; intro w b4 HX) | (have hq := b2; clear hq; intro w b3 HX) | (have hq := b; clear hq; intro w b2 HX) | intro w b HX)))
   refine (ycw' HX.out 3 (by omega)).mono ?_
   rintro e w ⟨rfl, hx⟩
   replace HX := Lib.hid hx
   clear hx
   go_wp2_with (first | refine u0 ?_ | (refine uS ?_; clear HX; intro w HX) | (refine uA ?_; clear HX; (first | (have hq := b3; clear hq; intro w b4 HX) | (have hq := b2; clear hq; intro w b3 HX) | (have hq := b; clear hq; intro w b2 HX) | intro w b HX)))
   refine (ynq' HX.out.up2.up1).mono ?_
   rintro e w ⟨rfl, hx⟩
   replace HX := Lib.hid hx
   clear hx
   go_wp2_with (first | refine u0 ?_ | (refine uS ?_; clear HX; intro w HX) | (refine uA ?_; clear HX; (first | (have hq := b3; clear hq; intro w b4 HX) | (have hq := b2; clear hq; intro w b3 HX) | (have hq := b; clear hq; intro w b2 HX) | intro w b HX)))
   go_meet
   refine ⟨⟨6, id, 0, 0, 0, [], [], (cntR 3 d2).1, (cntR 1 (cntR 3 d2).2).1 == 1⟩, _, false, .slice none 0 0, .slice none 0 0, _, ?_, fun z hz => k_n _ (k_n _ hz), k_n _ k_s, k_s, by simp, by simp, HX.out.pm 5 [0, 1, 3, 2, 4] rfl rfl⟩
   unfold rawC
   rw [HD.out]
   dsimp only
   rw [if_neg (by decide), if_neg (by decide), if_neg (by decide), if_neg (by decide), if_neg (by decide), if_pos rfl]
  by_cases g7 : k0 = 7
  ·subst g7
   clear g1 g2 g3 g4 g5 g6
   go_wp2_with (first | refine u0 ?_ | (refine uS ?_; clear HX; intro w HX) | (refine uA ?_; clear HX; (first | (have hq := b3; clear hq; intro w b4 HX) | (have hq := b2; clear hq; intro w b3 HX) | (have hq := b; clear hq; intro w b2 HX) | intro w b HX)))
   refine (ycw' HX.out 3 (by omega)).mono ?_
   rintro e w ⟨rfl, hx⟩
   replace HX := Lib.hid hx
   clear hx
   go_wp2_with (first | refine u0 ?_ | (refine uS ?_; clear HX; intro w HX) | (refine uA ?_; clear HX; (first | (have hq := b3; clear hq; intro w b4 HX) | (have hq := b2; clear hq; intro w b3 HX) | (have hq := b; clear hq; intro w b2 HX) | intro w b HX)))
   go_meet
   refine ⟨⟨7, id, 0, 0, 0, [], [], (cntR 3 d2).1, false⟩, _, false, .slice none 0 0, .slice none 0 0, _, ?_, fun z hz => k_n _ (k_n _ hz), k_n _ k_s, k_s, by simp, by simp, HX.out.pm 5 [0, 2, 3, 1, 4] rfl rfl⟩
   unfold rawC
   rw [HD.out]
   dsimp only
   rw [if_neg (by decide), if_neg (by decide), if_neg (by decide), if_neg (by decide), if_neg (by decide), if_neg (by decide), if_pos rfl]
  have f1 : (k0 == 1) = false := by rw [beq_eq_false_iff_ne]; exact g1
  have f2 : (k0 == 2) = false := by rw [beq_eq_false_iff_ne]; exact g2
  have f3 : (k0 == 3) = false := by rw [beq_eq_false_iff_ne]; exact g3
  have f4 : (k0 == 4) = false := by rw [beq_eq_false_iff_ne]; exact g4
  have f5 : (k0 == 5) = false := by rw [beq_eq_false_iff_ne]; exact g5
  have f6 : (k0 == 6) = false := by rw [beq_eq_false_iff_ne]; exact g6
  have f7 : (k0 == 7) = false := by rw [beq_eq_false_iff_ne]; exact g7
  have HG := Lib.hid (show _ ∧ _ ∧ _ ∧ _ ∧ _ ∧ _ ∧ _ from ⟨g1, g2, g3, g4, g5, g6, g7⟩)
  clear g1 g2 g3 g4 g5 g6 g7
  go_wp2_with (first | refine u0 ?_ | (refine uS ?_; clear HX; intro w HX) | (refine uA ?_; clear HX; (first | (have hq := b3; clear hq; intro w b4 HX) | (have hq := b2; clear hq; intro w b3 HX) | (have hq := b; clear hq; intro w b2 HX) | intro w b HX)))
  go_meet
  refine ⟨⟨k0, id, 0, 0, 0, [], [], 0, false⟩, _, false, .slice none 0 0, .slice none 0 0, _, ?_, fun z hz => k_n _ (k_n _ hz), k_n _ k_s, k_s, by simp, by simp, HX.out.pm 5 [0, 2, 3, 1, 4] rfl rfl⟩
  unfold rawC
  rw [HD.out]
  dsimp only
  obtain ⟨g1, g2, g3, g4, g5, g6, g7⟩ := HG.out
  rw [if_neg g1, if_neg g2, if_neg g3, if_neg g4, if_neg g5, if_neg g6, if_neg g7]
 case rest =>
  obtain ⟨⟨k, i2, se, rs, rn, ops, shs, sd, ys⟩, d, bad, vo, vs, P', hr, hPP, hvo, hvs, hpa, hsh, hS⟩ := hcut
  obtain ⟨va, vn, vc, rfl⟩ := yah' hS.up2 hvo
  obtain ⟨sa, sn, sc, rfl⟩ := yah' hS.up2 hvs
  have HR := Lib.hid hr
  have HPP := Lib.hid (show _ ∧ _ ∧ _ ∧ _ ∧ _ from ⟨hPP, hvo, hvs, hpa, hsh⟩)
  clear HX hr hPP hvo hvs hpa hsh
  rename World => w
  have HX := Lib.hid hS.up2
  clear hS
  have HS := Lib.hid (fun (q : PRow) (h : q ∈ P') => h)
  unfold cmdV ypj' at HX
  dsimp only at HX HPP
  cases bad with
  | true =>
   obtain rfl : o = none := by
    rw [← HO.out]
    unfold getC
    rw [HR.out, if_neg]
    rintro ⟨h1, h2, h3⟩
    cases h1
   go_wp2_with (first | refine u0 ?_ | (refine uS ?_; clear HX; intro w HX) | (refine uA ?_; clear HX; (first | (have hq := b3; clear hq; intro w b4 HX) | (have hq := b2; clear hq; intro w b3 HX) | (have hq := b; clear hq; intro w b2 HX) | intro w b HX)))
   refine yd5' HX rfl rfl (by (repeat (first | (with_reducible exact k_s) | (with_reducible apply k_m)))) (by kernel_rfl) ?_
   exact ⟨.slice none 0 0, .slice none 0 0, _, rfl, fun z hz => k_n _ (k_n _ (HS.out _ (HPP.out.1 z hz))), k_n _ k_s, k_s, (HX.out.cut1.cut1.cut1.cut1.poolNil 5).poolNil 1⟩
  | false =>
   go_wp2_with (first | refine u0 ?_ | (refine uS ?_; clear HX; intro w HX) | (refine uA ?_; clear HX; (first | (have hq := b3; clear hq; intro w b4 HX) | (have hq := b2; clear hq; intro w b3 HX) | (have hq := b; clear hq; intro w b2 HX) | intro w b HX)))
   refine (ykn' HX.out.up1).mono ?_
   obtain ⟨ze, hze⟩ : ∃ z, endR d = z := ⟨_, rfl⟩
   have hze2 : (!d.2 && d.1.isEmpty) = ze := hze
   rw [hze2]
   rintro e w2 ⟨rfl, rfl⟩
   clear hze2
   have HZ := Lib.hid hze
   clear hze
   cases ze with
   | false =>
    obtain rfl : o = none := by
     rw [← HO.out]
     unfold getC
     rw [HR.out, if_neg]
     rintro ⟨h1, h2, h3⟩
     (rw [HZ.out] at h2; cases h2)
    go_wp2_with (first | refine u0 ?_ | (refine uS ?_; clear HX; intro w HX) | (refine uA ?_; clear HX; (first | (have hq := b3; clear hq; intro w b4 HX) | (have hq := b2; clear hq; intro w b3 HX) | (have hq := b; clear hq; intro w b2 HX) | intro w b HX)))
    refine yd5' HX rfl rfl (by (repeat (first | (with_reducible exact k_s) | (with_reducible apply k_m)))) (by kernel_rfl) ?_
    exact ⟨.slice none 0 0, .slice none 0 0, _, rfl, fun z hz => k_n _ (k_n _ (HS.out _ (HPP.out.1 z hz))), k_n _ k_s, k_s, (HX.out.cut1.cut1.cut1.cut1.poolNil 5).poolNil 1⟩
   | true =>
    go_wp2_with (first | refine u0 ?_ | (refine uS ?_; clear HX; intro w HX) | (refine uA ?_; clear HX; (first | (have hq := b3; clear hq; intro w b4 HX) | (have hq := b2; clear hq; intro w b3 HX) | (have hq := b; clear hq; intro w b2 HX) | intro w b HX)))
    refine (yb1' HX.out hd ⟨k, i2, se, rs, rn, ops, shs, sd, ys⟩ (.slice va vn vc) (.slice sa sn sc) HPP.out.2.1 HPP.out.2.2.1 HPP.out.2.2.2.1 HPP.out.2.2.2.2).mono ?_
    rintro e w ⟨v4, rfl, hx⟩
    have hx := hx.poolRow
    replace HX := Lib.hid hx
    clear hx
    go_wp2_with (first | refine u0 ?_ | (refine uS ?_; clear HX; intro w HX) | (refine uA ?_; clear HX; (first | (have hq := b3; clear hq; intro w b4 HX) | (have hq := b2; clear hq; intro w b3 HX) | (have hq := b; clear hq; intro w b2 HX) | intro w b HX)))
    refine (yy0' HX.out k_s (k_n _ (HPP.out.1 _ HV.out.1))).mono ?_
    obtain ⟨q, hq⟩ : ∃ q, decide (putC ⟨k, i2, se, rs, rn, ops, shs, sd, ys⟩ = l) = q := ⟨_, rfl⟩
    rw [hq]
    rintro e w ⟨rfl, hx⟩
    replace HX := Lib.hid hx
    clear hx
    have HQ := Lib.hid hq
    clear hq HS
    have HS := Lib.hid (fun (q : PRow) (h : q ∈ P') => List.mem_cons_of_mem (1, v4, (putC ⟨k, i2, se, rs, rn, ops, shs, sd, ys⟩).map bv) h)
    cases q with
    | false =>
     obtain rfl : o = none := by
      rw [← HO.out]
      unfold getC
      rw [HR.out, if_neg]
      rintro ⟨h1, h2, h3⟩
      exact of_decide_eq_false HQ.out h3
     go_wp2_with (first | refine u0 ?_ | (refine uS ?_; clear HX; intro w HX) | (refine uA ?_; clear HX; (first | (have hq := b3; clear hq; intro w b4 HX) | (have hq := b2; clear hq; intro w b3 HX) | (have hq := b; clear hq; intro w b2 HX) | intro w b HX)))
     refine yd5' HX rfl rfl (by (repeat (first | (with_reducible exact k_s) | (with_reducible apply k_m)))) (by kernel_rfl) ?_
     exact ⟨.slice none 0 0, .slice none 0 0, _, rfl, fun z hz => k_n _ (k_n _ (HS.out _ (HPP.out.1 z hz))), k_n _ k_s, k_s, (HX.out.cut1.cut1.cut1.cut1.poolNil 5).poolNil 1⟩
    | true =>
     obtain rfl : o = some ⟨k, i2, se, rs, rn, ops, shs, sd, ys⟩ := by
      rw [← HO.out]
      unfold getC
      rw [HR.out, if_pos ⟨rfl, HZ.out, of_decide_eq_true HQ.out⟩]
     go_wp2_with (first | refine u0 ?_ | (refine uS ?_; clear HX; intro w HX) | (refine uA ?_; clear HX; (first | (have hq := b3; clear hq; intro w b4 HX) | (have hq := b2; clear hq; intro w b3 HX) | (have hq := b; clear hq; intro w b2 HX) | intro w b HX)))
     refine yd5' HX rfl rfl (by (repeat (first | (with_reducible exact k_s) | (with_reducible apply k_m)))) (by kernel_rfl) ?_
     exact ⟨.slice va vn vc, .slice sa sn sc, _, rfl, fun z hz => HS.out _ (HPP.out.1 z hz), HS.out _ HPP.out.2.1, HS.out _ HPP.out.2.2.1, HX.out.cut1.cut1.cut1.cut1⟩
end
end Go.Proofs.YtcnkifbjlihaoaaGreatDoor

namespace Go.Proofs.YtcnkifbjlihaoaaGreatDoor
open Go.RowKit Go.Av
section
variable {w0 w : World} {b : Nat} {S : TreeS} {P P' : List PRow} {R : List Thing} {rows : List (Value × Bs)}
end
end Go.Proofs.YtcnkifbjlihaoaaGreatDoor

namespace Go.Proofs.YtcnkifbjlihaoaaGreatDoor
open Go.RowKit Go.Av
section
variable {w0 w : World} {b : Nat} {S : TreeS} {P P' : List PRow} {R : List Thing} {rows : List (Value × Bs)}
end
end Go.Proofs.YtcnkifbjlihaoaaGreatDoor

namespace Go.Proofs.YtcnkifbjlihaoaaGreatDoor
open Go.RowKit Go.Av
section
variable {w0 w : World} {P P' : List PRow} {R : List Thing} {rows : List (Value × Bs)}
theorem sn_act : StructN Tryz.prog 37 5 := ⟨by kernel_rfl⟩
theorem z_rreply : yd8' Tryz.prog 37 #[.int .i64 0, .int .i64 0, .int .i64 0, .int .i64 0, .slice none 0 0] := by unfold yd8'; kernel_rfl
end
end Go.Proofs.YtcnkifbjlihaoaaGreatDoor

namespace Go.Proofs.YtcnkifbjlihaoaaGreatDoor
open Go.RowKit Go.Av
section
variable {w0 w : World} {P P' : List PRow} {R : List Thing} {rows : List (Value × Bs)}
theorem ybs' {l : List OpS} (h : ygu' l = false) : l.length ≤ 20 ∧ ∀ o ∈ l, o.path.size ≤ 300 := by
 unfold ygu' at h
 rw [Bool.or_eq_false_iff] at h
 refine ⟨by have := of_decide_eq_false h.1; omega, fun o ho => ?_⟩
 have := List.any_eq_false.1 h.2 o ho
 simp at this
 omega
end
end Go.Proofs.YtcnkifbjlihaoaaGreatDoor

namespace Go.Proofs.YtcnkifbjlihaoaaGreatDoor
open Go.RowKit Go.Av
section
variable {w0 w : World} {P P' : List PRow} {R : List Thing} {rows : List (Value × Bs)}
end
end Go.Proofs.YtcnkifbjlihaoaaGreatDoor

namespace Go.Proofs.YtcnkifbjlihaoaaGreatDoor
open Go.RowKit Go.Av
theorem sn_x6 : StructN Tryz.prog 93 11 := ⟨by kernel_rfl⟩
theorem z_x6 : yd8' Tryz.prog 93 #[.int .i64 0, .int .i64 0, .int .i64 0, .int .i64 0, .int .i64 0, .int .i64 0, .slice none 0 0, .int .i64 0, .int .i64 0, .slice none 0 0, .bool false] := by unfold yd8'; kernel_rfl
section
variable {w0 w : World} {P P' : List PRow} {R : List Thing} {rows : List (Value × Bs)}
def outV (o : OutS) (v1 v2 : Value) : Array Value := #[.int .i64 o.kind, .int .i64 o.id, .int .i64 o.reply.num, .int .i64 o.reply.zxid, .int .i64 o.reply.err, .int .i64 o.reply.at_, v1, .int .i64 o.err, .int .i64 o.at_, v2, .bool o.yes]
def RsIn (P : List PRow) (rs : List ResS) (v : Value) : Prop := ∃ xs, ResL P rs xs ∧ (11, v, xs) ∈ P
theorem RsIn.mono {P P' : List PRow} {rs : List ResS} {v : Value} (h : RsIn P rs v) (hP : ∀ q ∈ P, q ∈ P') : RsIn P' rs v := by
 obtain ⟨xs, h1, h2⟩ := h
 exact ⟨xs, h1.mono hP, hP _ h2⟩
def OutIn (P : List PRow) (o : OutS) (v1 v2 : Value) : Prop := RsIn P o.reply.rs v1 ∧ RsIn P o.rs v2
theorem OutIn.mono {P P' : List PRow} {o : OutS} {v1 v2 : Value} (h : OutIn P o v1 v2) (hP : ∀ q ∈ P, q ∈ P') : OutIn P' o v1 v2 := ⟨h.1.mono hP, h.2.mono hP⟩
theorem yqw' (h : Sep w0 w (yab' w0 P :: R) rows) (v : Value) (b : List Bs) (hv : (1, v, b.map sv) ∈ P) (hn : b.length ≤ 1000000) :
  Calls Tryz.prog 183 #[v] w fun e w' => ∃ v', e = .returned v' ∧ Sep w0 w' (yab' w0 ((1, v', b.map sv) :: P) :: R) rows := by
 obtain ⟨E, hE⟩ := h.poolGet hv
 refine (yen' v b E w hE (by omega)).mono ?_
 rintro e w' ⟨v', D, rfl, ho, hu⟩
 exact ⟨v', rfl, h.poolAdd ho hu⟩
def y0c' (w0 : World) (rs : List ResS) (P : List PRow) (R : List Thing) (rows : List (Value × Bs)) (e : Ending) (w' : World) : Prop :=
 ∃ v P', e = .returned v ∧ (∀ q ∈ P, q ∈ P') ∧ RsIn P' rs v ∧ Sep w0 w' (yab' w0 P' :: R) rows
def y0d' (w0 : World) (rs : List ResS) (P : List PRow) (R : List Thing) (rows : List (Value × Bs)) (k : Nat) (v3 v8 : Value) (w : World) : Prop :=
 ∃ (i : Nat) (ys : List Value) (a : Option Addr) (n c : Nat) (P' : List PRow), i + k = rs.length ∧ v3 = .slice a n c ∧ v8 = .int .i64 (i : Int) ∧ (∀ q ∈ P, q ∈ P') ∧ ResL P' (rs.take i) ys ∧ Sep w0 w (yai' 11 (.slice a n c) ys :: yab' w0 P' :: R) rows
set_option maxRecDepth 100000 in
set_option maxHeartbeats 4000000 in
theorem yjk' (h : Sep w0 w (yab' w0 P :: R) rows) (rs : List ResS) (v : Value) (hv : RsIn P rs v) (hok : ymc' rs) :
  Calls Tryz.prog 201 #[v] w (y0c' w0 rs P R rows) := by
 obtain ⟨xs, hr, hm⟩ := hv
 obtain ⟨E, hE⟩ := h.poolGet hm
 obtain ⟨a0, n0, c0, rfl, hl0, -, -, hne⟩ := ReadRow.some hE
 rw [hr.len] at hl0
 obtain rfl : rs.length = n0 := by omega
 have HV := Lib.hid (show _ ∧ _ ∧ _ from ⟨hr, hm, hok⟩)
 have HNE := Lib.hid hne
 have HX := Lib.hid h
 clear h hE hl0 hne hr hm hok
 go_enter Tryz.func201, Tryz.ntmps201
 go_wp2_with (first | refine u0 ?_ | (refine uS ?_; clear HX; intro w HX) | (refine uA ?_; clear HX; (first | (have hq := b; clear hq; intro w b2 HX) | intro w b HX)) | (refine uP ?_; clear HX; intro w av nv cv HX))
 have HST := Lib.hid (show y0d' w0 rs P R rows rs.length (.slice none 0 0) (.int .i64 (0 : Int)) w from ⟨0, [], none, 0, 0, P, by simp, rfl, rfl, fun q hq => hq, .nil, HX.out.nilRow 11⟩)
 clear HX
 go_loopg [3, 5, 8] rs.length (fun k v3 _ v8 wr => y0d' w0 rs P R rows k v3 v8 wr)
 case atStart => exact HST.out
 case round =>
  rename World => w
  obtain ⟨i, ys, a, n, c, P', hik, rfl, rfl, hP', hrl, hS⟩ := hrel
  have HRL := Lib.hid (show _ ∧ _ from ⟨hP', hrl⟩)
  have HX := Lib.hid hS
  clear hP' hrl hS HST
  by_cases hlt : i < rs.length
  case neg =>
   obtain rfl : i = rs.length := by omega
   rw [List.take_length] at HRL
   clear hlt hik
   go_wp2_with (first | refine u0 ?_ | (refine uS ?_; clear HX; intro w HX) | (refine uA ?_; clear HX; (first | (have hq := b; clear hq; intro w b2 HX) | intro w b HX)) | (refine uP ?_; clear HX; intro w av nv cv HX))
   go_ret
   exact ⟨_, _, rfl, fun q hq => k_n _ (HRL.out.1 q hq), ⟨ys, HRL.out.2.mono (fun q hq => k_n _ hq), k_s⟩, HX.out.poolRow⟩
  case pos =>
   obtain ⟨nv, m1, k1⟩ := HV.out.1.at hlt
   obtain ⟨g, off, rfl⟩ := HNE.out (by intro e; have e : xs = [] := e; have := k1 0 _ rfl; rw [e] at this; cases this)
   have htk : rs.take (i + 1) = rs.take i ++ [rs[i]] := List.take_succ_eq_append_getElem hlt
   have hfew := HV.out.2.2.2 _ (List.getElem_mem hlt)
   obtain ⟨r, hr⟩ : ∃ r, rs[i] = r := ⟨_, rfl⟩
   rw [hr] at m1 k1 htk hfew
   obtain ⟨E, hE⟩ := HX.out.up1.poolGet (HRL.out.1 _ HV.out.2.1)
   have hl := ywq' (P := Tryz.prog) (ty := 115) (f := 0) hE sn_res rfl (by simp [ResS.cells]) k1
   obtain ⟨E2, hE2⟩ := HX.out.up1.poolGet (HRL.out.1 _ m1)
   obtain ⟨na, nn, nc, rfl, -⟩ := _root_.id hE2
   have HLN := Lib.hid (show ys.length = i * 11 by have := HRL.out.2.len; rw [List.length_take, Nat.min_eq_left (by omega)] at this; exact this)
   have HBD := Lib.hid (show ∀ n, ys.length = n * 11 → n + 1 ≤ 140737488355328 ∧ (n + 1) * 120 ≤ 140737488355328 from fun n hn => by
    have := HLN.out
    have := HV.out.2.2.1
    omega)
   have HK := Lib.hid (show _ ∧ _ ∧ _ from ⟨m1, htk, hfew⟩)
   have q0 : decide (i < rs.length) = true := decide_eq_true hlt
   have q9 : i ≤ 16 := by have := HV.out.2.2.1; omega
   clear hE hE2 k1 m1 htk hfew hr
   go_wp2_with (first | refine u0 ?_ | (refine uS ?_; clear HX; intro w HX) | (refine uA ?_; clear HX; (first | (have hq := b; clear hq; intro w b2 HX) | intro w b HX)) | (refine uP ?_; clear HX; intro w av nv cv HX) | ((with_reducible apply yaw' hl); (· rfl); (· rfl); simp only [Act.put, k_a, k_b, k_c]))
   refine (yqw' HX.out.up2 _ r.names (HRL.out.1 _ HK.out.1) (by have := HK.out.2.2; omega)).mono ?_
   rintro e w ⟨v4, rfl, hx⟩
   obtain ⟨E3, hE3⟩ := hx.poolGet k_s
   obtain ⟨ma, mn, mc, rfl, -⟩ := _root_.id hE3
   clear hE3 hl
   replace HX := Lib.hid hx
   clear hx
   go_wp2_with (first | refine u0 ?_ | (refine uS ?_; clear HX; intro w HX) | (refine uA ?_; clear HX; (first | (have hq := b; clear hq; intro w b2 HX) | intro w b HX)) | (refine uP ?_; clear HX; intro w av nv cv HX))
   go_roundg (rs.length - (i + 1))
   case rel =>
    refine ⟨i + 1, _, av, nv, cv, (1, .slice ma mn mc, r.names.map sv) :: P', by omega, rfl, by go_num, fun q hq => k_n _ (HRL.out.1 q hq), ?_, HX.out.pm 4 [0, 2] rfl rfl⟩
    rw [HK.out.2.1]
    exact (HRL.out.2.mono (fun q hq => k_n _ hq)).snoc k_s
   case measure => omega
def y0a' (w0 : World) (o : OutS) (P : List PRow) (R : List Thing) (rows : List (Value × Bs)) (e : Ending) (w' : World) : Prop :=
 ∃ v1 v2 P', e = .returned (.agg (outV o v1 v2)) ∧ (∀ q ∈ P, q ∈ P') ∧ OutIn P' o v1 v2 ∧ Sep w0 w' (yab' w0 P' :: R) rows
theorem ycf' {rs : List ResS} {v : Value} (h : Sep w0 w (yab' w0 P :: R) rows) (hv : RsIn P rs v) : ∃ a n c, v = .slice a n c := by
 obtain ⟨xs, -, hm⟩ := hv
 exact yah' h hm
set_option maxRecDepth 100000 in
set_option maxHeartbeats 4000000 in
theorem yig' (h : Sep w0 w (yab' w0 P :: R) rows) (o : OutS) (v1 v2 : Value) (hin : OutIn P o v1 v2) (hok : yr6' o) :
  Calls Tryz.prog 169 #[.agg (outV o v1 v2)] w (y0a' w0 o P R rows) := by
 obtain ⟨a1, n1, c1, rfl⟩ := ycf' h hin.1
 obtain ⟨a2, n2, c2, rfl⟩ := ycf' h hin.2
 have HV := Lib.hid (show _ ∧ _ from ⟨hin, hok⟩)
 have HX := Lib.hid h
 obtain ⟨kind, id, ⟨num, zxid, err, at_, rs1⟩, e2, at2, rs2, yes⟩ := o
 clear h hin hok
 unfold outV
 dsimp only at HV ⊢
 go_enter Tryz.func169, Tryz.ntmps169
 go_wp2_with (first | refine u0 ?_ | (refine uS ?_; clear HX; intro w HX) | (refine uA ?_; clear HX; (first | (have hq := b; clear hq; intro w b2 HX) | intro w b HX)))
 refine (yjk' HX.out.up2 rs2 _ HV.out.1.2 HV.out.2.2).mono ?_
 rintro e w ⟨v9, P9, rfl, hP9, hv9, hx⟩
 replace HX := Lib.hid hx
 clear hx
 obtain ⟨ra, rn, rc, rfl⟩ := ycf' HX.out hv9
 have H2 := Lib.hid (show _ ∧ _ from ⟨hP9, hv9⟩)
 clear hP9 hv9
 go_wp2_with (first | refine u0 ?_ | (refine uS ?_; clear HX; intro w HX) | (refine uA ?_; clear HX; (first | (have hq := b; clear hq; intro w b2 HX) | intro w b HX)))
 refine (yjk' HX.out rs1 _ (HV.out.1.1.mono H2.out.1) HV.out.2.1).mono ?_
 rintro e w ⟨v9, P8, rfl, hP8, hv8, hx⟩
 replace HX := Lib.hid hx
 clear hx
 obtain ⟨sa, sn, sc, rfl⟩ := ycf' HX.out hv8
 have H1 := Lib.hid (show _ ∧ _ from ⟨hP8, hv8⟩)
 clear hP8 hv8
 go_wp2_with (first | refine u0 ?_ | (refine uS ?_; clear HX; intro w HX) | (refine uA ?_; clear HX; (first | (have hq := b; clear hq; intro w b2 HX) | intro w b HX)))
 refine ybe' HX rfl rfl (by (repeat (first | (with_reducible exact k_s) | (with_reducible apply k_m)))) (by kernel_rfl) ?_
 exact ⟨_, _, _, rfl, fun q hq => H1.out.1 q (H2.out.1 q hq), ⟨H1.out.2, H2.out.2.mono H1.out.1⟩, HX.out.cut1.cut1⟩
end
end Go.Proofs.YtcnkifbjlihaoaaGreatDoor

namespace Go.Proofs.YtcnkifbjlihaoaaGreatDoor
open Go.RowKit Go.Av
section
variable {w0 w : World} {P P' : List PRow} {R : List Thing} {rows : List (Value × Bs)}
theorem yzk' (l : List OpS) : ∀ u ∈ l.flatMap OpS.cells, u.oneCell' = true := by
 intro u hu
 obtain ⟨o, -, ho⟩ := List.mem_flatMap.1 hu
 simp only [OpS.cells, List.mem_cons, List.not_mem_nil, or_false] at ho
 rcases ho with rfl | rfl | rfl | rfl | rfl <;> rfl
def yx7' (w0 : World) (P : List PRow) (R : List Thing) (rows : List (Value × Bs)) (l : List OpS) (e : Ending) (w' : World) : Prop :=
 ∃ v, e = .returned v ∧ Sep w0 w' (yai' 5 v (l.flatMap OpS.cells) :: yab' w0 P :: R) rows
set_option maxRecDepth 100000 in
set_option maxHeartbeats 4000000 in
theorem yfa' (h : Sep w0 w (yab' w0 P :: R) rows) (l : List OpS) (v : Value) (hv : (5, v, l.flatMap OpS.cells) ∈ P) (hn : l.length ≤ 1000) (h0 : l ≠ []) :
  Calls Tryz.prog 73 #[v] w (yx7' w0 P R rows l) := by
 obtain ⟨E, hE⟩ := h.poolGet hv
 obtain ⟨a, n, c, rfl, hl0, -, -, hne⟩ := ReadRow.some hE
 rw [yau' yag'] at hl0
 obtain rfl : l.length = n := by omega
 obtain ⟨g, off, rfl⟩ := hne (by intro e; have := congrArg List.length e; rw [yau' yag'] at this; simp only [List.length_nil] at this; exact h0 (List.eq_nil_of_length_eq_zero (by omega)))
 have hnil := fun (W : World) (a : Option Addr) (n c n' c' : Nat) => Lib.run_eql_slice_nil (P := Tryz.prog) W 30 89 a n c n' c' Tryz.underlying30
 have HV := Lib.hid hv
 have HONE := Lib.hid (yzk' l)
 have HLEN := Lib.hid (show (l.flatMap OpS.cells).length = l.length * 5 from yau' yag' ..)
 have HX := Lib.hid h
 clear h hv hE hne hl0 h0
 go_enter Tryz.func73, Tryz.ntmps73
 go_wp2_with (first | refine u0 ?_ | (refine uS ?_; clear HX; intro w HX) | (refine uA ?_; clear HX; (first | (have hq := b; clear hq; intro w b2 HX) | intro w b HX)) | (refine yz0' HX sl_op ?_; clear HX; intro w b3 HX; simp only [Act.put, k_a, k_b, k_c]) | ((with_reducible apply yzy' HX); (· exact sl_op); (· rfl); (· rfl); (· (repeat (first | (with_reducible exact Rem.here) | (with_reducible apply Rem.there)))); (· (repeat (first | (with_reducible exact k_s) | (with_reducible apply k_m)))); (· exact HV.out); (· exact HONE.out); (· (intro n m hn2 hm; have := HLEN.out; simp only [List.length_nil] at hn2; omega)); clear HX; intro w av nv cv HX; simp only [Act.put, k_a, k_b, k_c]))
 go_ret
 refine ⟨_, rfl, ?_⟩
 have h1 := HX.out
 rw [List.nil_append] at h1
 exact h1
end
end Go.Proofs.YtcnkifbjlihaoaaGreatDoor
