/-
  Texts of this claim, laid together.
-/
import Derived.Test.YtcnkifbjlihaoaaGreatDoorMb5
import Derived.Deep.DeepCutAuto
import Derived.Deep.CutBlock
set_option linter.unusedVariables false
set_option linter.unusedSimpArgs false

namespace Go.Proofs.YtcnkifbjlihaoaaGreatDoor
open Go.RowKit Go.Av
section
variable {w0 w : World} {b t : Nat} {S : TreeS} {P P' : List PRow} {R : List Thing} {rows : List (Value × Bs)}
def yg6' (l : List OpS) : Bool := decide (20 < l.length) || l.any fun o => decide (300 < o.path.size) || decide (1100 < o.data.size)
end
end Go.Proofs.YtcnkifbjlihaoaaGreatDoor

namespace Go.Proofs.YtcnkifbjlihaoaaGreatDoor
open Go.RowKit Go.Av
end Go.Proofs.YtcnkifbjlihaoaaGreatDoor

namespace Go.Av
open Go.RowKit
theorem EntL.parts {P : List PRow} {l : NoL} {xs : List Value} (h : EntL P l xs) {i : Nat} (hi : i < l.length) : ∃ nv, (1, nv, l[i].2.names.map sv) ∈ P ∧ xs[i * 11]? = some (sv l[i].1) ∧ ∀ j v, (l[i].2.cells nv).toList[j]? = some v → xs[i * 11 + 1 + j]? = some v := by
 obtain ⟨nv, h1, h2⟩ := h.at hi
 refine ⟨nv, h1, h2 0 _ rfl, fun j v hv => ?_⟩
 rw [show i * 11 + 1 + j = i * 11 + (j + 1) by omega]
 exact h2 (j + 1) v hv
end Go.Av
namespace Go.Proofs.YtcnkifbjlihaoaaGreatDoor
open Go.RowKit Go.Av
section
variable {w0 w : World} {b b2 : Nat} {S : TreeS} {P P' : List PRow} {R : List Thing} {rows : List (Value × Bs)}
end
end Go.Proofs.YtcnkifbjlihaoaaGreatDoor

namespace Go.Proofs.YtcnkifbjlihaoaaGreatDoor
open Go.RowKit Go.Av
section
variable {w0 w : World} {b : Nat} {S : TreeS} {P P' : List PRow} {R : List Thing} {rows : List (Value × Bs)}
end
end Go.Proofs.YtcnkifbjlihaoaaGreatDoor

namespace Go.Av
open Go.RowKit
theorem EntL.take {P : List PRow} {l : NoL} {xs : List Value} (h : EntL P l xs) : ∀ k, EntL P (l.take k) (xs.take (k * 11)) := by
 induction h with
 | nil => intro k; simp; exact .nil
 | @cons p n nv l xs h1 h2 ih =>
  intro k
  cases k with
  | zero => rw [Nat.zero_mul]; exact .nil
  | succ k =>
   have hl : (sv p :: (n.cells nv).toList).length = 11 := rfl
   have h3 := EntL.cons (p := p) h1 (ih k)
   obtain ⟨A, hA⟩ : ∃ A, sv p :: (n.cells nv).toList = A := ⟨_, rfl⟩
   rw [hA] at hl h3 ⊢
   rw [k_f, List.take_append, List.take_of_length_le (l := A) (by omega), hl, show (k + 1) * 11 - 11 = k * 11 by omega]
   exact h3
theorem EntL.drop {P : List PRow} {l : NoL} {xs : List Value} (h : EntL P l xs) : ∀ k, EntL P (l.drop k) (xs.drop (k * 11)) := by
 induction h with
 | nil => intro k; simp; exact .nil
 | @cons p n nv l xs h1 h2 ih =>
  intro k
  cases k with
  | zero => rw [Nat.zero_mul]; exact .cons h1 h2
  | succ k =>
   have hl : (sv p :: (n.cells nv).toList).length = 11 := rfl
   have h3 := ih k
   obtain ⟨A, hA⟩ : ∃ A, sv p :: (n.cells nv).toList = A := ⟨_, rfl⟩
   rw [hA] at hl ⊢
   rw [k_e, List.drop_append, List.drop_of_length_le (l := A) (by omega), hl, List.nil_append, show (k + 1) * 11 - 11 = k * 11 by omega]
   exact h3
theorem EntL.one {w0 w : World} {R : List Thing} {rows : List (Value × Bs)} {P : List PRow} {l : NoL} {xs : List Value} (hS : Sep w0 w (yab' w0 P :: R) rows) (h : EntL P l xs) : ∀ u ∈ xs, u.oneCell' = true := by
 induction h with
 | nil => intro u hu; cases hu
 | @cons p n nv l xs h1 h2 ih =>
  intro u hu
  obtain ⟨E, hE⟩ := hS.poolGet h1
  obtain ⟨a, m, c, hnv, -⟩ := ReadRow.some hE
  have hnv : nv = .slice a m c := hnv
  rcases List.mem_append.1 hu with hu | hu
  ·rcases List.mem_cons.1 hu with rfl | hu
   ·rfl
   ·subst hnv
    simp only [NodeS.cells, List.mem_cons, List.not_mem_nil, or_false] at hu
    rcases hu with rfl | rfl | rfl | rfl | rfl | rfl | rfl | rfl | rfl | rfl <;> rfl
  ·exact ih u hu
end Go.Av
namespace Go.Proofs.YtcnkifbjlihaoaaGreatDoor
open Go.RowKit Go.Av
section
variable {w0 w : World} {b : Nat} {S : TreeS} {P P' : List PRow} {R : List Thing} {rows : List (Value × Bs)}
end
end Go.Proofs.YtcnkifbjlihaoaaGreatDoor

namespace Go.Av
open Go.RowKit
section
variable {P : Program} {w0 w : World} {R Ts Ts' : List Thing} {rows : List (Value × Bs)}
variable {ops : Array Oper} {Q : Exit → Act → World → Prop} {rest : List Oper} {a : Act} {dst : Option Tmp} {tyy : TypeId} {pos : String} {aft : Array Edge} {gg : Option (Nat × Bool)}
end
end Go.Av

namespace Go.Av
open Go.RowKit
end Go.Av

namespace Go.Av
theorem ylp' : ∀ l : List Bs, l ≠ [] → (ofP l.dropLast).length < (ofP l).length
 | [], h => absurd rfl h
 | [x], _ => by simp [ofP]
 | x :: y :: l, _ => by
  have ih := ylp' (y :: l) (by simp)
  rw [List.dropLast_cons_cons]
  unfold ofP at ih ⊢
  rw [List.flatMap_cons, List.flatMap_cons, List.length_append, List.length_append]
  omega
theorem ylu' {p up : Bs} (h : yap' p = some up) : p ≠ up := by
 intro e
 unfold yap' at h
 split at h
 ·cases h
 ·rename_i h1
  injection h with h2
  have hne : yaz' p ≠ [] := by intro e2; rw [e2] at h1; exact h1 (by decide)
  have hs := ylp' _ hne
  rw [h2, ← e] at hs
  have hg : ya4' p = true := by
   cases hh : ya4' p with
   | true => rfl
   | false => exact absurd (by unfold yaz'; rw [hh]; rfl) hne
  have hp : ofP (yaz' p) = p := by
   cases p with
   | nil => cases hg
   | cons c r =>
    have hc : c = 47 := by
     unfold ya4' at hg
     simp only [Bool.and_eq_true, decide_eq_true_eq] at hg
     exact hg.1.1.1
    unfold yaz'
    rw [if_pos hg, hc]
    exact ymq' r
  rw [hp] at hs
  omega
end Go.Av

namespace Go.Av
open Go.RowKit
theorem yec' (n : NodeS) (s : Bs) : (remS n s).owner = n.owner := by
 unfold remS
 split <;> rfl
theorem yvj' {S : TreeS} {sess : Int} {p : Bs} : p ∈ ofT S sess ↔ ∃ n, (p, n) ∈ S.l ∧ 0 < sess ∧ n.owner = sess := by
 unfold ofT
 rw [List.mem_map]
 constructor
 ·rintro ⟨⟨k, n⟩, he, rfl⟩
  have := List.mem_filter.1 he
  simp at this
  exact ⟨n, this.1, this.2⟩
 ·rintro ⟨n, h1, h2, h3⟩
  exact ⟨(p, n), List.mem_filter.2 ⟨h1, by simp [h2, h3]⟩, rfl⟩
end Go.Av

namespace Go.Av
open Go.RowKit
theorem ydm' (p : Bs) (e : Bs × NodeS) (l : NoL) : yak' p (e :: l) = if e.1 = p then some e.2 else yak' p l := by
 unfold yak'
 rw [List.find?_cons]
 by_cases h : e.1 = p
 ·simp [h]
 ·simp [h]
theorem ycf' (p q : Bs) (n : NodeS) : ∀ l : NoL, yak' p (setT q n l) = if p = q then (yak' q l).map (fun _ => n) else yak' p l
 | [] => by
  unfold setT
  by_cases h : p = q
  ·rw [if_pos h]; rfl
  ·rw [if_neg h]; rfl
 | e :: l => by
  have ih := ycf' p q n l
  have hs : setT q n (e :: l) = (if e.1 = q then (e.1, n) else e) :: setT q n l := rfl
  rw [hs, ydm', ydm', ydm', ih]
  by_cases he : e.1 = q
  ·rw [if_pos he, if_pos he]
   by_cases h : p = q
   ·rw [if_pos (by rw [he, h]), if_pos h]; rfl
   ·rw [if_neg (by rw [he]; exact fun hh => h hh.symm), if_neg h, if_neg h, if_neg (by rw [he]; exact fun hh => h hh.symm)]
  ·rw [if_neg he, if_neg he]
   by_cases h : p = q
   ·rw [if_pos h, if_pos h, if_neg (by rw [h]; exact he)]
   ·rw [if_neg h, if_neg h]
theorem yny' (p q : Bs) : ∀ l : NoL, yak' p (delT q l) = if p = q then none else yak' p l
 | [] => by
  by_cases h : p = q
  ·rw [if_pos h]; rfl
  ·rw [if_neg h]; rfl
 | e :: l => by
  have ih := yny' p q l
  by_cases he : e.1 = q
  ·have hs : delT q (e :: l) = delT q l := by unfold delT; rw [List.filter_cons, if_neg (by simp [he])]
   rw [hs, ih, ydm']
   by_cases h : p = q
   ·rw [if_pos h, if_pos h]
   ·rw [if_neg h, if_neg h, if_neg (by rw [he]; exact fun hh => h hh.symm)]
  ·have hs : delT q (e :: l) = e :: delT q l := by unfold delT; rw [List.filter_cons, if_pos (by simp [he])]
   rw [hs, ydm', ydm', ih]
   by_cases h : p = q
   ·rw [if_pos h, if_pos h, if_neg (by rw [h]; exact he)]
   ·rw [if_neg h, if_neg h]
theorem yty' (p q : Bs) (n : NodeS) {l : NoL} (hr : yc6' l) (hq : yak' q l = none) : yak' p (insT q n l) = if p = q then some n else yak' p l := by
 have h2 := ya9' (yhz' (n := n) hr hq)
 by_cases h : p = q
 ·rw [if_pos h, h]
  exact (ybj' h2).2 ((ydl' q n l).mem_iff.2 k_s)
 ·rw [if_neg h]
  cases hp : yak' p l with
  | some m => exact (ybj' h2).2 ((ydl' q n l).mem_iff.2 (k_n _ ((ybj' (ya9' hr)).1 hp)))
  | none =>
   refine yde'.2 fun e he => ?_
   rcases yh2' he with rfl | he
   ·exact fun hh => h hh.symm
   ·exact yde'.1 hp e he
theorem yqx' (p q : Bs) (f : NodeS → NodeS) (l : NoL) : yak' p (atUp q f l) = if yap' q = some p then (yak' p l).map f else yak' p l := by
 unfold atUp
 cases hq : yap' q with
 | none => rw [if_neg (by simp)]
 | some u =>
  dsimp only
  cases hu : yak' u l with
  | none =>
   dsimp only
   by_cases h : u = p
   ·rw [if_pos (by rw [h]), ← h, hu]; rfl
   ·rw [if_neg (by simpa using h)]
  | some m =>
   dsimp only
   rw [ycf']
   by_cases h : p = u
   ·rw [if_pos h, if_pos (by rw [h]), h, hu]; rfl
   ·rw [if_neg h, if_neg (by simpa using fun hh => h hh.symm)]
theorem yc1' (p q : Bs) (n : NodeS) {l : NoL} (hr : yc6' l) (hq : yak' q l = none) :
  yak' p (layT q n l) = if p = q then some n else if yap' q = some p then (yak' p l).map (fun m => addS m (yeu' q)) else yak' p l := by
 unfold layT
 rw [yqx', yty' p q n hr hq]
 by_cases h : p = q
 ·rw [if_pos h, if_pos h, if_neg (by rw [h]; exact fun hh => ylu' hh rfl)]
 ·rw [if_neg h, if_neg h]
theorem ycm' (p q : Bs) (l : NoL) : yak' p (remT q l) = if p = q then none else if yap' q = some p then (yak' p l).map (fun m => remS m (yeu' q)) else yak' p l := by
 unfold remT
 rw [yqx', yny']
 by_cases h : p = q
 ·rw [if_pos h, if_pos h, if_neg (by rw [h]; exact fun hh => ylu' hh rfl)]
 ·rw [if_neg h, if_neg h]
theorem yqp' (q : Bs) (n : NodeS) (l : NoL) : (layT q n l).length = l.length + 1 := by unfold layT; rw [yeg', yj1']
theorem ynq' {p : Bs} {n : NodeS} : ∀ {l : NoL}, (l.map (·.1)).Nodup → yak' p l = some n → (delT p l).length + 1 = l.length
 | [], _, h => by cases h
 | e :: l, hn, h => by
  rw [List.map_cons, List.nodup_cons] at hn
  rw [ydm'] at h
  by_cases he : e.1 = p
  ·have hs : delT p (e :: l) = delT p l := by unfold delT; rw [List.filter_cons, if_neg (by simp [he])]
   have : yak' p l = none := yde'.2 fun x hx hh => hn.1 (by rw [he, ← hh]; exact List.mem_map_of_mem hx)
   rw [hs, yk2' this]
   rfl
  ·rw [if_neg he] at h
   have hs : delT p (e :: l) = e :: delT p l := by unfold delT; rw [List.filter_cons, if_pos (by simp [he])]
   rw [hs, List.length_cons, List.length_cons, ynq' hn.2 h]
theorem yod' {p : Bs} {n : NodeS} {l : NoL} (hr : yc6' l) (h : yak' p l = some n) : (remT p l).length + 1 = l.length := by
 unfold remT; rw [yeg']; exact ynq' (ya9' hr) h
theorem yrq' (p : Bs) (l : NoL) : (remT p l).length ≤ l.length := by
 unfold remT; rw [yeg']; exact List.length_filter_le _ _
theorem yrk' : ∀ (l : List Bs) (S : TreeS), (purT l S).l.length ≤ S.l.length
 | [], _ => Nat.le_refl _
 | p :: l, S => Nat.le_trans (yrk' l { S with l := remT p S.l }) (yrq' p S.l)
theorem yx3' (S : TreeS) (o : OpS) (sess zxid : Int) : (doT S o sess zxid).2.l.length ≤ S.l.length + 1 := by
 unfold doT
 split
 ·exact Nat.le_succ _
 ·split
  ·exact Nat.le_succ _
  ·split
   ·unfold ybq'
    split
    ·exact Nat.le_succ _
    ·show (layT _ _ _).length ≤ _
     unfold layT
     rw [yeg', yj1']
     exact Nat.le_refl _
   ·split
    ·unfold ybo'
     split
     ·exact Nat.le_succ _
     ·split
      ·exact Nat.le_succ _
      ·split
       ·exact Nat.le_succ _
       ·split
        ·show (remT _ _).length ≤ _
         unfold remT
         rw [yeg']
         exact Nat.le_trans (List.length_filter_le _ _) (Nat.le_succ _)
        ·split
         ·show (setT _ _ _).length ≤ _
          rw [ye9']
          exact Nat.le_succ _
         ·exact Nat.le_succ _
    ·exact Nat.le_succ _
theorem yk0' : ∀ (l : Bs), ∀ x ∈ cutS l, (47 : UInt8) ∉ x
 | [], x, h => by
  rw [show cutS [] = [[]] from rfl, List.mem_singleton] at h
  subst h
  simp
 | c :: r, x, h => by
  have ih := yk0' r
  unfold cutS at h
  split at h
  ·rcases List.mem_cons.1 h with rfl | h
   ·simp
   ·exact ih x h
  ·rename_i hc
   split at h
   ·rename_i h0; exact absurd h0 (yc8' r)
   ·rename_i y t hy
    rw [hy] at ih
    rcases List.mem_cons.1 h with rfl | h
    ·intro hh
     rcases List.mem_cons.1 hh with hh | hh
     ·exact hc hh.symm
     ·exact ih y k_s hh
    ·exact ih x (k_n _ h)
theorem yhp' : ∀ (r : List Bs) (x : Bs), (∀ y ∈ x :: r, (47 : UInt8) ∉ y) → cutS (x ++ ofP r) = x :: r
 | r, c :: x, h => by
  have h1 : (47 : UInt8) ∉ c :: x := h _ k_s
  have ih := yhp' r x (fun y hy => by
   rcases List.mem_cons.1 hy with rfl | hy
   ·exact fun hh => h1 (k_n _ hh)
   ·exact h y (k_n _ hy))
  rw [List.cons_append]
  unfold cutS
  rw [if_neg (fun hc => h1 (by rw [← hc]; exact k_s)), ih]
 | [], [], _ => rfl
 | y :: r, [], h => by
  have ih := yhp' r y (fun z hz => h z (k_n _ hz))
  have e : ([] : Bs) ++ ofP (y :: r) = 47 :: (y ++ ofP r) := rfl
  rw [e]
  unfold cutS
  rw [if_pos rfl, ih]
theorem ym0' {p u : Bs} (h : yap' p = some u) : ya4' u = true := by
 have hl := yi5' h
 unfold yap' at h
 split at h
 ·cases h
 ·rename_i h1
  injection h with h
  have hg : ya4' p = true := ypb' (by intro e; rw [e] at h1; exact h1 (by decide))
  have hc : yaz' p = cutS (p.drop 1) := by unfold yaz'; rw [if_pos hg]
  have hnames : ∀ x ∈ yaz' p, yel' x = true := by
   rw [hc]
   cases p with
   | nil => cases hg
   | cons c r =>
    unfold ya4' at hg
    simp only [Bool.and_eq_true, decide_eq_true_eq] at hg
    exact List.all_eq_true.1 hg.1.2
  have hfew : (yaz' p).length ≤ 8 := by
   rw [hc]
   cases p with
   | nil => cases hg
   | cons c r =>
    unfold ya4' at hg
    simp only [Bool.and_eq_true, decide_eq_true_eq] at hg
    exact hg.2
  cases hd : (yaz' p).dropLast with
  | nil =>
   exfalso
   have := congrArg List.length hd
   rw [List.length_dropLast] at this
   simp at this
   omega
  | cons x r =>
   rw [hd] at h
   have hin : ∀ y ∈ x :: r, y ∈ yaz' p := fun y hy => List.dropLast_subset _ (by rw [hd]; exact hy)
   have he : u = 47 :: (x ++ ofP r) := by rw [← h]; rfl
   have hcut : cutS (x ++ ofP r) = x :: r := yhp' r x fun y hy => yk0' (p.drop 1) y (by rw [← hc]; exact hin y hy)
   have hlen : (x :: r).length ≤ 8 := by
    rw [← hd, List.length_dropLast]; omega
   rw [he] at hl ⊢
   unfold ya4'
   dsimp only
   rw [hcut]
   simp only [Bool.and_eq_true, decide_eq_true_eq]
   exact ⟨⟨⟨trivial, by simpa using hl⟩, List.all_eq_true.2 fun y hy => hnames y (hin y hy)⟩, hlen⟩
end Go.Av

namespace Go.Av
open Go.RowKit
def FarW (W : List Bs) (p : Bs) : Prop := ∀ q ∈ W, yda' p q = false
theorem FarW.no {W : List Bs} {p : Bs} (h : FarW W p) : p ∉ W ∧ (∀ u, yap' p = some u → u ∉ W) ∧ ∀ q ∈ W, yap' q ≠ some p := by
 refine ⟨fun hp => ?_, fun u hu hm => ?_, fun q hq he => ?_⟩
 ·have := h p hp; unfold yda' at this; simp at this
 ·have := h u hm; unfold yda' at this; rw [hu] at this; simp at this
 ·have := h q hq; unfold yda' at this; rw [he] at this; simp at this
structure Keep (W : List Bs) (Y Y' : TreeS) : Prop where
 at_ : ∀ p ∈ W, yak' p Y'.l = yak' p Y.l
 kid : ∀ p ∈ W, ∀ q, yap' q = some p → (yak' q Y'.l).isSome = (yak' q Y.l).isSome
 up : ∀ p ∈ W, ∀ u, yap' p = some u → ∀ n, yak' u Y.l = some n → ∃ n', yak' u Y'.l = some n' ∧ n'.owner = n.owner
theorem Keep.rfl (W : List Bs) (Y : TreeS) : Keep W Y Y := ⟨fun _ _ => _root_.rfl, fun _ _ _ _ => _root_.rfl, fun _ _ _ _ n h => ⟨n, h, _root_.rfl⟩⟩
theorem Keep.trans {W : List Bs} {X Y Z : TreeS} (h : Keep W X Y) (h2 : Keep W Y Z) : Keep W X Z :=
 ⟨fun p hp => (h2.at_ p hp).trans (h.at_ p hp), fun p hp q hq => (h2.kid p hp q hq).trans (h.kid p hp q hq), fun p hp u hu n hn => by
  obtain ⟨n1, a1, a2⟩ := h.up p hp u hu n hn
  obtain ⟨n2, b1, b2⟩ := h2.up p hp u hu n1 a1
  exact ⟨n2, b1, b2.trans a2⟩⟩
theorem ye3' (n : NodeS) (s : Bs) : (addS n s).owner = n.owner := by unfold addS; split <;> rfl
theorem ytt' {W : List Bs} {S : TreeS} {q : Bs} {n : NodeS} (hr : yc6' S.l) (h0 : yak' q S.l = none) (h1 : q ∉ W) (h2 : ∀ u, yap' q = some u → u ∉ W) : Keep W S { S with l := layT q n S.l } := by
 refine ⟨fun p hp => ?_, fun p hp k hk => ?_, fun p hp u hu m hm => ?_⟩
 ·rw [yc1' p q n hr h0, if_neg (fun e => h1 (by rw [← e]; exact hp)), if_neg (fun e => h2 p e hp)]
 ·rw [yc1' k q n hr h0, if_neg (fun e => h2 p (by rw [← e]; exact hk) hp)]
  split
  ·cases yak' k S.l <;> rfl
  ·rfl
 ·rw [yc1' u q n hr h0, if_neg (fun e => by rw [e, h0] at hm; cases hm)]
  split
  ·rw [hm]; exact ⟨_, rfl, ye3' _ _⟩
  ·exact ⟨m, hm, rfl⟩
theorem ynx' {W : List Bs} {S : TreeS} {q : Bs} (h : FarW W q) : Keep W S { S with l := remT q S.l } := by
 obtain ⟨h1, h2, h3⟩ := h.no
 refine ⟨fun p hp => ?_, fun p hp k hk => ?_, fun p hp u hu m hm => ?_⟩
 ·rw [ycm' p q, if_neg (fun e => h1 (by rw [← e]; exact hp)), if_neg (fun e => h2 p e hp)]
 ·rw [ycm' k q, if_neg (fun e => h2 p (by rw [← e]; exact hk) hp)]
  split
  ·cases yak' k S.l <;> rfl
  ·rfl
 ·rw [ycm' u q, if_neg (fun e => h3 p hp (by rw [← e]; exact hu))]
  split
  ·rw [hm]; exact ⟨_, rfl, yec' _ _⟩
  ·exact ⟨m, hm, rfl⟩
theorem ytu' {W : List Bs} {S : TreeS} {q : Bs} {n n0 : NodeS} (h1 : q ∉ W) (h0 : yak' q S.l = some n0) (ho : n.owner = n0.owner) : Keep W S { S with l := setT q n S.l } := by
 refine ⟨fun p hp => ?_, fun p hp k hk => ?_, fun p hp u hu m hm => ?_⟩
 ·rw [ycf' p q, if_neg (fun e => h1 (by rw [← e]; exact hp))]
 ·rw [ycf' k q]
  split
  ·rename_i e; rw [e]; cases yak' q S.l <;> rfl
  ·rfl
 ·rw [ycf' u q]
  split
  ·rename_i e
   rw [e, h0] at hm
   injection hm with hm
   rw [h0]
   exact ⟨_, rfl, by rw [← hm]; exact ho⟩
  ·exact ⟨m, hm, rfl⟩
theorem ydo' {S : TreeS} {o : OpS} (h : (yax' S o).1 = 0) :
  yak' (yax' S o).2 S.l = none ∧ (S.l.length : Int) < S.room ∧ yap' (yax' S o).2 = yap' o.p ∧ ((yax' S o).2 = o.p ∨ ∃ up m, yap' o.p = some up ∧ seqF o.flags = true ∧ yak' up S.l = some m ∧ yba' o.p m.next = some (yax' S o).2) ∧
   ∀ up, yap' o.p = some up → ∃ m, yak' up S.l = some m ∧ m.owner = 0 := by
 have hend : ∀ p, (endT S p).1 = 0 → endT S p = (0, p) ∧ yak' p S.l = none ∧ (S.l.length : Int) < S.room := fun p h => by
  unfold endT at h ⊢
  split at h
  ·cases h
  ·rename_i h1
   split at h
   ·cases h
   ·rename_i h2
    rw [if_neg h1, if_neg h2]
    refine ⟨rfl, ?_, by omega⟩
    cases hl : yak' p S.l with
    | none => rfl
    | some _ => rw [hl] at h1; exact absurd rfl h1
 unfold yax' at h ⊢
 cases hup : yap' o.p with
 | none =>
  simp only [hup] at h ⊢
  obtain ⟨e1, e2, e3⟩ := hend _ h
  rw [e1]
  exact ⟨e2, e3, hup, .inl rfl, by simp⟩
 | some up =>
  simp only [hup] at h ⊢
  cases hn : yak' up S.l with
  | none => simp only [hn] at h; exact absurd h (by decide)
  | some n =>
   simp only [hn] at h ⊢
   by_cases how : n.owner ≠ 0
   ·rw [if_pos how] at h; exact absurd h (by decide)
   rw [if_neg how] at h ⊢
   have how : n.owner = 0 := Decidable.not_not.1 how
   have hall : ∀ up', some up = some up' → ∃ m, yak' up' S.l = some m ∧ m.owner = 0 := fun up' e => by injection e with e; subst e; exact ⟨n, hn, how⟩
   by_cases hsq : seqF o.flags = true
   ·rw [if_pos hsq] at h ⊢
    cases hq : yba' o.p n.next with
    | none => simp only [hq] at h; exact absurd h (by decide)
    | some q =>
     simp only [hq] at h ⊢
     obtain ⟨e1, e2, e3⟩ := hend _ h
     rw [e1]
     exact ⟨e2, e3, (yfy' hq).1.trans hup, .inr ⟨up, n, rfl, hsq, hn, hq⟩, hall⟩
   ·rw [if_neg hsq] at h ⊢
    obtain ⟨e1, e2, e3⟩ := hend _ h
    rw [e1]
    exact ⟨e2, e3, hup, .inl rfl, hall⟩
theorem ygv' (o : OpS) : o.p ∈ ya3' o := by
 unfold ya3'
 split
 ·simp
 ·split <;> simp
theorem ykp' {o : OpS} {up : Bs} (h : yap' o.p = some up) (hk : o.kind = 1) (hs : seqF o.flags = true) : up ∈ ya3' o := by
 unfold ya3'
 rw [h]
 dsimp only
 rw [if_pos (by rw [hk, hs]; rfl)]
 simp
theorem ywt' {K : Nat} {W : List Bs} {S : TreeS} (hB : TreeB K S) {o : OpS} (hf : ∀ p ∈ ya3' o, FarW W p) (sess z : Int) : Keep W S (doT S o sess z).2 := by
 have hs := hf _ (ygv' o)
 obtain ⟨h1, h2, h3⟩ := hs.no
 unfold doT
 split
 ·exact .rfl W S
 ·split
  ·exact .rfl W S
  ·split
   ·rename_i hk
    unfold ybq'
    split
    ·exact .rfl W S
    ·rename_i hz
     obtain ⟨a1, a2, a3, a4, a5⟩ := ydo' (S := S) (o := o) (by omega)
     refine ytt' hB.rise a1 ?_ (by rw [a3]; exact h2)
     rcases a4 with e | ⟨up, m, e1, e2, e3, e4⟩
     ·rw [e]; exact h1
     ·intro hin
      exact (hf up (ykp' e1 hk e2)).no.2.2 _ hin (by rw [a3]; exact e1)
   ·split
    ·unfold ybo'
     split
     ·exact .rfl W S
     ·rename_i n hn
      split
      ·exact .rfl W S
      ·split
       ·exact .rfl W S
       ·split
        ·exact ynx' hs
        ·split
         ·exact ytu' h1 hn rfl
         ·exact .rfl W S
    ·exact .rfl W S
theorem yi1' {W : List Bs} {sess z : Int} : ∀ (l : List OpS) {K : Nat} {S : TreeS}, TreeB K S → (∀ o ∈ l, ∀ p ∈ ya3' o, FarW W p) → Keep W S (yao' sess z l S).2.1
 | [], _, S, _, _ => .rfl W S
 | o :: l, K, S, hB, hf => by
  have h1 := ywt' hB (hf o k_s) sess z
  unfold yao'
  split
  ·exact h1
  ·exact h1.trans (yi1' l (do_b hB o sess z) fun x hx => hf x (k_n _ hx))
theorem yla' {K : Nat} {W : List Bs} {S : TreeS} (hB : TreeB K S) {l : List OpS} (hf : ∀ o ∈ l, ∀ p ∈ ya3' o, FarW W p) (sess z : Int) : Keep W S (ybw' S sess z l).2.1 := by
 unfold ybw'
 split
 ·exact .rfl W S
 ·split
  ·exact .rfl W S
  ·split
   ·exact .rfl W S
   ·exact yi1' l hB hf
theorem ylb' {K : Nat} {W : List Bs} {S : TreeS} (hB : TreeB K S) {l : List OpS} (hf : ∀ o ∈ l, ∀ p ∈ ya3' o, FarW W p) (sess num z : Int) : Keep W S (ya1' S sess num z l).2 := by
 unfold ya1'
 split
 ·exact .rfl W S
 ·exact yla' hB hf sess z
theorem ynw' {W : List Bs} : ∀ (l : List Bs) {S : TreeS}, (∀ p ∈ l, FarW W p) → Keep W S (purT l S)
 | [], S, _ => .rfl W S
 | p :: l, S, hf => (ynx' (hf p k_s)).trans (ynw' l (S := { S with l := remT p S.l }) fun x hx => hf x (k_n _ hx))
def yc7' (n : NodeS) : NodeS := { n with made := 0, changed := 0 }
theorem ys9' (n : NodeS) (s : Bs) : yc7' (addS n s) = addS (yc7' n) s := by unfold addS yc7'; dsimp only; split <;> rfl
theorem yta' (n : NodeS) (s : Bs) : yc7' (remS n s) = remS (yc7' n) s := by unfold remS yc7'; dsimp only; split <;> rfl
theorem you' {n n' : NodeS} (h : yc7' n = yc7' n') (z z' : Int) (d : ByteArray) : yc7' (ycr' n z d) = yc7' (ycr' n' z' d) := by
 unfold yc7' at h
 unfold yc7' ycr'
 injection h with h1 h2 h3 h4 h5 h6 h7 h8
 dsimp only
 rw [h3, h4, h5, h7, h8]
structure Sim (W : List Bs) (X Y : TreeS) : Prop where
 at_ : ∀ p ∈ W, (yak' p X.l).map yc7' = (yak' p Y.l).map yc7'
 kid : ∀ p ∈ W, ∀ q, yap' q = some p → (yak' q X.l).isSome = (yak' q Y.l).isSome
 up : ∀ p ∈ W, ∀ u, yap' p = some u → ∀ n, yak' u X.l = some n → ∃ n', yak' u Y.l = some n' ∧ n'.owner = n.owner
theorem Sim.rfl (W : List Bs) (X : TreeS) : Sim W X X := ⟨fun _ _ => _root_.rfl, fun _ _ _ _ => _root_.rfl, fun _ _ _ _ n h => ⟨n, h, _root_.rfl⟩⟩
theorem Sim.keep {W : List Bs} {X Y Y' : TreeS} (h : Sim W X Y) (h2 : Keep W Y Y') : Sim W X Y' :=
 ⟨fun p hp => by rw [h2.at_ p hp]; exact h.at_ p hp, fun p hp q hq => by rw [h2.kid p hp q hq]; exact h.kid p hp q hq, fun p hp u hu n hn => by
  obtain ⟨n1, a1, a2⟩ := h.up p hp u hu n hn
  obtain ⟨n2, b1, b2⟩ := h2.up p hp u hu n1 a1
  exact ⟨n2, b1, b2.trans a2⟩⟩
theorem Sim.node {W : List Bs} {X Y : TreeS} (h : Sim W X Y) {p : Bs} (hp : p ∈ W) {n : NodeS} (hn : yak' p X.l = some n) : ∃ n', yak' p Y.l = some n' ∧ yc7' n = yc7' n' := by
 have h1 := h.at_ p hp
 rw [hn] at h1
 cases hy : yak' p Y.l with
 | none => rw [hy] at h1; cases h1
 | some n' => rw [hy] at h1; injection h1 with h1; exact ⟨n', _root_.rfl, h1⟩
theorem Sim.none {W : List Bs} {X Y : TreeS} (h : Sim W X Y) {p : Bs} (hp : p ∈ W) (hn : yak' p X.l = none) : yak' p Y.l = none := by
 have h1 := h.at_ p hp
 rw [hn] at h1
 cases hy : yak' p Y.l with
 | none => rfl
 | some n' => rw [hy] at h1; cases h1
theorem yxl' {W : List Bs} {X Y : TreeS} (h : Sim W X Y) (hx : yc6' X.l) (hy : yc6' Y.l) {q : Bs} (h1 : yak' q X.l = none) (h2 : yak' q Y.l = none) {n n' : NodeS} (hn : yc7' n = yc7' n') :
  Sim W { X with l := layT q n X.l } { Y with l := layT q n' Y.l } := by
 refine ⟨fun p hp => ?_, fun p hp k hk => ?_, fun p hp u hu m hm => ?_⟩
 ·rw [yc1' p q n hx h1, yc1' p q n' hy h2]
  split
  ·exact congrArg some hn
  ·split
   ·have := h.at_ p hp
    rw [Option.map_map, Option.map_map]
    have e : (yc7' ∘ fun m => addS m (yeu' q)) = (fun m => addS m (yeu' q)) ∘ yc7' := by funext m; exact ys9' m _
    rw [e, ← Option.map_map, ← Option.map_map, this]
   ·exact h.at_ p hp
 ·rw [yc1' k q n hx h1, yc1' k q n' hy h2]
  split
  ·rfl
  ·split
   ·rw [Option.isSome_map, Option.isSome_map]; exact h.kid p hp k hk
   ·exact h.kid p hp k hk
 ·have hm : yak' u (layT q n X.l) = some m := hm
  show ∃ n'_1, yak' u (layT q n' Y.l) = some n'_1 ∧ _
  rw [yc1' u q n hx h1] at hm
  rw [yc1' u q n' hy h2]
  split at hm
  ·rename_i e
   rw [if_pos e]
   injection hm with hm
   refine ⟨n', rfl, ?_⟩
   rw [← hm]
   exact (congrArg NodeS.owner hn).symm
  ·rename_i e
   rw [if_neg e]
   split at hm
   ·rename_i e2
    rw [if_pos e2]
    obtain ⟨m0, hm0, hm1⟩ := Option.map_eq_some_iff.1 hm
    obtain ⟨n1, a1, a2⟩ := h.up p hp u hu m0 hm0
    rw [a1]
    exact ⟨_, rfl, by rw [ye3', a2, ← hm1, ye3']⟩
   ·rename_i e2
    rw [if_neg e2]
    exact h.up p hp u hu m hm
theorem yxm' {W : List Bs} {X Y : TreeS} (h : Sim W X Y) (q : Bs) : Sim W { X with l := remT q X.l } { Y with l := remT q Y.l } := by
 refine ⟨fun p hp => ?_, fun p hp k hk => ?_, fun p hp u hu m hm => ?_⟩
 ·rw [ycm' p q, ycm' p q]
  split
  ·rfl
  ·split
   ·have := h.at_ p hp
    rw [Option.map_map, Option.map_map]
    have e : (yc7' ∘ fun m => remS m (yeu' q)) = (fun m => remS m (yeu' q)) ∘ yc7' := by funext m; exact yta' m _
    rw [e, ← Option.map_map, ← Option.map_map, this]
   ·exact h.at_ p hp
 ·rw [ycm' k q, ycm' k q]
  split
  ·rfl
  ·split
   ·rw [Option.isSome_map, Option.isSome_map]; exact h.kid p hp k hk
   ·exact h.kid p hp k hk
 ·have hm : yak' u (remT q X.l) = some m := hm
  show ∃ n'_1, yak' u (remT q Y.l) = some n'_1 ∧ _
  rw [ycm' u q] at hm
  rw [ycm' u q]
  split at hm
  ·cases hm
  ·rename_i e
   rw [if_neg e]
   split at hm
   ·rename_i e2
    rw [if_pos e2]
    obtain ⟨m0, hm0, hm1⟩ := Option.map_eq_some_iff.1 hm
    obtain ⟨n1, a1, a2⟩ := h.up p hp u hu m0 hm0
    rw [a1]
    exact ⟨_, rfl, by rw [yec', a2, ← hm1, yec']⟩
   ·rename_i e2
    rw [if_neg e2]
    exact h.up p hp u hu m hm
theorem yxn' {W : List Bs} {X Y : TreeS} (h : Sim W X Y) {q : Bs} {n n' m0 m1 : NodeS} (h1 : yak' q X.l = some m0) (h2 : yak' q Y.l = some m1) (hn : yc7' n = yc7' n') :
  Sim W { X with l := setT q n X.l } { Y with l := setT q n' Y.l } := by
 refine ⟨fun p hp => ?_, fun p hp k hk => ?_, fun p hp u hu m hm => ?_⟩
 ·rw [ycf' p q, ycf' p q]
  split
  ·rw [h1, h2]; exact congrArg some hn
  ·exact h.at_ p hp
 ·rw [ycf' k q, ycf' k q]
  split
  ·rw [h1, h2]; rfl
  ·exact h.kid p hp k hk
 ·have hm : yak' u (setT q n X.l) = some m := hm
  show ∃ n'_1, yak' u (setT q n' Y.l) = some n'_1 ∧ _
  rw [ycf' u q] at hm
  rw [ycf' u q]
  split at hm
  ·rename_i e
   rw [if_pos e]
   rw [h1] at hm
   rw [h2]
   injection hm with hm
   refine ⟨_, rfl, ?_⟩
   rw [← hm]
   exact (congrArg NodeS.owner hn).symm
  ·rename_i e
   rw [if_neg e]
   exact h.up p hp u hu m hm
theorem yqb' {S : TreeS} {p : Bs} (h : yak' p S.l = none) (hl : (S.l.length : Int) < S.room) : endT S p = (0, p) := by
 unfold endT
 rw [if_neg (by rw [h]; decide), if_neg (by omega)]
theorem yr3' {W : List Bs} {X Y : TreeS} (h : Sim W X Y) {o : OpS} (hw : ∀ p ∈ ya3' o, p ∈ W) (hk : o.kind = 1) (h0 : (yax' X o).1 = 0) (hl : (Y.l.length : Int) < Y.room) : yax' Y o = yax' X o ∧ yak' (yax' X o).2 Y.l = none := by
 obtain ⟨a1, -, a3, a4, a5⟩ := ydo' h0
 have hp := hw _ (ygv' o)
 have hno : yak' (yax' X o).2 Y.l = none := by
  rcases a4 with e | ⟨up, m, e1, e2, e3, e4⟩
  ·rw [e] at a1 ⊢; exact h.none hp a1
  ·have := h.kid up (hw _ (ykp' e1 hk e2)) (yax' X o).2 (a3.trans e1)
   rw [a1] at this
   cases hy : yak' (yax' X o).2 Y.l with
   | none => rfl
   | some _ => rw [hy] at this; cases this
 refine ⟨?_, hno⟩
 have hx : yax' X o = (0, (yax' X o).2) := Prod.ext h0 rfl
 rw [hx]
 obtain ⟨qq, hqq⟩ : ∃ q, (yax' X o).2 = q := ⟨_, rfl⟩
 rw [hqq] at hno a4 ⊢
 rcases hpp : yap' o.p with - | up
 ·have e : qq = o.p := by
   rcases a4 with e | ⟨up, m, e1, -⟩
   ·exact e
   ·rw [hpp] at e1; cases e1
  rw [e] at hno ⊢
  unfold yax'
  rw [hpp]
  exact yqb' hno hl
 ·obtain ⟨m, b1, b2⟩ := a5 up hpp
  obtain ⟨m', c1, c2⟩ := h.up _ hp up hpp m b1
  have c3 : m'.owner = 0 := c2.trans b2
  by_cases hs : seqF o.flags = true
  ·have hup := hw _ (ykp' hpp hk hs)
   obtain ⟨m2, d1, d2⟩ := h.node hup b1
   rw [c1] at d1
   injection d1 with d1
   have hnx : m'.next = m.next := by rw [d1]; exact (congrArg NodeS.next d2).symm
   have hq : yba' o.p m.next = some qq := by
    rcases a4 with e | ⟨up', m3, e1, -, e3, e4⟩
    ·-- the number is there: the place is not the path itself
     have hz := h0
     have hee : yax' X o = match yba' o.p m.next with | none => (1, []) | some q => endT X q := by
      unfold yax'
      rw [hpp]
      dsimp only
      rw [b1]
      dsimp only
      rw [if_neg (fun hh => hh b2), if_pos hs]
      rfl
     rw [hee] at hz
     cases hq : yba' o.p m.next with
     | none => rw [hq] at hz; cases hz
     | some q =>
      rw [hq] at hz
      have := ytn' hz
      rw [← hqq, hee, hq]
      exact congrArg some this.symm
    ·rw [hpp] at e1
     injection e1 with e1
     rw [← e1, b1] at e3
     injection e3 with e3
     rw [e3]; exact e4
   unfold yax'
   rw [hpp]
   dsimp only
   rw [c1]
   dsimp only
   rw [if_neg (fun hh => hh c3), if_pos hs, hnx, hq]
   dsimp only
   exact yqb' hno hl
  ·have e : qq = o.p := by
    rcases a4 with e | ⟨up', m3, -, e2, -⟩
    ·exact e
    ·exact absurd e2 hs
   rw [e] at hno ⊢
   unfold yax'
   rw [hpp]
   dsimp only
   rw [c1]
   dsimp only
   rw [if_neg (fun hh => hh c3), if_neg hs]
   exact yqb' hno hl
theorem yyl' {K K' : Nat} {W : List Bs} {X Y : TreeS} (h : Sim W X Y) (hx : TreeB K X) (hy : TreeB K' Y) {o : OpS} (hw : ∀ p ∈ ya3' o, p ∈ W) {sess z z' : Int} (he : (doT X o sess z).1.err = 0) (hz : 0 ≤ z')
  (hl : o.kind = 1 → (Y.l.length : Int) < Y.room) :
  (doT Y o sess z').1.err = 0 ∧ (doT Y o sess z').1.path = (doT X o sess z).1.path ∧ Sim W (doT X o sess z).2 (doT Y o sess z').2 ∧ ((doT Y o sess z').2.l.length : Int) - Y.l.length = ((doT X o sess z).2.l.length : Int) - X.l.length := by
 have hp := hw _ (ygv' o)
 unfold doT at he ⊢
 by_cases h1 : ybk' o ≠ 0
 ·rw [if_pos h1] at he; exact absurd he h1
 rw [if_neg h1] at he
 rw [if_neg h1, if_neg h1]
 by_cases h2 : sess < 1 ∨ z < 0
 ·rw [if_pos h2] at he; exact absurd he (by show (1 : Int) ≠ 0; decide)
 rw [if_neg h2] at he
 rw [if_neg h2, if_neg (show ¬ (sess < 1 ∨ z' < 0) by omega)]
 by_cases h3 : o.kind = 1
 ·rw [if_pos h3] at he
  rw [if_pos h3, if_pos h3]
  unfold ybq' at he ⊢
  by_cases h4 : (yax' X o).1 ≠ 0
  ·rw [if_pos h4] at he; exact absurd he h4
  have h4' : (yax' X o).1 = 0 := by omega
  obtain ⟨b1, b2⟩ := yr3' h hw h3 h4' (hl h3)
  rw [if_neg h4, b1, if_neg h4]
  refine ⟨rfl, rfl, ?_, ?_⟩
  ·exact yxl' h hx.rise hy.rise (ydo' h4').1 b2 rfl
  ·show ((layT _ _ _).length : Int) - _ = ((layT _ _ _).length : Int) - _
   rw [yqp', yqp']
   omega
 rw [if_neg h3] at he
 rw [if_neg h3, if_neg h3]
 by_cases h4 : o.kind = 2 ∨ o.kind = 3 ∨ o.kind = 4
 ·rw [if_pos h4] at he
  rw [if_pos h4, if_pos h4]
  unfold ybo' at he ⊢
  cases hn : yak' o.p X.l with
  | none => rw [hn] at he; exact absurd he (by show (4 : Int) ≠ 0; decide)
  | some n =>
   obtain ⟨n', c1, c2⟩ := h.node hp hn
   rw [hn] at he
   rw [c1]
   dsimp only at he ⊢
   have hwr : yff' o n' = yff' o n := by unfold yff'; rw [show n'.ver = n.ver from (congrArg NodeS.ver c2).symm]
   have hnm : n'.names = n.names := (congrArg NodeS.names c2).symm
   rw [hwr, hnm]
   by_cases g1 : yff' o n = true
   ·rw [if_pos g1] at he; exact absurd he (by show (6 : Int) ≠ 0; decide)
   rw [if_neg g1] at he
   rw [if_neg g1, if_neg g1]
   by_cases g2 : o.kind = 2 ∧ 0 < n.names.length
   ·rw [if_pos g2] at he; exact absurd he (by show (7 : Int) ≠ 0; decide)
   rw [if_neg g2, if_neg g2]
   by_cases g3 : o.kind = 2
   ·rw [if_pos g3, if_pos g3]
    refine ⟨rfl, rfl, yxm' h o.p, ?_⟩
    show ((remT _ _).length : Int) - _ = ((remT _ _).length : Int) - _
    have e1 := yod' hx.rise hn
    have e2 := yod' hy.rise c1
    omega
   rw [if_neg g3, if_neg g3]
   by_cases g4 : o.kind = 3
   ·rw [if_pos g4, if_pos g4]
    refine ⟨rfl, rfl, yxn' h hn c1 (you' c2 _ _ _), ?_⟩
    show ((setT _ _ _).length : Int) - _ = ((setT _ _ _).length : Int) - _
    rw [ye9', ye9']
    omega
   rw [if_neg g4, if_neg g4]
   exact ⟨rfl, rfl, h, by dsimp only; omega⟩
 rw [if_neg h4] at he
 rw [if_neg h4, if_neg h4]
 unfold yh9' at he ⊢
 cases hn : yak' o.p X.l with
 | none => rw [hn] at he; exact absurd he (by show (4 : Int) ≠ 0; decide)
 | some n =>
  obtain ⟨n', c1, c2⟩ := h.node hp hn
  rw [c1]
  exact ⟨rfl, rfl, h, by dsimp only; omega⟩
theorem yqa' (S : TreeS) (o : OpS) (sess z : Int) : (doT S o sess z).2.l.length ≤ S.l.length + (if o.kind = 1 then 1 else 0) := by
 by_cases hk : o.kind = 1
 ·rw [if_pos hk]; exact yx3' S o sess z
 ·rw [if_neg hk]
  unfold doT
  by_cases h1 : ybk' o ≠ 0
  ·rw [if_pos h1]; exact Nat.le_refl _
  rw [if_neg h1]
  by_cases h2 : sess < 1 ∨ z < 0
  ·rw [if_pos h2]; exact Nat.le_refl _
  rw [if_neg h2, if_neg hk]
  by_cases h4 : o.kind = 2 ∨ o.kind = 3 ∨ o.kind = 4
  ·rw [if_pos h4]
   unfold ybo'
   split
   ·exact Nat.le_refl _
   ·split
    ·exact Nat.le_refl _
    ·split
     ·exact Nat.le_refl _
     ·split
      ·exact yrq' _ _
      ·split
       ·show (setT _ _ _).length ≤ _; rw [ye9']; exact Nat.le_refl _
       ·exact Nat.le_refl _
  ·rw [if_neg h4]; exact Nat.le_refl _
theorem yl3' {W : List Bs} {sess z z' : Int} (hz : 0 ≤ z') : ∀ (l : List OpS) {K K' : Nat} {X Y : TreeS}, Sim W X Y → TreeB K X → TreeB K' Y → Y.room = X.room → (∀ o ∈ l, ∀ p ∈ ya3' o, p ∈ W) → (yao' sess z l X).2.2 = 0 →
  (((Y.l.length + yam' l : Nat) : Int) ≤ Y.room ∨ Y.l.length ≤ X.l.length) → (yao' sess z' l Y).2.2 = 0
 | [], _, _, _, _, _, _, _, _, _, _, _ => rfl
 | o :: l, K, K', X, Y, h, hx, hy, hr, hw, he, hl => by
  have he0 := yig' he
  have hlen : o.kind = 1 → (Y.l.length : Int) < Y.room := fun hk => by
   rcases hl with hl | hl
   ·have : yam' (o :: l) = yam' l + 1 := by
     have := ycv' [o] l
     rw [ydk', if_pos hk] at this
     have e : [o] ++ l = o :: l := rfl
     rw [e] at this; omega
    omega
   ·have hxl : (X.l.length : Int) < X.room := by
     unfold doT at he0
     by_cases h1 : ybk' o ≠ 0
     ·rw [if_pos h1] at he0; exact absurd he0 h1
     rw [if_neg h1] at he0
     by_cases h2 : sess < 1 ∨ z < 0
     ·rw [if_pos h2] at he0; exact absurd he0 (by show (1 : Int) ≠ 0; decide)
     rw [if_neg h2, if_pos hk] at he0
     unfold ybq' at he0
     by_cases h4 : (yax' X o).1 ≠ 0
     ·rw [if_pos h4] at he0; exact absurd he0 h4
     exact (ydo' (S := X) (o := o) (by omega)).2.1
    omega
  obtain ⟨a1, -, a2, a3⟩ := yyl' (z := z) h hx hy (hw o k_s) he0 hz hlen
  rw [ygq' l he0] at he
  rw [ygq' l a1]
  refine yl3' hz l a2 (do_b hx o sess z) (do_b hy o sess z') ?_ (fun x hx => hw x (k_n _ hx)) he ?_
  ·rw [yhq', yhq']; exact hr
  ·rcases hl with hl | hl
   ·left
    rw [yhq']
    have hc : yam' (o :: l) = (if o.kind = 1 then 1 else 0) + yam' l := by
     have := ycv' [o] l
     rw [ydk'] at this
     exact this
    have h5 := yqa' Y o sess z'
    omega
   ·right; omega
end Go.Av

namespace Go.Av
open Go.RowKit
def yyq' (e : Bs × NodeS) : Bs × NodeS := (e.1, yc7' e.2)
def yyr' (l : NoL) : NoL := l.map yyq'
def yxz' (S : TreeS) : TreeS := ⟨S.room, yyr' S.l⟩
structure Like (S S' : PartS) : Prop where
 t : yxz' S.t = yxz' S'.t
 held : S.held = S'.held
 wait : S.wait = S'.wait
 closed : S.closed = S'.closed
end Go.Av

namespace Go.Proofs.YtcnkifbjlihaoaaGreatDoor
open Go.RowKit Go.Av
theorem ytp' {sess num : Int} {l : List OpS} (h : mayS sess num l ≠ 0) : getR (putR sess num l) = none := by
 unfold putR
 rw [if_pos h]
 exact ynt'
def locC (id : Int) (ops : List OpS) : CmdS := ⟨1, id, 0, 1, id, ops, [], 0, false⟩
theorem yts' (k id : Int) (x : Bs) (h1 : -9223372036854775808 ≤ k ∧ k ≤ 9223372036854775807) (h2 : -9223372036854775808 ≤ id ∧ id ≤ 9223372036854775807) : yit' ((yad' k ++ yad' id) ++ x) = (k, id, x, false) := by
 unfold yit'
 rw [List.append_assoc, yby' k _ false h1.1 h1.2]
 dsimp only
 rw [yby' id x false h2.1 h2.2]
theorem yue' {id : Int} (h0 : 0 ≤ id) (h1 : id ≤ 9223372036854775807) (ops : List OpS) : rawC (putC (locC id ops)) =
  (⟨1, id, 0, (ya5' (putR 1 id ops)).1, (ya5' (putR 1 id ops)).2.1, (ya5' (putR 1 id ops)).2.2, [], 0, false⟩, ([], false), (getR (putR 1 id ops)).isNone) := by
 have hp : putC (locC id ops) = (yad' 1 ++ yad' id) ++ ybl' (putR 1 id ops) := by unfold putC; rw [if_pos (show (locC id ops).kind = 1 from rfl)]; rfl
 have ht := ycz' 40000 (putR 1 id ops) [] false (by have := ydf' 1 id ops; omega) (by omega)
 rw [List.append_nil] at ht
 unfold rawC
 rw [hp, yts' 1 id _ (by omega) (by omega)]
 dsimp only
 rw [if_pos rfl, ht]
theorem yns' {id : Int} (h0 : 1 ≤ id) (h1 : id ≤ 9223372036854775807) {ops : List OpS} (hf : ∀ o ∈ ops, FitO o) : getC (putC (locC id ops)) = if mayS 1 id ops = 0 then some (locC id ops) else none := by
 unfold getC
 rw [yue' (by omega) h1]
 by_cases hm : mayS 1 id ops = 0
 ·have hg := yha' hm (by omega) h1 hf
  unfold ya5'
  rw [hg, if_pos hm]
  dsimp only [Option.getD, Option.isNone]
  rw [if_pos ⟨rfl, rfl, rfl⟩]
  rfl
 ·rw [ytp' hm, if_neg hm, if_neg]
  rintro ⟨h, -⟩
  cases h
theorem yyh' {c c' : CmdS} (h : getC (putC c) = some c) (h' : getC (putC c') = some c') (hne : c.kind ≠ c'.kind ∨ c.id ≠ c'.id) : putC c ≠ putC c' := by
 intro e
 rw [e, h'] at h
 injection h with h
 rcases hne with h1 | h1
 ·exact h1 (by rw [h])
 ·exact h1 (by rw [h])
theorem yo7' {b : Bs} {K : List (Bs × OutS)} (h : ∀ e ∈ K, e.1 ≠ b) : ylf' b K = none := by
 unfold ylf'
 have : K.find? (fun e => decide (e.1 = b)) = none := List.find?_eq_none.2 fun e he => by simpa using h e he
 rw [this]
 rfl
theorem yua' {S : ShardS} {id : Int} (h0 : 1 ≤ id) (h1 : id ≤ 9223372036854775807) {ops : List OpS} (hf : ∀ o ∈ ops, FitO o) (hk : ∀ e ∈ S.known, ∃ c, getC (putC c) = some c ∧ e.1 = putC c ∧ (c.kind ≠ 1 ∨ c.id ≠ id)) :
  yc5' S (putC (locC id ops)) = if mayS 1 id ops = 0 then (⟨1, id, (yb0' S.p 1 id ops).1, 0, 0, [], false⟩, { S with p := (yb0' S.p 1 id ops).2, played := S.played + 1, known := S.known ++ [(putC (locC id ops), ⟨1, id, (yb0' S.p 1 id ops).1, 0, 0, [], false⟩)] })
   else (badO, { S with played := S.played + 1 }) := by
 have hg := yns' h0 h1 hf
 unfold yc5'
 by_cases hm : mayS 1 id ops = 0
 ·rw [if_pos hm] at hg
  have hl : ylf' (putC (locC id ops)) S.known = none := yo7' fun e he => by
   obtain ⟨c, c1, c2, c3⟩ := hk e he
   rw [c2]
   exact yyh' c1 hg c3
  rw [hg, if_pos hm]
  dsimp only
  rw [hl]
  dsimp only
  unfold doC
  rw [if_pos (show (locC id ops).kind = 1 from rfl)]
  rfl
 ·rw [if_neg hm] at hg
  rw [hg, if_neg hm]
end Go.Proofs.YtcnkifbjlihaoaaGreatDoor

namespace Go.Av
open Go.RowKit
def yg4' (ops : List OpS) : List Bs := ops.flatMap ya3'
theorem ypq' {o : OpS} (h : ya4' o.p = true) : ∀ p ∈ ya3' o, ya4' p = true := by
 intro p hp
 unfold ya3' at hp
 split at hp
 ·rw [List.mem_singleton] at hp; rw [hp]; exact h
 ·rename_i up hup
  split at hp
  ·rcases List.mem_cons.1 hp with hp | hp
   ·rw [hp]; exact h
   ·rw [List.mem_singleton] at hp; rw [hp]; exact ym0' hup
  ·rw [List.mem_singleton] at hp; rw [hp]; exact h
theorem yqf' {o : OpS} (h : ybk' o = 0) : ya4' o.p = true := (yb2' (yce' h).1).2.2.1
theorem yq2' (p : Bs) : yda' p p = true := by unfold yda'; simp
theorem yfi' {H : ybz'} {who : Int} {p : Bs} (h : ybn' H who p = false) (hg : ya4' p = true) : ∀ e ∈ H, e.2 ≠ who → yda' p e.1 = false := by
 intro e he hw
 unfold ybn' at h
 rw [hg, Bool.true_and] at h
 have := List.any_eq_false.1 h e he
 cases hn : yda' p e.1 with
 | false => rfl
 | true => exact absurd (by simp [hw, hn]) this
theorem yoo' {H : ybz'} {id : Int} {ops : List OpS} (h : yeh' H id ops = none) : ∀ o ∈ ops, ∀ p ∈ ya3' o, ybn' H id p = false := by
 intro o ho p hp
 have h1 := List.findIdx?_eq_none_iff.1 h o ho
 have h2 := List.any_eq_false.1 h1 p hp
 simpa using h2
theorem yuo' {H : ybz'} {p : Bs} {who : Int} {e : Bs × Int} (he : e ∈ H) (hne : e.1 ≠ p ∨ e.2 = who) : e ∈ setH H p who := by
 unfold setH
 by_cases h : (H.any fun e => decide (e.1 = p)) = true
 ·rw [if_pos h]
  refine List.mem_map.2 ⟨e, he, ?_⟩
  by_cases hp : e.1 = p
  ·rw [if_pos hp]
   rcases hne with h1 | h1
   ·exact absurd hp h1
   ·rw [← h1, ← hp]
  ·rw [if_neg hp]
 ·rw [if_neg h]
  exact List.mem_append_left _ he
theorem yk7' {who : Int} {e : Bs × Int} : ∀ (ps : List Bs) {H : ybz'}, e ∈ H → ((∀ p ∈ ps, e.1 ≠ p) ∨ e.2 = who) → e ∈ ps.foldl (fun H p => setH H p who) H
 | [], _, h, _ => h
 | p :: ps, H, h, hne => yk7' ps (yuo' h (hne.imp (fun g => g p k_s) id)) (hne.imp (fun g q hq => g q (k_n _ hq)) id)
theorem yjo' {H : ybz'} {who : Int} {ps : List Bs} (h : ¬ (ymh' H who ps).isSome = true) : ∀ p ∈ ps, ya4' p = true ∧ ybn' H who p = false := by
 unfold ymh' at h
 split at h
 ·exact absurd rfl h
 ·rename_i h1
  intro p hp
  have a := List.find?_eq_none.1 h1 p hp
  have b := List.find?_eq_none.1 (by cases hq : ps.find? (fun p => ybn' H who p) with | none => rfl | some _ => rw [hq] at h; exact absurd rfl h) p hp
  exact ⟨by simpa using a, by simpa using b⟩
theorem ysj' {H : ybz'} {who : Int} {ps : List Bs} {e : Bs × Int} (he : e ∈ H) : e ∈ ygb' H who ps := by
 unfold ygb'
 split
 ·exact he
 ·rename_i h
  refine yk7' ps he ?_
  by_cases hw : e.2 = who
  ·exact .inr hw
  ·refine .inl fun p hp e1 => ?_
   obtain ⟨g1, g2⟩ := yjo' h p hp
   have := yfi' g2 g1 e he hw
   rw [e1, yq2'] at this
   cases this
theorem ylh' {W : yd2'} {id : Int} {x : WaitS} (h : yd3' W id = some x) : (id, x) ∈ W := by
 unfold yd3' at h
 obtain ⟨e, h1, h2⟩ := Option.map_eq_some_iff.1 h
 have h3 := List.find?_some h1
 have h4 : e.1 = id := by simpa using h3
 have h5 := List.mem_of_find?_eq_some h1
 rw [← h4, ← h2]
 exact h5
theorem yqw' {W : yd2'} {id : Int} {x : WaitS} {e : Int × WaitS} (h : yd3' W id = some x) : yd3' (W ++ [e]) id = some x := by
 unfold yd3' at h ⊢
 obtain ⟨y, h1, h2⟩ := Option.map_eq_some_iff.1 h
 rw [List.find?_append, h1]
 exact congrArg some h2
theorem yqt' {W : yd2'} {id i : Int} (hne : i ≠ id) : yd3' (delW W id) i = yd3' W i := by
 unfold yd3' delW
 rw [List.find?_filter]
 congr 1
 congr 1
 funext e
 by_cases h : e.1 = i
 ·simp [h, hne]
 ·simp [h]
def ygh' (e : Int × WaitS) : Nat := if e.2.fails then 0 else yam' e.2.ops
theorem yb6' (e : Int × WaitS) (W : yd2') : yaw' (e :: W) = ygh' e + yaw' W := by unfold yaw' ygh'; rw [List.map_cons, List.sum_cons]
theorem ymd' (W : yd2') (e : Int × WaitS) : yaw' (W ++ [e]) = yaw' W + ygh' e := by
 unfold yaw' ygh'
 rw [List.map_append, List.sum_append]
 simp
theorem yjl' (id : Int) : ∀ W : yd2', yaw' (delW W id) ≤ yaw' W
 | [] => Nat.le_refl _
 | e :: W => by
  have ih := yjl' id W
  unfold delW at ih ⊢
  rw [List.filter_cons]
  split
  ·rw [yb6', yb6']; omega
  ·rw [yb6']; omega
theorem yio' {id : Int} {x : WaitS} : ∀ {W : yd2'}, yd3' W id = some x → yaw' (delW W id) + ygh' (id, x) ≤ yaw' W
 | [], h => by cases h
 | e :: W, h => by
  by_cases he : e.1 = id
  ·have h1 : yd3' (e :: W) id = some e.2 := by unfold yd3'; rw [List.find?_cons]; simp [he]
   rw [h1] at h
   injection h with h
   have h2 : delW (e :: W) id = delW W id := by unfold delW; rw [List.filter_cons, if_neg (by simp [he])]
   have h3 := yjl' id W
   rw [h2, yb6']
   have h4 : ygh' (id, x) = ygh' e := by unfold ygh'; rw [← h]
   omega
  ·have hb : (e.1 == id) = false := by simpa using he
   have h1 : yd3' (e :: W) id = yd3' W id := by unfold yd3'; rw [List.find?_cons, hb]
   rw [h1] at h
   have ih := yio' h
   have h2 : delW (e :: W) id = e :: delW W id := by unfold delW; rw [List.filter_cons, if_pos (by simp [he])]
   rw [h2, yb6', yb6']
   omega
theorem yme' {e : Int × WaitS} : ∀ {W : yd2'}, e ∈ W → ygh' e ≤ yaw' W
 | y :: W, h => by
  rw [yb6']
  rcases List.mem_cons.1 h with rfl | h
  ·omega
  ·have := yme' h; omega
theorem ykz' (o : OpS) (l : List OpS) : yam' (o :: l) = (if o.kind = 1 then 1 else 0) + yam' l := by
 have := ycv' [o] l
 rw [ydk'] at this
 exact this
theorem yl6' {sess z : Int} : ∀ (l : List OpS) (S : TreeS), (yao' sess z l S).2.1.l.length ≤ S.l.length + yam' l
 | [], _ => Nat.le_refl _
 | o :: l, S => by
  have h1 := yqa' S o sess z
  have h2 := yl6' (sess := sess) (z := z) l (doT S o sess z).2
  rw [ykz']
  unfold yao'
  split
  ·dsimp only; omega
  ·dsimp only; omega
theorem ynz' (S : TreeS) (sess z : Int) (l : List OpS) : (ybw' S sess z l).2.1.l.length ≤ S.l.length + yam' l := by
 unfold ybw'
 split
 ·dsimp only; omega
 ·split
  ·dsimp only; omega
  ·split
   ·dsimp only; omega
   ·exact yl6' l S
theorem ym3' (S : TreeS) (sess num z : Int) (l : List OpS) : (ya1' S sess num z l).2.l.length ≤ S.l.length + yam' l := by
 unfold ya1'
 split
 ·dsimp only; omega
 ·exact ynz' S sess z l
def OwnK (s : Int) (S S' : TreeS) : Prop := ∀ p n, yak' p S'.l = some n → n.owner = s → ∃ n0, yak' p S.l = some n0 ∧ n0.owner = s
theorem OwnK.rfl (s : Int) (S : TreeS) : OwnK s S S := fun _ n h ho => ⟨n, h, ho⟩
theorem OwnK.trans {s : Int} {X Y Z : TreeS} (h : OwnK s X Y) (h2 : OwnK s Y Z) : OwnK s X Z := fun p n hn ho => by
 obtain ⟨m, h3, h4⟩ := h2 p n hn ho
 exact h p m h3 h4
theorem yyc' {K : Nat} {S : TreeS} (hB : TreeB K S) (o : OpS) {sess s : Int} (z : Int) (hs : 0 < s) (hne : s ≠ sess) : OwnK s S (doT S o sess z).2 := by
 unfold doT
 split
 ·exact .rfl s S
 ·split
  ·exact .rfl s S
  ·split
   ·unfold ybq'
    split
    ·exact .rfl s S
    ·rename_i hz
     obtain ⟨a1, -⟩ := ydo' (S := S) (o := o) (by omega)
     intro p n hn ho
     have hn : yak' p (layT (yax' S o).2 (ymp' o sess z) S.l) = some n := hn
     rw [yc1' p _ _ hB.rise a1] at hn
     split at hn
     ·exfalso
      injection hn with hn
      rw [← hn] at ho
      have ho : (if ephF o.flags then sess else 0) = s := ho
      split at ho <;> omega
     ·split at hn
      ·obtain ⟨m, h1, h2⟩ := Option.map_eq_some_iff.1 hn
       exact ⟨m, h1, by rw [← ho, ← h2, ye3']⟩
      ·exact ⟨n, hn, ho⟩
   ·split
    ·unfold ybo'
     split
     ·exact .rfl s S
     ·rename_i n0 hn0
      split
      ·exact .rfl s S
      ·split
       ·exact .rfl s S
       ·split
        ·intro p n hn ho
         have hn : yak' p (remT o.p S.l) = some n := hn
         rw [ycm'] at hn
         split at hn
         ·cases hn
         ·split at hn
          ·obtain ⟨m, h1, h2⟩ := Option.map_eq_some_iff.1 hn
           exact ⟨m, h1, by rw [← ho, ← h2, yec']⟩
          ·exact ⟨n, hn, ho⟩
        ·split
         ·intro p n hn ho
          have hn : yak' p (setT o.p (ycr' n0 z o.data) S.l) = some n := hn
          rw [ycf'] at hn
          split at hn
          ·rename_i e
           rw [hn0] at hn
           injection hn with hn
           rw [e]
           exact ⟨n0, hn0, by rw [← ho, ← hn]; rfl⟩
          ·exact ⟨n, hn, ho⟩
         ·exact .rfl s S
    ·exact .rfl s S
theorem yls' {sess z s : Int} (hs : 0 < s) (hne : s ≠ sess) : ∀ (l : List OpS) {K : Nat} {S : TreeS}, TreeB K S → OwnK s S (yao' sess z l S).2.1
 | [], _, S, _ => .rfl s S
 | o :: l, K, S, hB => by
  have h1 := yyc' hB o z hs hne
  unfold yao'
  split
  ·exact h1
  ·exact h1.trans (yls' hs hne l (do_b hB o sess z))
theorem yn7' {K : Nat} {S : TreeS} (hB : TreeB K S) (l : List OpS) {sess s : Int} (z : Int) (hs : 0 < s) (hne : s ≠ sess) : OwnK s S (ybw' S sess z l).2.1 := by
 unfold ybw'
 split
 ·exact .rfl s S
 ·split
  ·exact .rfl s S
  ·split
   ·exact .rfl s S
   ·exact yls' hs hne l hB
theorem ymy' {K : Nat} {S : TreeS} (hB : TreeB K S) (l : List OpS) {sess s : Int} (num z : Int) (hs : 0 < s) (hne : s ≠ sess) : OwnK s S (ya1' S sess num z l).2 := by
 unfold ya1'
 split
 ·exact .rfl s S
 ·exact yn7' hB l z hs hne
theorem yrb' (s : Int) : ∀ (l : List Bs) (S : TreeS), OwnK s S (purT l S)
 | [], S => .rfl s S
 | p :: l, S => by
  refine OwnK.trans (Y := { S with l := remT p S.l }) (fun q n hn ho => ?_) (yrb' s l _)
  have hn : yak' q (remT p S.l) = some n := hn
  rw [ycm'] at hn
  split at hn
  ·cases hn
  ·split at hn
   ·obtain ⟨m, h1, h2⟩ := Option.map_eq_some_iff.1 hn
    exact ⟨m, h1, by rw [← ho, ← h2, yec']⟩
   ·exact ⟨n, hn, ho⟩
theorem ymz' {K K' : Nat} {s : Int} {S S' : TreeS} (h : OwnK s S S') (hB : TreeB K S) (hB' : TreeB K' S') : ∀ p ∈ ofT S' s, p ∈ ofT S s := by
 intro p hp
 obtain ⟨n, h1, h2, h3⟩ := yvj'.1 hp
 obtain ⟨m, h4, h5⟩ := h p n ((ybj' (ya9' hB'.rise)).2 h1) h3
 exact yvj'.2 ⟨m, (ybj' (ya9' hB.rise)).1 h4, h2, h5⟩
structure Fore (ops : List OpS) (X : TreeS) (S : PartS) : Prop where
 look : yd3' S.wait 7 = some ⟨1, ops, false, false⟩
 held : ∀ p ∈ yg4' ops, (p, (7 : Int)) ∈ S.held
 sim : Sim (yg4' ops) X S.t
 room : S.t.room = X.room
 others : ∀ e ∈ S.wait, e.1 ≠ 7 → e.2.close = false → ∀ o ∈ e.2.ops, ∀ p ∈ ya3' o, FarW (yg4' ops) p
 closes : ∀ e ∈ S.wait, e.2.close = true → 0 < e.2.sess ∧ e.2.ops = [] ∧ ∀ p ∈ ofT S.t e.2.sess, FarW (yg4' ops) p
 sess : ∀ e ∈ S.wait, e.2.close = true → ∀ e' ∈ S.wait, e'.2.close = false → e.2.sess ≠ e'.2.sess
 cap : yam' ops = 0 ∨ ((S.t.l.length + yaw' S.wait : Nat) : Int) ≤ S.t.room ∨ (S.t.l.length ≤ X.l.length ∧ ∀ e ∈ S.wait, e.1 ≠ 7 → ygh' e = 0)
theorem Fore.in_ {ops : List OpS} {X : TreeS} {S : PartS} (h : Fore ops X S) : ((7 : Int), (⟨1, ops, false, false⟩ : WaitS)) ∈ S.wait := ylh' h.look
theorem Fore.want {ops : List OpS} {X : TreeS} {S : PartS} (h : Fore ops X S) : yam' ops ≤ yaw' S.wait := yme' h.in_
theorem yp4' {S : PartS} {id sess : Int} {ops : List OpS} (h : ¬ (yd8' S id sess ops).1 ≠ 0) : yc0' S.wait sess = false ∧ yeh' S.held id ops = none ∧ ¬ (0 < yam' ops ∧ 0 < yaw' S.wait ∧ S.t.room < yaw' S.wait + S.t.l.length + yam' ops) := by
 unfold yd8' at h
 split at h
 ·exact absurd (by show (11 : Int) ≠ 0; decide) h
 ·split at h
  ·exact absurd (by show (12 : Int) ≠ 0; decide) h
  ·rename_i h2
   split at h
   ·exact absurd (by show (12 : Int) ≠ 0; decide) h
   ·rename_i h3
    split at h
    ·exact absurd (by show (12 : Int) ≠ 0; decide) h
    ·rename_i h4
     exact ⟨by simpa using h2, h3, h4⟩
theorem Fore.far {ops : List OpS} {X : TreeS} {S : PartS} (h : Fore ops X S) {id sess : Int} {l : List OpS} (hid : id ≠ 7) (hb : ¬ (yd8' S id sess l).1 ≠ 0) (hg : ∀ o ∈ l, ybk' o = 0) : ∀ o ∈ l, ∀ p ∈ ya3' o, FarW (yg4' ops) p := by
 intro o ho p hp q hq
 have h1 := yoo' (yp4' hb).2.1 o ho p hp
 exact yfi' h1 (ypq' (yqf' (hg o ho)) p hp) _ (h.held q hq) (fun e => hid e.symm)
theorem yos' {W : yd2'} {sess : Int} (h : yc0' W sess = false) : ∀ e ∈ W, e.2.close = true → e.2.sess ≠ sess := by
 intro e he hc hs
 have := List.any_eq_false.1 h e he
 rw [hc, hs] at this
 simp at this
theorem Fore.local {K : Nat} {ops : List OpS} {X : TreeS} {S : PartS} (h : Fore ops X S) (hB : PartB K S) (sess num : Int) (l : List OpS) : Fore ops X (yb0' S sess num l).2 := by
 unfold yb0'
 split
 ·exact h
 ·rename_i hm
  split
  ·exact ⟨h.look, h.held, h.sim, h.room, h.others, h.closes, h.sess, h.cap⟩
  ·rename_i hb
   have hg := yfx' (by simpa using hm : mayS sess num l = 0)
   have hf := h.far (by decide) hb hg.2
   obtain ⟨b1, b2, b3⟩ := yp4' hb
   have hr := yl0' hB.tree sess num (S.zxid + 1) l
   refine ⟨h.look, h.held, h.sim.keep (ylb' hB.tree hf _ _ _), (yew' ..).trans h.room, h.others, fun e he hc => ?_, h.sess, ?_⟩
   ·obtain ⟨c1, c2, c3⟩ := h.closes e he hc
    exact ⟨c1, c2, fun p hp => c3 p (ymz' (ymy' hB.tree l num (S.zxid + 1) c1 (yos' b1 e he hc)) hB.tree hr p hp)⟩
   ·have hlen := ym3' S.t sess num (S.zxid + 1) l
    have hw := h.want
    show _ ∨ (((ya1' S.t sess num (S.zxid + 1) l).2.l.length + yaw' S.wait : Nat) : Int) ≤ (ya1' S.t sess num (S.zxid + 1) l).2.room ∨ ((ya1' S.t sess num (S.zxid + 1) l).2.l.length ≤ X.l.length ∧ _)
    rw [yew']
    by_cases h0 : yam' ops = 0
    ·exact .inl h0
    ·right
     by_cases hc : yam' l = 0
     ·rcases h.cap with h2 | h2 | h2
      ·exact absurd h2 h0
      ·left; omega
      ·right; exact ⟨by omega, h2.2⟩
     ·left; omega
theorem Fore.close {K : Nat} {ops : List OpS} {X : TreeS} {S : PartS} (h : Fore ops X S) (hB : PartB K S) {id : Int} (hid : id ≠ 7) (sess : Int) : Fore ops X (yfc' S id sess).2 := by
 unfold yfc'
 split
 ·exact h
 ·rename_i hk
  split
  ·exact h
  ·split
   ·exact h
   ·rename_i hu
    split
    ·exact h
    ·rename_i hw
     have hs : 0 < sess := by
      unfold ylc' at hk
      simp only [Bool.or_eq_true, decide_eq_true_eq, not_or] at hk
      omega
     have huse : ∀ e ∈ S.wait, e.2.sess ≠ sess := fun e he hh => by
      have hu : yyn' S.wait sess = false := by simpa using hu
      have := List.any_eq_false.1 hu e he
      rw [hh] at this
      simp at this
     refine ⟨yqw' h.look, fun p hp => ysj' (h.held p hp), h.sim, h.room, fun e he h7 hc => ?_, fun e he hc => ?_, fun e he hc e' he' hc' => ?_, ?_⟩
     ·rcases List.mem_append.1 he with he | he
      ·exact h.others e he h7 hc
      ·rw [List.mem_singleton] at he; rw [he] at hc; cases hc
     ·rcases List.mem_append.1 he with he | he
      ·exact h.closes e he hc
      ·rw [List.mem_singleton] at he
       rw [he]
       refine ⟨hs, rfl, fun p hp q hq => ?_⟩
       obtain ⟨g1, g2⟩ := yjo' hw p hp
       exact yfi' g2 g1 _ (h.held q hq) (fun e => hid e.symm)
     ·rcases List.mem_append.1 he with he | he
      ·rcases List.mem_append.1 he' with he' | he'
       ·exact h.sess e he hc e' he' hc'
       ·rw [List.mem_singleton] at he'; rw [he'] at hc'; cases hc'
      ·rcases List.mem_append.1 he' with he' | he'
       ·rw [List.mem_singleton] at he; rw [he]; exact (huse e' he').symm
       ·rw [List.mem_singleton] at he'; rw [he'] at hc'; cases hc'
     ·show _ ∨ ((S.t.l.length + yaw' (S.wait ++ [_]) : Nat) : Int) ≤ S.t.room ∨ (S.t.l.length ≤ X.l.length ∧ ∀ e ∈ S.wait ++ [_], _)
      have hcost : ygh' (id, ⟨sess, [], true, false⟩) = 0 := rfl
      rw [ymd', hcost, Nat.add_zero]
      refine h.cap.imp (fun h => h) (Or.imp (fun h => h) fun h2 => ⟨h2.1, fun e he h7 => ?_⟩)
      rcases List.mem_append.1 he with he | he
      ·exact h2.2 e he h7
      ·rw [List.mem_singleton] at he; rw [he]; rfl
theorem Fore.decide {K : Nat} {ops : List OpS} {X : TreeS} {S : PartS} (h : Fore ops X S) (hB : PartB K S) {id : Int} (hid : id ≠ 7) (commit : Bool) : Fore ops X (ybr' S id commit).2 := by
 have hlk : yd3' (delW S.wait id) 7 = some ⟨1, ops, false, false⟩ := (yqt' (fun e => hid e.symm)).trans h.look
 have hw : ∀ e ∈ delW S.wait id, e ∈ S.wait := fun e he => (List.mem_filter.1 he).1
 have hhd : ∀ p ∈ yg4' ops, (p, (7 : Int)) ∈ yis' S.held id := fun p hp => List.mem_filter.2 ⟨h.held p hp, by simpa using fun e => hid e.symm⟩
 have hoth : ∀ e ∈ delW S.wait id, e.1 ≠ 7 → e.2.close = false → ∀ o ∈ e.2.ops, ∀ p ∈ ya3' o, FarW (yg4' ops) p := fun e he => h.others e (hw e he)
 have hss : ∀ e ∈ delW S.wait id, e.2.close = true → ∀ e' ∈ delW S.wait id, e'.2.close = false → e.2.sess ≠ e'.2.sess := fun e he hc e' he' => h.sess e (hw e he) hc e' (hw e' he')
 unfold ybr'
 split
 ·exact h
 ·rename_i x hx
  have hxm := ylh' hx
  have hless := yio' hx
  split
  ·refine ⟨hlk, hhd, h.sim, h.room, hoth, fun e he => h.closes e (hw e he), hss, h.cap.imp (fun h => h) (Or.imp (fun h2 => ?_) fun h2 => ⟨h2.1, fun e he => h2.2 e (hw e he)⟩)⟩
   show ((S.t.l.length + yaw' (delW S.wait id) : Nat) : Int) ≤ S.t.room
   omega
  ·rename_i hcf
   split
   ·rename_i hxc
    obtain ⟨c1, c2, c3⟩ := h.closes _ hxm hxc
    have hl := yrk' (yh5' (ofT S.t x.sess)) S.t
    have hfar : ∀ p ∈ yh5' (ofT S.t x.sess), FarW (yg4' ops) p := fun p hp => c3 p (by
     unfold yh5' at hp
     obtain ⟨d, -, hd⟩ := List.mem_flatMap.1 hp
     exact (List.mem_filter.1 hd).1)
    refine ⟨hlk, hhd, h.sim.keep (ynw' _ hfar), (yke' _ _).trans h.room, hoth, fun e he hc => ?_, hss, ?_⟩
    ·obtain ⟨d1, d2, d3⟩ := h.closes e (hw e he) hc
     exact ⟨d1, d2, fun p hp => d3 p (ymz' (yrb' _ _ _) hB.tree (yrj' _ hB.tree) p hp)⟩
    ·show _ ∨ (((purT (yh5' (ofT S.t x.sess)) S.t).l.length + yaw' (delW S.wait id) : Nat) : Int) ≤ (purT (yh5' (ofT S.t x.sess)) S.t).room ∨ ((purT (yh5' (ofT S.t x.sess)) S.t).l.length ≤ X.l.length ∧ _)
     rw [yke']
     refine h.cap.imp (fun h => h) (Or.imp (fun h2 => by omega) fun h2 => ⟨by omega, fun e he => h2.2 e (hw e he)⟩)
   ·rename_i hxc
    have hxc : x.close = false := by simpa using hxc
    have hxf : x.fails = false := by
     cases hxx : x.fails with
     | false => rfl
     | true => rw [hxx] at hcf; simp at hcf
    have hfar := h.others _ hxm hid hxc
    have hcost : ygh' (id, x) = yam' x.ops := by unfold ygh'; rw [hxf]; rfl
    have hl := ynz' S.t x.sess (S.zxid + 1) x.ops
    refine ⟨hlk, hhd, h.sim.keep (yla' hB.tree hfar _ _), (yh1' ..).trans h.room, hoth, fun e he hc => ?_, hss, ?_⟩
    ·obtain ⟨d1, d2, d3⟩ := h.closes e (hw e he) hc
     exact ⟨d1, d2, fun p hp => d3 p (ymz' (yn7' hB.tree x.ops (S.zxid + 1) d1 (h.sess e (hw e he) hc _ hxm hxc)) hB.tree (yqy' hB.tree _ _ _) p hp)⟩
    ·show _ ∨ (((ybw' S.t x.sess (S.zxid + 1) x.ops).2.1.l.length + yaw' (delW S.wait id) : Nat) : Int) ≤ (ybw' S.t x.sess (S.zxid + 1) x.ops).2.1.room ∨ ((ybw' S.t x.sess (S.zxid + 1) x.ops).2.1.l.length ≤ X.l.length ∧ _)
     rw [yh1']
     refine h.cap.imp (fun h => h) (Or.imp (fun h2 => by omega) fun h2 => ⟨?_, fun e he => h2.2 e (hw e he)⟩)
     have := h2.2 _ hxm hid
     omega
theorem yjh' {sess z : Int} : ∀ (l : List OpS) {K : Nat} {S : TreeS}, TreeB K S → ydj' S → (∀ o ∈ l, ybk' o = 0) → (yao' sess z l S).2.2 = 0 → ∀ r ∈ (yao' sess z l S).1, r.err = 0 ∧ r.path.data.toList ≠ []
 | [], _, _, _, _, _, _, r, hr => by cases hr
 | o :: l, K, S, hB, hG, hg, h, r, hr => by
  have h0 := yig' h
  rw [ygq' l h0] at h hr
  rcases List.mem_cons.1 hr with rfl | hr
  ·refine ⟨h0, ?_⟩
   have hne : ∀ p : Bs, ya4' p = true → p ≠ [] := fun p hp e => by rw [e] at hp; cases hp
   have hgo := yqf' (hg o k_s)
   have hop : o.path.data.toList ≠ [] := hne o.p hgo
   unfold doT at h0 ⊢
   by_cases h1 : ybk' o ≠ 0
   ·exact absurd (hg o k_s) h1
   rw [if_neg h1] at h0 ⊢
   by_cases h2 : sess < 1 ∨ z < 0
   ·rw [if_pos h2] at h0; exact absurd h0 (by show (1 : Int) ≠ 0; decide)
   rw [if_neg h2] at h0 ⊢
   by_cases h3 : o.kind = 1
   ·rw [if_pos h3] at h0 ⊢
    unfold ybq' at h0 ⊢
    by_cases h4 : (yax' S o).1 ≠ 0
    ·rw [if_pos h4] at h0; exact absurd h0 h4
    rw [if_neg h4]
    have := yrh' hgo (by omega : (yax' S o).1 = 0)
    exact hne _ this
   rw [if_neg h3] at h0 ⊢
   by_cases h4 : o.kind = 2 ∨ o.kind = 3 ∨ o.kind = 4
   ·rw [if_pos h4] at h0 ⊢
    unfold ybo' at h0 ⊢
    cases hn : yak' o.p S.l with
    | none => rw [hn] at h0; exact absurd h0 (by show (4 : Int) ≠ 0; decide)
    | some n =>
     rw [hn] at h0
     dsimp only at h0 ⊢
     by_cases g1 : yff' o n = true
     ·rw [if_pos g1] at h0; exact absurd h0 (by show (6 : Int) ≠ 0; decide)
     rw [if_neg g1] at h0 ⊢
     by_cases g2 : o.kind = 2 ∧ 0 < n.names.length
     ·rw [if_pos g2] at h0; exact absurd h0 (by show (7 : Int) ≠ 0; decide)
     rw [if_neg g2]
     by_cases g3 : o.kind = 2
     ·rw [if_pos g3]; exact hop
     rw [if_neg g3]
     by_cases g4 : o.kind = 3
     ·rw [if_pos g4]; exact hop
     rw [if_neg g4]; exact hop
   rw [if_neg h4] at h0 ⊢
   unfold yh9' at h0 ⊢
   cases hn : yak' o.p S.l with
   | none => rw [hn] at h0; exact absurd h0 (by show (4 : Int) ≠ 0; decide)
   | some n => exact hop
  ·exact yjh' l (do_b hB o sess z) (do_g hG o sess z) (fun x hx => hg x (k_n _ hx)) h r hr
theorem Fore.done {K K' : Nat} {ops : List OpS} {X : TreeS} {S : PartS} {z : Int} (h : Fore ops X S) (hX : TreeB K X) (hB : PartB K' S) (hz : 0 ≤ S.zxid) (h0 : (yao' 1 z ops X).2.2 = 0) (hg : ∀ o ∈ ops, ybk' o = 0) (hne : ops ≠ []) (h16 : ops.length ≤ 16) :
  (ybr' S 7 true).1.2 = 0 ∧ (ybr' S 7 true).1.1.length = ops.length ∧ ∀ r ∈ (ybr' S 7 true).1.1, r.err = 0 ∧ r.path.data.toList ≠ [] := by
 have hs : (yao' 1 (S.zxid + 1) ops S.t).2.2 = 0 := by
  refine yl3' (by omega) ops h.sim hX hB.tree h.room (fun o ho p hp => List.mem_flatMap.2 ⟨o, ho, hp⟩) h0 ?_
  have hw := h.want
  rcases h.cap with h1 | h1 | h1
  ·left; have := hB.tree.len; omega
  ·left; omega
  ·right; exact h1.1
 have hm : ybw' S.t 1 (S.zxid + 1) ops = (⟨0, S.zxid + 1, 0, -1, (yao' 1 (S.zxid + 1) ops S.t).1⟩, (yao' 1 (S.zxid + 1) ops S.t).2.1, true) := by
  unfold ybw'
  rw [if_neg (by omega), if_neg (by intro e; exact hne (List.eq_nil_of_length_eq_zero e)), if_neg (fun hh => hh hs)]
 unfold ybr'
 rw [h.look]
 dsimp only
 rw [if_neg (by simp), if_neg (by simp), hm]
 refine ⟨rfl, yga' ops _ hs, ?_⟩
 exact yjh' ops hB.tree hB.good hg hs
theorem Fore.not {ops : List OpS} {X : TreeS} {S : PartS} (h : Fore ops X S) : (ybr' S 7 false).1 = ([], 0) ∧ (ybr' S 7 false).2.t = S.t := by
 unfold ybr'
 rw [h.look]
 dsimp only
 rw [if_pos (by simp)]
 exact ⟨rfl, rfl⟩
end Go.Av

namespace Go.Av
open Go.RowKit
def ykr' (rs : List ResS) : Prop := rs.length ≤ 16 ∧ ∀ r ∈ rs, r.names.length ≤ 100000
theorem ya8' : ykr' [] := ⟨by simp, by simp⟩
theorem ytk' {K : Nat} {S : TreeS} (h : TreeB K S) (o : OpS) (sess zxid : Int) : (doT S o sess zxid).1.names.length ≤ K := by
 unfold doT
 split
 ·simp [ybt']
 ·split
  ·simp [ybt']
  ·split
   ·unfold ybq'
    split <;> simp [ybt']
   ·split
    ·unfold ybo'
     split
     ·simp [ybt']
     ·split
      ·simp [ybt']
      ·split
       ·simp [ybt']
       ·split
        ·simp
        ·split <;> simp
    ·unfold yh9'
     split
     ·simp [ybt']
     ·rename_i n hn
      have h1 : ∃ e ∈ S.l, e.2 = n := by
       unfold yak' at hn
       obtain ⟨e, he, rfl⟩ := Option.map_eq_some_iff.1 hn
       exact ⟨e, List.mem_of_find?_eq_some he, rfl⟩
      obtain ⟨e, he, rfl⟩ := h1
      have := (h.nodes e he).few
      dsimp only
      split
      ·exact this
      ·simp
theorem yih' {sess zxid : Int} : ∀ (l : List OpS) {K : Nat} {S : TreeS}, TreeB K S → ∀ r ∈ (yao' sess zxid l S).1, r.names.length ≤ K + l.length
 | [], _, _, _, r, hr => by cases hr
 | o :: l, K, S, h, r, hr => by
  unfold yao' at hr
  split at hr
  ·cases hr
  ·rcases List.mem_cons.1 hr with rfl | hr
   ·have := ytk' h o sess zxid
    omega
   ·have := yih' l (do_b h o sess zxid) r hr
    rw [List.length_cons]
    omega
theorem ye4' (num e at_ n : Int) : ykr' (yea' num e at_ n).rs := by
 unfold yea'
 dsimp only
 split
 ·exact ya8'
 ·refine ⟨by rw [yiz']; omega, fun r hr => ?_⟩
  unfold yfd' at hr
  obtain ⟨i, -, rfl⟩ := List.mem_map.1 hr
  simp [ybt']
theorem yn0' {K : Nat} {S : TreeS} (h : TreeB K S) (hK : K ≤ 90000) (sess zxid : Int) (ops : List OpS) : ykr' (ybw' S sess zxid ops).1.rs := by
 unfold ybw'
 split
 ·exact ye4' ..
 ·split
  ·exact ye4' ..
  ·split
   ·exact ye4' ..
   ·rename_i h1 h2 h3
    have h4 := yga' (sess := sess) (zxid := zxid) ops S (by omega)
    refine ⟨by show (yao' sess zxid ops S).1.length ≤ 16; omega, fun r hr => ?_⟩
    have := yih' ops h r hr
    omega
theorem yqs' {K : Nat} {S : PartS} (h : PartB K S) (hK : K ≤ 1000) (sess num : Int) (ops : List OpS) : ykr' (yb0' S sess num ops).1.rs := by
 unfold yb0'
 split
 ·exact ye4' ..
 ·split
  ·dsimp only
   exact ye4' ..
  ·unfold ya1'
   dsimp only
   split
   ·exact ye4' ..
   ·exact yn0' h.tree (by omega) ..
theorem yow' {K : Nat} {S : PartS} (h : PartB K S) (hK : K ≤ 1000) (id : Int) (yes : Bool) : ykr' (ybr' S id yes).1.1 := by
 unfold ybr'
 split
 ·exact ya8'
 ·split
  ·exact ya8'
  ·split
   ·exact ya8'
   ·exact yn0' h.tree (by omega) ..
end Go.Av
namespace Go.Proofs.YtcnkifbjlihaoaaGreatDoor
open Go.RowKit Go.Av
def ypw' (o : OutS) : Prop := ykr' o.reply.rs ∧ ykr' o.rs
theorem yv8' : ypw' badO := ⟨ya8', ya8'⟩
theorem yp1' (S : CoS) (id : Int) (l : List Int) : (ynm' S id l).2.length ≤ S.length + 1 := by
 unfold ynm'
 split
 ·exact Nat.le_succ _
 ·split
  ·exact Nat.le_succ _
  ·simp
theorem ykf' (id : Int) (φ : EntS → EntS) (S : CoS) : (putS id φ S).length = S.length := by unfold putS; rw [List.length_map]
theorem yu2' (S : CoS) (id k : Int) (ok : Bool) : (yu1' S id k ok).2.length = S.length := by
 unfold yu1'
 split
 ·rfl
 ·split
  ·rfl
  ·exact ykf' ..
theorem ytm' (S : CoS) (id k : Int) : (ytl' S id k).2.length = S.length := by
 unfold ytl'
 split
 ·rfl
 ·split
  ·rfl
  ·split
   ·rfl
   ·exact ykf' ..
theorem yp0' (S : CoS) (id : Int) : (yks' S id).2.2.length = S.length := by
 unfold yks'
 split
 ·rfl
 ·exact ykf' ..
structure ShB (K : Nat) (S : ShardS) : Prop where
 p : PartC K S.p
 c : S.c.length ≤ K
 known : ∀ e ∈ S.known, ypw' e.2
 played : 0 ≤ S.played ∧ S.played ≤ K
theorem yq3' (room : Int) (h : 1 ≤ room ∧ room ≤ 500) : ShB 0 (yg7' room) := ⟨yx9' room h, by simp [yg7'], by simp [yg7'], by simp [yg7']⟩
theorem yx0' {K : Nat} {S : ShardS} (hp : PartC K S.p) (hc : S.c.length ≤ K) (hK : K ≤ 1000) (c : CmdS) : ypw' (doC S c).1 ∧ PartC (K + 1) (doC S c).2.p ∧ (doC S c).2.c.length ≤ K + 1 ∧ (doC S c).2.known = S.known ∧ (doC S c).2.played = S.played := by
 have hp1 : PartC (K + 1) S.p := hp.mono (Nat.le_succ _)
 unfold doC
 split
 ·exact ⟨⟨yqs' hp.b hK .., ya8'⟩, ywy' hp .., Nat.le_succ_of_le hc, rfl, rfl⟩
 split
 ·exact ⟨⟨ya8', ya8'⟩, yye' hp .., Nat.le_succ_of_le hc, rfl, rfl⟩
 split
 ·exact ⟨⟨ya8', ya8'⟩, ywc' hp .., Nat.le_succ_of_le hc, rfl, rfl⟩
 split
 ·exact ⟨⟨ya8', yow' hp.b hK ..⟩, yth' hp .., Nat.le_succ_of_le hc, rfl, rfl⟩
 split
 ·exact ⟨⟨ya8', ya8'⟩, hp1, by have := yp1' S.c c.id c.shards; dsimp only; omega, rfl, rfl⟩
 split
 ·exact ⟨⟨ya8', ya8'⟩, hp1, by have := yu2' S.c c.id c.shard c.yes; dsimp only; omega, rfl, rfl⟩
 split
 ·exact ⟨⟨ya8', ya8'⟩, hp1, by have := ytm' S.c c.id c.shard; dsimp only; omega, rfl, rfl⟩
 ·exact ⟨⟨ya8', ya8'⟩, hp1, by have := yp0' S.c c.id; dsimp only; omega, rfl, rfl⟩
theorem yh0' {b : Bs} {K : List (Bs × OutS)} {o : OutS} (h : ylf' b K = some o) : (b, o) ∈ K := by
 unfold ylf' at h
 obtain ⟨e, he, rfl⟩ := Option.map_eq_some_iff.1 h
 have h1 := List.find?_some he
 have h2 : e.1 = b := of_decide_eq_true h1
 rw [← h2]
 exact List.mem_of_find?_eq_some he
theorem yvl' {K : Nat} {S : ShardS} (h : ShB K S) (hK : K ≤ 1000) (b : Bs) : ypw' (yc5' S b).1 ∧ ShB (K + 1) (yc5' S b).2 := by
 have h0 : ShB (K + 1) { S with played := S.played + 1 } := ⟨h.p.mono (Nat.le_succ _), Nat.le_succ_of_le h.c, h.known, by have := h.played; dsimp only; omega⟩
 unfold yc5'
 split
 ·exact ⟨yv8', h0⟩
 ·rename_i c hc
  split
  ·rename_i o ho
   exact ⟨h.known _ (yh0' ho), h0⟩
  ·obtain ⟨a1, a2, a3, a4, a5⟩ := yx0' (S := { S with played := S.played + 1 }) h.p h.c hK c
   refine ⟨a1, ⟨a2, a3, fun e he => ?_, ?_⟩⟩
   ·rcases List.mem_append.1 he with he | he
    ·exact h.known e he
    ·rw [List.mem_singleton] at he
     rw [he]
     exact a1
   ·show 0 ≤ (doC { S with played := S.played + 1 } c).2.played ∧ _
    rw [a5]
    exact h0.played
theorem yqe' {b : Bs} {c : CmdS} (h : getC b = some c) : 1 ≤ c.kind ∧ c.kind ≤ 8 := by
 unfold getC at h
 split at h
 ·rename_i hc
  injection h with h
  subst h
  obtain ⟨h1, h2, h3⟩ := hc
  by_cases hk : 1 ≤ (rawC b).1.kind ∧ (rawC b).1.kind ≤ 8
  ·exact hk
  ·exfalso
   have hp : putC (rawC b).1 = [] := by
    unfold putC
    rw [if_neg (by omega), if_neg (by omega), if_neg (by omega), if_neg (by omega), if_neg (by omega), if_neg (by omega), if_neg (by omega), if_neg (by omega)]
   rw [hp] at h3
   subst h3
   revert h2
   decide
 ·cases h
def yvm' (l : List Bs) (S : ShardS) : ShardS := l.foldl (fun S b => (yc5' S b).2) S
theorem yoa' : ∀ (l : List Bs) {K : Nat} {S : ShardS}, ShB K S → K + l.length ≤ 1000 → ShB (K + l.length) (yvm' l S)
 | [], _, _, h, _ => h
 | b :: l, K, S, h, hK => by
  rw [List.length_cons] at hK ⊢
  have := yoa' l (yvl' h (by omega) b).2 (by omega)
  rw [show K + 1 + l.length = K + (l.length + 1) by omega] at this
  exact this
theorem yi9' : ∀ (l : List Bs) (b : Bs) (S : ShardS), ycq' (l ++ [b]) S = ((ycq' l S).1 ++ [(yc5' (ycq' l S).2 b).1], (yc5' (ycq' l S).2 b).2)
 | [], b, S => rfl
 | a :: l, b, S => by
  have ih := yi9' l b (yc5' S a).2
  show ((yc5' S a).1 :: (ycq' (l ++ [b]) (yc5' S a).2).1, (ycq' (l ++ [b]) (yc5' S a).2).2) = _
  rw [ih]
  rfl
theorem yn9' : ∀ (l : List Bs) (S : ShardS), (ycq' l S).2 = yvm' l S
 | [], S => rfl
 | a :: l, S => yn9' l (yc5' S a).2
theorem yja' : ∀ (l : List Bs) (S : ShardS), (ycq' l S).1.length = l.length
 | [], S => rfl
 | a :: l, S => by
  show (_ :: (ycq' l (yc5' S a).2).1).length = _
  rw [List.length_cons, List.length_cons, yja' l]
end Go.Proofs.YtcnkifbjlihaoaaGreatDoor

namespace Go.Proofs.YtcnkifbjlihaoaaGreatDoor
open Go.RowKit Go.Av
def cmdV (c : CmdS) (vo vs : Value) : Array Value := #[.int .i64 c.kind, .int .i64 c.id, .int .i64 c.sess, .int .i64 c.rs, .int .i64 c.rn, vo, vs, .int .i64 c.shard, .bool c.yes]
section
variable {w0 w : World} {P P' : List PRow} {R : List Thing} {rows : List (Value × Bs)}
set_option maxRecDepth 100000 in
set_option maxHeartbeats 8000000 in
theorem yef' (h : Sep w0 w (yab' w0 P :: R) rows) (hd : DoorN w0) (c : CmdS) (vo vs : Value) (hvo : (5, vo, c.ops.flatMap OpS.cells) ∈ P) (hvs : (1, vs, c.shards.map ivn) ∈ P) (hp : ∀ o ∈ c.ops, o.path.size ≤ 100000) (hs : c.shards.length ≤ 1000) :
  Calls Tryz.prog 41 #[.agg (cmdV c vo vs)] w (yes' w0 (putC c) (yab' w0 P :: R) rows) := by
 obtain ⟨E, hE⟩ := h.poolGet hvo
 obtain ⟨oa, on, oc, rfl, -⟩ := _root_.id hE
 obtain ⟨E, hE⟩ := h.poolGet hvs
 obtain ⟨sa, sn, sc, rfl, -⟩ := _root_.id hE
 have HV := Lib.hid (show _ ∧ _ ∧ _ ∧ _ from ⟨hvo, hvs, hp, hs⟩)
 have HX := Lib.hid h
 clear h hE hvo hvs hp hs
 obtain ⟨k0, id, sess, rs, rn, ops, shards, shard, yes⟩ := c
 unfold cmdV
 dsimp only at HV ⊢
 by_cases h1 : k0 = 1
 ·subst h1
  obtain ⟨bs, hbs⟩ : ∃ bs, putR rs rn ops = bs := ⟨_, rfl⟩
  have HB := Lib.hid (show _ ∧ _ from ⟨hbs, (by rw [← hbs]; exact ydf' rs rn ops : bs.length ≤ 19864)⟩)
  clear hbs
  go_enter Tryz.func41, Tryz.ntmps41
  go_wp2_with (first | refine u0 ?_ | (refine uS ?_; clear HX; intro w HX) | (refine uA ?_; clear HX; (first | (have hq := b2; clear hq; intro w b3 HX) | (have hq := b; clear hq; intro w b2 HX) | intro w b HX)))
  refine (yer' (l := []) (xs := [1, id]) (n := 2) ((HX.out.newCell _).nilRow 1) rfl (by omega) (by simp)).mono ?_
  rintro e w ⟨v3, rfl, hx⟩
  rw [show ([] : Bs) ++ [1, id].flatMap yad' = yad' 1 ++ yad' id by simp] at hx
  replace HX := Lib.hid hx
  clear hx
  go_wp2_with (first | refine u0 ?_ | (refine uS ?_; clear HX; intro w HX) | (refine uA ?_; clear HX; (first | (have hq := b2; clear hq; intro w b3 HX) | (have hq := b; clear hq; intro w b2 HX) | intro w b HX)))
  refine (ylq' HX.out.up2 hd rs rn ops _ HV.out.1 HV.out.2.2.1).mono ?_
  rw [HB.out.1]
  rintro e w ⟨v4, rfl, hx⟩
  replace HX := Lib.hid hx
  clear hx
  go_wp2_with (first | refine u0 ?_ | (refine uS ?_; clear HX; intro w HX) | (refine uA ?_; clear HX; (first | (have hq := b2; clear hq; intro w b3 HX) | (have hq := b; clear hq; intro w b2 HX) | intro w b HX)) | (refine yoj' HX Tryz.underlying71 Tryz.underlying5 Tryz.underlying9 rfl rfl ?_; simp only [Act.put, k_a, k_b, k_c]))
  have hz : (⟨bs.toArray⟩ : ByteArray).size = bs.length := by show bs.toArray.size = _; simp
  refine (ykm' HX.out.up2 ⟨bs.toArray⟩ (by simp [yaf']) (by have := HB.out.2; omega)).mono ?_
  rintro e w ⟨v5, rfl, hx⟩
  replace HX := Lib.hid hx
  clear hx
  clear hz
  go_wp2_with (first | refine u0 ?_ | (refine uS ?_; clear HX; intro w HX) | (refine uA ?_; clear HX; (first | (have hq := b2; clear hq; intro w b3 HX) | (have hq := b; clear hq; intro w b2 HX) | intro w b HX)))
  go_ret
  refine ⟨v5, rfl, ?_⟩
  unfold putC
  rw [if_pos rfl]
  dsimp only
  rw [HB.out.1]
  exact HX.out.pm 4 [0, 2] rfl rfl
 have HLB := Lib.hid (show ∀ x : Int, (yad' k0 ++ yad' id).length = 16 from fun _ => by rw [List.length_append, yaf', yaf'])
 by_cases h2 : k0 = 2
 ·subst h2
  obtain ⟨bs, hbs⟩ : ∃ bs, putR sess id ops = bs := ⟨_, rfl⟩
  have HB := Lib.hid (show _ ∧ _ from ⟨hbs, (by rw [← hbs]; exact ydf' sess id ops : bs.length ≤ 19864)⟩)
  clear hbs h1 HLB
  go_enter Tryz.func41, Tryz.ntmps41
  go_wp2_with (first | refine u0 ?_ | (refine uS ?_; clear HX; intro w HX) | (refine uA ?_; clear HX; (first | (have hq := b2; clear hq; intro w b3 HX) | (have hq := b; clear hq; intro w b2 HX) | intro w b HX)))
  refine (yer' (l := []) (xs := [2, id]) (n := 2) ((HX.out.newCell _).nilRow 1) rfl (by omega) (by simp)).mono ?_
  rintro e w ⟨v3, rfl, hx⟩
  rw [show ([] : Bs) ++ [2, id].flatMap yad' = yad' 2 ++ yad' id by simp] at hx
  replace HX := Lib.hid hx
  clear hx
  go_wp2_with (first | refine u0 ?_ | (refine uS ?_; clear HX; intro w HX) | (refine uA ?_; clear HX; (first | (have hq := b2; clear hq; intro w b3 HX) | (have hq := b; clear hq; intro w b2 HX) | intro w b HX)))
  refine rM (fun W => (∃ Ts, Sep w0 W (yac' b (.cells #[.int .i64 2, .int .i64 id, .int .i64 sess, .int .i64 rs, .int .i64 rn, .slice oa on oc, .slice sa sn sc, .int .i64 shard, .bool yes] 70 (0, 0)) :: yac' b2 (.cells #[.int .i64 sess, .int .i64 id, .slice oa on oc] 42 (0, 0)) :: Ts) rows)) 11 ?_
  intro KEEPX
  replace HX := Lib.hid HX.out.drew
  have hl : ∀ V, (∃ Ts, Sep w0 V (yac' b (.cells #[.int .i64 2, .int .i64 id, .int .i64 sess, .int .i64 rs, .int .i64 rn, .slice oa on oc, .slice sa sn sc, .int .i64 shard, .bool yes] 70 (0, 0)) :: yac' b2 (.cells #[.int .i64 sess, .int .i64 id, .slice oa on oc] 42 (0, 0)) :: Ts) rows) → (Instr.loadAt 2 (.pointer (some ⟨b, 2, none⟩))).run Tryz.prog V = .ok (.int .i64 sess) V := by
   rintro V ⟨Ts, hV⟩
   exact yag' (by kernel_rfl) (yaa' hV.blk 2 rfl)
  have hl2 : ∀ V, (∃ Ts, Sep w0 V (yac' b (.cells #[.int .i64 2, .int .i64 id, .int .i64 sess, .int .i64 rs, .int .i64 rn, .slice oa on oc, .slice sa sn sc, .int .i64 shard, .bool yes] 70 (0, 0)) :: yac' b2 (.cells #[.int .i64 sess, .int .i64 id, .slice oa on oc] 42 (0, 0)) :: Ts) rows) → (Instr.loadAt 68 (.pointer (some ⟨b, 6, none⟩))).run Tryz.prog V = .ok (.slice sa sn sc) V := by
   rintro V ⟨Ts, hV⟩
   exact yag' (by kernel_rfl) (yaa' hV.blk 6 rfl)
  have hl3 : ∀ V, (∃ Ts, Sep w0 V (yac' b (.cells #[.int .i64 2, .int .i64 id, .int .i64 sess, .int .i64 rs, .int .i64 rn, .slice oa on oc, .slice sa sn sc, .int .i64 shard, .bool yes] 70 (0, 0)) :: yac' b2 (.cells #[.int .i64 sess, .int .i64 id, .slice oa on oc] 42 (0, 0)) :: Ts) rows) → (Instr.loadAt 42 (.pointer (some ⟨b2, 0, none⟩))).run Tryz.prog V = .ok (.agg #[.int .i64 sess, .int .i64 id, .slice oa on oc]) V := by
   rintro V ⟨Ts, hV⟩
   exact yat' sn_req.1 hV.up1.blk (Nat.le_refl 3)
  refine rT [(0, false), (1, false), (2, true), (4, false), (5, true), (7, true)] 6 ?_
  apply Exists.intro; refine ⟨?_, ⟨_, HX.out.up2⟩, ?_⟩
  ·iterate 6 (refine xE ?_)
   exact rfl
  clear hl hl2 hl3
  refine r1 5 3 fun K hK => ?_
  go_wp2_with fail
  refine (yhy' HX.out.up1 sess (by simp [yaf'])).mono ?_
  rintro e w ⟨v4, rfl, hx⟩
  replace HX := Lib.hid hx
  clear hx
  go_wp2_with fail
  refine hK _ _ ⟨_, HX.out.up1.up2⟩ ?_
  clear hK
  refine r1 4 6 fun K hK => ?_
  go_wp2_with fail
  refine (ygo' v4 _ (HX.out.up3.up1) _ shards HV.out.2.1 (by simp [yaf']) HV.out.2.2.2).mono ?_
  rintro e w ⟨v5, rfl, hx⟩
  replace HX := Lib.hid hx
  clear hx
  go_wp2_with fail
  refine hK _ _ ⟨_, HX.out.up2.up3⟩ ?_
  clear hK
  refine r1 3 8 fun K hK => ?_
  go_wp2_with fail
  refine (ylq' HX.out.up1 hd sess id ops _ HV.out.1 HV.out.2.2.1).mono ?_
  rw [HB.out.1]
  rintro e w ⟨v6, rfl, hx⟩
  replace HX := Lib.hid hx
  clear hx
  go_wp2_with fail
  refine hK _ _ ⟨_, HX.out.up3.up4⟩ ?_
  clear hK
  refine r1 2 9 fun K hK => ?_
  go_wp2_with (first | refine u0 ?_ | (refine uS ?_; clear HX; intro w HX) | (refine uA ?_; clear HX; (first | (have hq := b2; clear hq; intro w b3 HX) | (have hq := b; clear hq; intro w b2 HX) | intro w b HX)) | (refine yoj' HX Tryz.underlying71 Tryz.underlying5 Tryz.underlying9 rfl rfl ?_; simp only [Act.put, k_a, k_b, k_c]))
  refine hK _ _ ⟨_, HX.out.up3.up4⟩ ?_
  clear hK
  refine r1 1 10 fun K hK => ?_
  go_wp2_with fail
  have hz : (⟨bs.toArray⟩ : ByteArray).size = bs.length := by show bs.toArray.size = _; simp
  refine (ykm' HX.out.up2 ⟨bs.toArray⟩ (by have := HV.out.2.2.2; unfold shB; simp only [List.length_append, yaf', yfu']; omega) (by have := HB.out.2; omega)).mono ?_
  rintro e w ⟨v7, rfl, hx⟩
  replace HX := Lib.hid hx
  clear hx
  clear hz
  go_wp2_with fail
  refine hK _ _ ⟨_, HX.out.up3.up4⟩ ?_
  clear hK
  refine rL [11] 0 ?_
  simp only [List.filterMap_cons, List.filterMap_nil, k_i, k_j, k_k]
  go_wp2_with (first | refine u0 ?_ | (refine uS ?_; clear HX; intro w HX) | (refine uA ?_; clear HX; (first | (have hq := b2; clear hq; intro w b3 HX) | (have hq := b; clear hq; intro w b2 HX) | intro w b HX)))
  go_ret
  refine ⟨v7, rfl, ?_⟩
  unfold putC
  dsimp only
  rw [if_neg (show ¬ (2 : Int) = 1 by decide), if_pos rfl, HB.out.1]
  exact HX.out.pm 5 [0, 2] rfl rfl
 by_cases h3 : k0 = 3
 ·subst h3
  clear h1 h2 HLB
  go_enter Tryz.func41, Tryz.ntmps41
  go_wp2_with (first | refine u0 ?_ | (refine uS ?_; clear HX; intro w HX) | (refine uA ?_; clear HX; (first | (have hq := b2; clear hq; intro w b3 HX) | (have hq := b; clear hq; intro w b2 HX) | intro w b HX)))
  refine (yer' (l := []) (xs := [3, id]) (n := 2) ((HX.out.newCell _).nilRow 1) rfl (by omega) (by simp)).mono ?_
  rintro e w ⟨v3, rfl, hx⟩
  rw [show ([] : Bs) ++ [3, id].flatMap yad' = yad' 3 ++ yad' id by simp] at hx
  replace HX := Lib.hid hx
  clear hx
  go_wp2_with (first | refine u0 ?_ | (refine uS ?_; clear HX; intro w HX) | (refine uA ?_; clear HX; (first | (have hq := b2; clear hq; intro w b3 HX) | (have hq := b; clear hq; intro w b2 HX) | intro w b HX)))
  refine rM (fun W => (∃ Ts, Sep w0 W (yac' b (.cells #[.int .i64 3, .int .i64 id, .int .i64 sess, .int .i64 rs, .int .i64 rn, .slice oa on oc, .slice sa sn sc, .int .i64 shard, .bool yes] 70 (0, 0)) :: Ts) rows)) 7 ?_
  intro KEEPX
  replace HX := Lib.hid HX.out.drew
  have hl : ∀ V, (∃ Ts, Sep w0 V (yac' b (.cells #[.int .i64 3, .int .i64 id, .int .i64 sess, .int .i64 rs, .int .i64 rn, .slice oa on oc, .slice sa sn sc, .int .i64 shard, .bool yes] 70 (0, 0)) :: Ts) rows) → (Instr.loadAt 2 (.pointer (some ⟨b, 2, none⟩))).run Tryz.prog V = .ok (.int .i64 sess) V := by
   rintro V ⟨Ts, hV⟩
   exact yag' (by kernel_rfl) (yaa' hV.blk 2 rfl)
  have hl2 : ∀ V, (∃ Ts, Sep w0 V (yac' b (.cells #[.int .i64 3, .int .i64 id, .int .i64 sess, .int .i64 rs, .int .i64 rn, .slice oa on oc, .slice sa sn sc, .int .i64 shard, .bool yes] 70 (0, 0)) :: Ts) rows) → (Instr.loadAt 68 (.pointer (some ⟨b, 6, none⟩))).run Tryz.prog V = .ok (.slice sa sn sc) V := by
   rintro V ⟨Ts, hV⟩
   exact yag' (by kernel_rfl) (yaa' hV.blk 6 rfl)
  refine rT [(0, false), (1, false), (2, true), (4, false), (5, true)] 3 ?_
  apply Exists.intro; refine ⟨?_, ⟨_, HX.out.up1⟩, ?_⟩
  ·iterate 5 (refine xE ?_)
   exact rfl
  clear hl hl2
  refine r1 2 3 fun K hK => ?_
  go_wp2_with fail
  refine (yhy' HX.out sess (by simp [yaf'])).mono ?_
  rintro e w ⟨v4, rfl, hx⟩
  replace HX := Lib.hid hx
  clear hx
  go_wp2_with fail
  refine hK _ _ ⟨_, HX.out.up1⟩ ?_
  clear hK
  refine r1 1 6 fun K hK => ?_
  go_wp2_with fail
  refine (ygo' v4 _ HX.out.up2.up1 _ shards HV.out.2.1 (by simp [yaf']) HV.out.2.2.2).mono ?_
  rintro e w ⟨v5, rfl, hx⟩
  replace HX := Lib.hid hx
  clear hx
  go_wp2_with fail
  refine hK _ _ ⟨_, HX.out.up2⟩ ?_
  clear hK
  refine rL [7] 0 ?_
  simp only [List.filterMap_cons, List.filterMap_nil, k_i, k_j, k_k]
  go_wp2_with (first | refine u0 ?_ | (refine uS ?_; clear HX; intro w HX) | (refine uA ?_; clear HX; (first | (have hq := b2; clear hq; intro w b3 HX) | (have hq := b; clear hq; intro w b2 HX) | intro w b HX)))
  go_ret
  refine ⟨v5, rfl, ?_⟩
  unfold putC
  dsimp only
  rw [if_neg (show ¬ (3 : Int) = 1 by decide), if_neg (show ¬ (3 : Int) = 2 by decide), if_pos rfl]
  exact HX.out.pm 3 [0, 1] rfl rfl
 by_cases h4 : k0 = 4
 ·subst h4
  clear h1 h2 h3 HLB
  go_enter Tryz.func41, Tryz.ntmps41
  go_wp2_with (first | refine u0 ?_ | (refine uS ?_; clear HX; intro w HX) | (refine uA ?_; clear HX; (first | (have hq := b2; clear hq; intro w b3 HX) | (have hq := b; clear hq; intro w b2 HX) | intro w b HX)))
  refine (yer' (l := []) (xs := [4, id]) (n := 2) ((HX.out.newCell _).nilRow 1) rfl (by omega) (by simp)).mono ?_
  rintro e w ⟨v3, rfl, hx⟩
  rw [show ([] : Bs) ++ [4, id].flatMap yad' = yad' 4 ++ yad' id by simp] at hx
  replace HX := Lib.hid hx
  clear hx
  go_wp2_with (first | refine u0 ?_ | (refine uS ?_; clear HX; intro w HX) | (refine uA ?_; clear HX; (first | (have hq := b2; clear hq; intro w b3 HX) | (have hq := b; clear hq; intro w b2 HX) | intro w b HX)))
  refine (yp2' yes _).mono ?_
  rintro e w1 ⟨rfl, rfl⟩
  go_wp2_with (first | refine u0 ?_ | (refine uS ?_; clear HX; intro w HX) | (refine uA ?_; clear HX; (first | (have hq := b2; clear hq; intro w b3 HX) | (have hq := b; clear hq; intro w b2 HX) | intro w b HX)))
  refine (yhy' HX.out (bitI yes) (by simp [yaf'])).mono ?_
  rintro e w ⟨v5, rfl, hx⟩
  replace HX := Lib.hid hx
  clear hx
  go_wp2_with (first | refine u0 ?_ | (refine uS ?_; clear HX; intro w HX) | (refine uA ?_; clear HX; (first | (have hq := b2; clear hq; intro w b3 HX) | (have hq := b; clear hq; intro w b2 HX) | intro w b HX)))
  go_ret
  refine ⟨v5, rfl, ?_⟩
  unfold putC
  dsimp only
  rw [if_neg (show ¬ (4 : Int) = 1 by decide), if_neg (show ¬ (4 : Int) = 2 by decide), if_neg (show ¬ (4 : Int) = 3 by decide), if_pos rfl]
  exact HX.out.pm 3 [0, 2] rfl rfl
 by_cases h5 : k0 = 5
 ·subst h5
  clear h1 h2 h3 h4 HLB
  go_enter Tryz.func41, Tryz.ntmps41
  go_wp2_with (first | refine u0 ?_ | (refine uS ?_; clear HX; intro w HX) | (refine uA ?_; clear HX; (first | (have hq := b2; clear hq; intro w b3 HX) | (have hq := b; clear hq; intro w b2 HX) | intro w b HX)))
  refine (yer' (l := []) (xs := [5, id]) (n := 2) ((HX.out.newCell _).nilRow 1) rfl (by omega) (by simp)).mono ?_
  rintro e w ⟨v3, rfl, hx⟩
  rw [show ([] : Bs) ++ [5, id].flatMap yad' = yad' 5 ++ yad' id by simp] at hx
  replace HX := Lib.hid hx
  clear hx
  go_wp2_with (first | refine u0 ?_ | (refine uS ?_; clear HX; intro w HX) | (refine uA ?_; clear HX; (first | (have hq := b2; clear hq; intro w b3 HX) | (have hq := b; clear hq; intro w b2 HX) | intro w b HX)))
  refine (ygo' v3 _ HX.out.up2.up1 _ shards HV.out.2.1 (by simp [yaf']) HV.out.2.2.2).mono ?_
  rintro e w ⟨v5, rfl, hx⟩
  replace HX := Lib.hid hx
  clear hx
  go_wp2_with (first | refine u0 ?_ | (refine uS ?_; clear HX; intro w HX) | (refine uA ?_; clear HX; (first | (have hq := b2; clear hq; intro w b3 HX) | (have hq := b; clear hq; intro w b2 HX) | intro w b HX)))
  go_ret
  refine ⟨v5, rfl, ?_⟩
  unfold putC
  dsimp only
  rw [if_neg (show ¬ (5 : Int) = 1 by decide), if_neg (show ¬ (5 : Int) = 2 by decide), if_neg (show ¬ (5 : Int) = 3 by decide), if_neg (show ¬ (5 : Int) = 4 by decide), if_pos rfl]
  exact HX.out.pm 3 [0, 1] rfl rfl
 by_cases h6 : k0 = 6
 ·subst h6
  clear h1 h2 h3 h4 h5 HLB
  go_enter Tryz.func41, Tryz.ntmps41
  go_wp2_with (first | refine u0 ?_ | (refine uS ?_; clear HX; intro w HX) | (refine uA ?_; clear HX; (first | (have hq := b2; clear hq; intro w b3 HX) | (have hq := b; clear hq; intro w b2 HX) | intro w b HX)))
  refine (yer' (l := []) (xs := [6, id]) (n := 2) ((HX.out.newCell _).nilRow 1) rfl (by omega) (by simp)).mono ?_
  rintro e w ⟨v3, rfl, hx⟩
  rw [show ([] : Bs) ++ [6, id].flatMap yad' = yad' 6 ++ yad' id by simp] at hx
  replace HX := Lib.hid hx
  clear hx
  go_wp2_with (first | refine u0 ?_ | (refine uS ?_; clear HX; intro w HX) | (refine uA ?_; clear HX; (first | (have hq := b2; clear hq; intro w b3 HX) | (have hq := b; clear hq; intro w b2 HX) | intro w b HX)))
  refine rM (fun W => (∃ Ts, Sep w0 W (yac' b (.cells #[.int .i64 6, .int .i64 id, .int .i64 sess, .int .i64 rs, .int .i64 rn, .slice oa on oc, .slice sa sn sc, .int .i64 shard, .bool yes] 70 (0, 0)) :: Ts) rows)) 8 ?_
  intro KEEPX
  replace HX := Lib.hid HX.out.drew
  have hl : ∀ V, (∃ Ts, Sep w0 V (yac' b (.cells #[.int .i64 6, .int .i64 id, .int .i64 sess, .int .i64 rs, .int .i64 rn, .slice oa on oc, .slice sa sn sc, .int .i64 shard, .bool yes] 70 (0, 0)) :: Ts) rows) → (Instr.loadAt 3 (.pointer (some ⟨b, 7, none⟩))).run Tryz.prog V = .ok (.int .i64 shard) V := by
   rintro V ⟨Ts, hV⟩
   exact yag' (by kernel_rfl) (yaa' hV.blk 7 rfl)
  have hl2 : ∀ V, (∃ Ts, Sep w0 V (yac' b (.cells #[.int .i64 6, .int .i64 id, .int .i64 sess, .int .i64 rs, .int .i64 rn, .slice oa on oc, .slice sa sn sc, .int .i64 shard, .bool yes] 70 (0, 0)) :: Ts) rows) → (Instr.loadAt 4 (.pointer (some ⟨b, 8, none⟩))).run Tryz.prog V = .ok (.bool yes) V := by
   rintro V ⟨Ts, hV⟩
   exact yag' (by kernel_rfl) (yaa' hV.blk 8 rfl)
  refine rT [(0, false), (1, false), (2, true), (3, false), (4, true)] 4 ?_
  apply Exists.intro; refine ⟨?_, ⟨_, HX.out.up1⟩, ?_⟩
  ·iterate 5 (refine xE ?_)
   exact rfl
  clear hl hl2
  refine r1 3 5 fun K hK => ?_
  go_wp2_with fail
  refine (yp2' yes _).mono ?_
  rintro e w1 ⟨rfl, rfl⟩
  go_wp2_with fail
  refine hK _ _ ⟨_, HX.out.up1⟩ ?_
  clear hK
  refine r1 2 6 fun K hK => ?_
  go_wp2_with (first | refine u0 ?_ | (refine uS ?_; clear HX; intro w HX) | (refine uA ?_; clear HX; (first | (have hq := b2; clear hq; intro w b3 HX) | (have hq := b; clear hq; intro w b2 HX) | intro w b HX)))
  have hx : Sep w0 (w.alloc (.cells #[.int .i64 shard, .int .i64 (bitI yes)] 2 (0, 0))).drew (yac' w.heap.size (.cells #[.int .i64 shard, .int .i64 (bitI yes)] 2 (0, 0)) :: _) rows := HX.out.newCell (.cells #[.int .i64 shard, .int .i64 (bitI yes)] 2 (0, 0))
  generalize w.heap.size = cb at hx ⊢
  generalize (w.alloc (.cells #[.int .i64 shard, .int .i64 (bitI yes)] 2 (0, 0))).drew = w4 at hx ⊢
  replace HX := Lib.hid hx
  clear hx
  refine hK _ _ ⟨_, HX.out.up2⟩ ?_
  clear hK
  refine r1 1 7 fun K hK => ?_
  go_wp2_with fail
  refine (yer' (xs := [shard, bitI yes]) (n := 2) HX.out.up1 rfl (by omega) (by simp [yaf'])).mono ?_
  rintro e w ⟨v5, rfl, hx⟩
  replace HX := Lib.hid hx
  clear hx
  go_wp2_with fail
  refine hK _ _ ⟨_, HX.out.up1⟩ ?_
  clear hK
  refine rL [8] 0 ?_
  simp only [List.filterMap_cons, List.filterMap_nil, k_i, k_j, k_k]
  go_wp2_with (first | refine u0 ?_ | (refine uS ?_; clear HX; intro w HX) | (refine uA ?_; clear HX; (first | (have hq := b2; clear hq; intro w b3 HX) | (have hq := b; clear hq; intro w b2 HX) | intro w b HX)))
  go_ret
  refine ⟨v5, rfl, ?_⟩
  unfold putC
  dsimp only
  rw [if_neg (show ¬ (6 : Int) = 1 by decide), if_neg (show ¬ (6 : Int) = 2 by decide), if_neg (show ¬ (6 : Int) = 3 by decide), if_neg (show ¬ (6 : Int) = 4 by decide), if_neg (show ¬ (6 : Int) = 5 by decide), if_pos rfl, show yad' 6 ++ yad' id ++ yad' shard ++ yad' (bitI yes) = yad' 6 ++ yad' id ++ [shard, bitI yes].flatMap yad' by simp]
  exact HX.out.pm 3 [0, 2] rfl rfl
 by_cases h7 : k0 = 7
 ·subst h7
  clear h1 h2 h3 h4 h5 h6 HLB
  go_enter Tryz.func41, Tryz.ntmps41
  go_wp2_with (first | refine u0 ?_ | (refine uS ?_; clear HX; intro w HX) | (refine uA ?_; clear HX; (first | (have hq := b2; clear hq; intro w b3 HX) | (have hq := b; clear hq; intro w b2 HX) | intro w b HX)))
  refine (yer' (l := []) (xs := [7, id]) (n := 2) ((HX.out.newCell _).nilRow 1) rfl (by omega) (by simp)).mono ?_
  rintro e w ⟨v3, rfl, hx⟩
  rw [show ([] : Bs) ++ [7, id].flatMap yad' = yad' 7 ++ yad' id by simp] at hx
  replace HX := Lib.hid hx
  clear hx
  go_wp2_with (first | refine u0 ?_ | (refine uS ?_; clear HX; intro w HX) | (refine uA ?_; clear HX; (first | (have hq := b2; clear hq; intro w b3 HX) | (have hq := b; clear hq; intro w b2 HX) | intro w b HX)))
  refine (yhy' HX.out shard (by simp [yaf'])).mono ?_
  rintro e w ⟨v5, rfl, hx⟩
  replace HX := Lib.hid hx
  clear hx
  go_wp2_with (first | refine u0 ?_ | (refine uS ?_; clear HX; intro w HX) | (refine uA ?_; clear HX; (first | (have hq := b2; clear hq; intro w b3 HX) | (have hq := b; clear hq; intro w b2 HX) | intro w b HX)))
  go_ret
  refine ⟨v5, rfl, ?_⟩
  unfold putC
  dsimp only
  rw [if_neg (show ¬ (7 : Int) = 1 by decide), if_neg (show ¬ (7 : Int) = 2 by decide), if_neg (show ¬ (7 : Int) = 3 by decide), if_neg (show ¬ (7 : Int) = 4 by decide), if_neg (show ¬ (7 : Int) = 5 by decide), if_neg (show ¬ (7 : Int) = 6 by decide), if_pos rfl]
  exact HX.out.pm 3 [0, 2] rfl rfl
 by_cases h8 : k0 = 8
 ·subst h8
  clear h1 h2 h3 h4 h5 h6 h7 HLB
  go_enter Tryz.func41, Tryz.ntmps41
  go_wp2_with (first | refine u0 ?_ | (refine uS ?_; clear HX; intro w HX) | (refine uA ?_; clear HX; (first | (have hq := b2; clear hq; intro w b3 HX) | (have hq := b; clear hq; intro w b2 HX) | intro w b HX)))
  refine (yer' (l := []) (xs := [8, id]) (n := 2) ((HX.out.newCell _).nilRow 1) rfl (by omega) (by simp)).mono ?_
  rintro e w ⟨v3, rfl, hx⟩
  rw [show ([] : Bs) ++ [8, id].flatMap yad' = yad' 8 ++ yad' id by simp] at hx
  replace HX := Lib.hid hx
  clear hx
  go_wp2_with (first | refine u0 ?_ | (refine uS ?_; clear HX; intro w HX) | (refine uA ?_; clear HX; (first | (have hq := b2; clear hq; intro w b3 HX) | (have hq := b; clear hq; intro w b2 HX) | intro w b HX)))
  go_ret
  refine ⟨v3, rfl, ?_⟩
  unfold putC
  dsimp only
  rw [if_neg (show ¬ (8 : Int) = 1 by decide), if_neg (show ¬ (8 : Int) = 2 by decide), if_neg (show ¬ (8 : Int) = 3 by decide), if_neg (show ¬ (8 : Int) = 4 by decide), if_neg (show ¬ (8 : Int) = 5 by decide), if_neg (show ¬ (8 : Int) = 6 by decide), if_neg (show ¬ (8 : Int) = 7 by decide), if_pos rfl]
  exact HX.out.pm 3 [0, 2] rfl rfl
 have q1 : (k0 == 1) = false := by rw [beq_eq_false_iff_ne]; exact h1
 have q2 : (k0 == 2) = false := by rw [beq_eq_false_iff_ne]; exact h2
 have q3 : (k0 == 3) = false := by rw [beq_eq_false_iff_ne]; exact h3
 have q4 : (k0 == 4) = false := by rw [beq_eq_false_iff_ne]; exact h4
 have q5 : (k0 == 5) = false := by rw [beq_eq_false_iff_ne]; exact h5
 have q6 : (k0 == 6) = false := by rw [beq_eq_false_iff_ne]; exact h6
 have q7 : (k0 == 7) = false := by rw [beq_eq_false_iff_ne]; exact h7
 have q8 : (k0 == 8) = false := by rw [beq_eq_false_iff_ne]; exact h8
 have HNO := Lib.hid (show putC ⟨k0, id, sess, rs, rn, ops, shards, shard, yes⟩ = [] by unfold putC; dsimp only; rw [if_neg h1, if_neg h2, if_neg h3, if_neg h4, if_neg h5, if_neg h6, if_neg h7, if_neg h8])
 clear h1 h2 h3 h4 h5 h6 h7 h8 HLB
 go_enter Tryz.func41, Tryz.ntmps41
 go_wp2_with (first | refine u0 ?_ | (refine uS ?_; clear HX; intro w HX) | (refine uA ?_; clear HX; (first | (have hq := b2; clear hq; intro w b3 HX) | (have hq := b; clear hq; intro w b2 HX) | intro w b HX)))
 refine (yer' (l := []) (xs := [k0, id]) (n := 2) ((HX.out.newCell _).nilRow 1) rfl (by omega) (by simp)).mono ?_
 rintro e w ⟨v3, rfl, hx⟩
 rw [show ([] : Bs) ++ [k0, id].flatMap yad' = yad' k0 ++ yad' id by simp] at hx
 replace HX := Lib.hid hx
 clear hx
 go_wp2_with (first | refine u0 ?_ | (refine uS ?_; clear HX; intro w HX) | (refine uA ?_; clear HX; (first | (have hq := b2; clear hq; intro w b3 HX) | (have hq := b; clear hq; intro w b2 HX) | intro w b HX)))
 go_ret
 refine ⟨_, rfl, ?_⟩
 rw [HNO.out]
 exact (HX.out.pm 3 [2] rfl rfl).nilRow 1
end
end Go.Proofs.YtcnkifbjlihaoaaGreatDoor

namespace Go.Proofs.YtcnkifbjlihaoaaGreatDoor
open Go.RowKit Go.Av
theorem ygx' {w W : World} (h : W.heap = w.heap) (a : Addr) : W.cell? a = w.cell? a := by unfold World.cell?; rw [h]
theorem yus' {l1 l2 : Bs} {p : Nat} (h : l1.take p = l2.take p) (h1 : p < l1.length) (h2 : p < l2.length) (he : l1[p] = l2[p]) : l1.take (p + 1) = l2.take (p + 1) := by
 rw [List.take_succ_eq_append_getElem h1, List.take_succ_eq_append_getElem h2, h, he]
set_option maxRecDepth 100000 in
set_option maxHeartbeats 1000000 in
theorem ywn' (v1 v2 : Value) (l1 l2 : Bs) (E1 E2 : List Nat) (w : World) (h1 : ReadRow w 1 v1 (l1.map bv) E1) (h2 : ReadRow w 1 v2 (l2.map bv) E2) :
  Calls Tryz.prog 108 #[v1, v2] w fun e w' => e = .returned (.bool (decide (l1 = l2))) ∧ Upd w w' [] [] := by
 obtain ⟨a1, n1, c1, rfl, -⟩ := id h1
 obtain ⟨hn1, hnc1, hcm1, hcell1⟩ := yd0' h1
 obtain ⟨a2, n2, c2, rfl, -⟩ := id h2
 obtain ⟨hn2, hnc2, hcm2, hcell2⟩ := yd0' h2
 rw [List.length_map] at hn1 hn2
 subst hn1
 subst hn2
 unfold maxLen at hcm1 hcm2
 have HC1 := Lib.hid hcell1
 have HC2 := Lib.hid hcell2
 clear hcell1 hcell2 h1 h2
 by_cases hll : l1.length = l2.length
 case neg =>
  have hb : ((l1.length : Int) != (l2.length : Int)) = true := by simp; omega
  have HD := Lib.hid (show decide (l1 = l2) = false by simp; intro e; exact hll (by rw [e]))
  clear hll
  go_enter Tryz.func108, Tryz.ntmps108
  go_wp2_with fail
  go_ret
  rw [HD.out]
  exact ⟨rfl, Upd.refl _ _⟩
 have hb : ((l1.length : Int) != (l2.length : Int)) = false := by simp; omega
 have HLL := Lib.hid hll
 clear hll
 go_enter Tryz.func108, Tryz.ntmps108
 go_wp2_with fail
 go_loopg [5, 13] l1.length (fun k _ i wr => ∃ p : Nat, p ≤ l1.length ∧ k = l1.length - p ∧ i = .int .i64 (p : Int) ∧ l1.take p = l2.take p ∧ wr.heap = w.heap ∧ Upd w wr [] [])
 case atStart => exact ⟨0, Nat.zero_le _, rfl, rfl, rfl, rfl, Upd.refl _ _⟩
 case round =>
  obtain ⟨p, hp, hk, hv, ht, hh, hu⟩ := hrel
  subst hv
  by_cases hlt : p < l1.length
  ·have hlt2 : p < l2.length := by rw [← HLL.out]; exact hlt
   obtain ⟨x1, rfl, hs1, hx1⟩ := HC1.out (by omega)
   obtain ⟨x2, rfl, hs2, hx2⟩ := HC2.out (by omega)
   have k1 := fun (W : World) (hW : W.heap = wr.heap) => (ygx' (hW.trans hh) _).trans (hx1 p (bv l1[p]) (by rw [List.getElem?_map, List.getElem?_eq_getElem hlt]; rfl))
   have k2 := fun (W : World) (hW : W.heap = wr.heap) => (ygx' (hW.trans hh) _).trans (hx2 p (bv l2[p]) (by rw [List.getElem?_map, List.getElem?_eq_getElem hlt2]; rfl))
   obtain ⟨u1, hu1⟩ : ∃ u, l1[p] = u := ⟨_, rfl⟩
   obtain ⟨u2, hu2⟩ : ∃ u, l2[p] = u := ⟨_, rfl⟩
   rw [hu1] at k1
   rw [hu2] at k2
   unfold bv at k1 k2
   have HT := Lib.hid (show _ ∧ _ ∧ _ ∧ _ ∧ _ from ⟨ht, hu1, hu2, hh, hu⟩)
   clear hx1 hx2 ht hu1 hu2 hh hu
   obtain ⟨b, hbb⟩ : ∃ b, ((u1.toNat : Int) != (u2.toNat : Int)) = b := ⟨_, rfl⟩
   have HB := Lib.hid hbb
   go_wp2_with fail
   refine yan' (fun W => W.heap = wr.heap) 9 (by kernel_rfl) ?_
   refine rT [(0, false), (1, false), (2, false), (3, true), (4, false), (5, false), (6, false), (7, true), (8, false)] 0 ?_
   apply Exists.intro; refine ⟨?_, rfl, ?_⟩
   ·iterate 9 ((first | (apply ybm'; (· (simp only [k_i, k_j, k_k]; try rfl)); (· rfl)) | ((first | apply yav' | apply yas'); (· (simp only [k_i, k_j, k_k]; try rfl)); (· rfl); (· (intros; go_simp; try with_reducible rfl)))); (· (simp only [Act.put, k_a, k_b, k_c]; try rfl)))
    exact rfl
   refine yah' (by kernel_rfl) ?_ _
   cases b with
   | true =>
    have hne : u1 ≠ u2 := by rintro rfl; have := HB.out; simp at this
    have HNE := Lib.hid hne
    clear hne
    go_wp2_with fail
    go_ret
    obtain ⟨ht, hu1, hu2, hh, hu⟩ := HT.out
    refine ⟨?_, hu.drew⟩
    have : decide (l1 = l2) = false := by
     simp
     intro e
     subst e
     exact HNE.out (hu1.symm.trans hu2)
    rw [this]
    rfl
   | false =>
    have heq : u1 = u2 := by have := HB.out; simp at this; exact UInt8.toNat_inj.1 (by omega)
    have HEQ := Lib.hid heq
    clear heq
    go_wp2_with fail
    go_roundg (l1.length - (p + 1))
    case rel =>
     obtain ⟨ht, hu1, hu2, hh, hu⟩ := HT.out
     exact ⟨p + 1, by omega, rfl, by go_num, yus' ht hlt hlt2 (by rw [hu1, hu2, HEQ.out]), hh, hu.drew⟩
    case measure => omega
  ·obtain rfl : p = l1.length := by omega
   have HU := Lib.hid (show _ ∧ _ from ⟨ht, hu⟩)
   clear ht hu hh
   go_wp2_with fail
   go_ret
   obtain ⟨ht, hu⟩ := HU.out
   rw [List.take_length, HLL.out, List.take_length] at ht
   exact ⟨by simp [ht], hu⟩
theorem ywo' {w0 w : World} {P : List PRow} {R : List Thing} {rows : List (Value × Bs)} (h : Sep w0 w (yab' w0 P :: R) rows) {v1 v2 : Value} {l1 l2 : Bs} (h1 : (1, v1, l1.map bv) ∈ P) (h2 : (1, v2, l2.map bv) ∈ P) :
  Calls Tryz.prog 108 #[v1, v2] w fun e w' => e = .returned (.bool (decide (l1 = l2))) ∧ Sep w0 w' (yab' w0 P :: R) rows := by
 obtain ⟨E1, e1⟩ := h.poolGet h1
 obtain ⟨E2, e2⟩ := h.poolGet h2
 exact (ywn' v1 v2 l1 l2 E1 E2 w e1 e2).mono fun e w' hh => ⟨hh.1, h.keep hh.2⟩
end Go.Proofs.YtcnkifbjlihaoaaGreatDoor

namespace Go.Proofs.YtcnkifbjlihaoaaGreatDoor
open Go.RowKit Go.Av
section
variable {w0 w : World} {P P' : List PRow} {R : List Thing} {rows : List (Value × Bs)}
def ydt' : CmdS := ⟨0, 0, 0, 0, 0, [], [], 0, false⟩
def ys0' (w0 : World) (o : Option CmdS) (P : List PRow) (R : List Thing) (rows : List (Value × Bs)) (e : Ending) (w' : World) : Prop :=
 ∃ vo vs P', e = .returned (.tuple #[.agg (cmdV (o.getD ydt') vo vs), .int .i64 (if o.isSome then 0 else 3)]) ∧ (∀ z ∈ P, z ∈ P') ∧ (5, vo, (o.getD ydt').ops.flatMap OpS.cells) ∈ P' ∧ (1, vs, (o.getD ydt').shards.map ivn) ∈ P' ∧ Sep w0 w' (yab' w0 P' :: R) rows
theorem yep' (t : Bs) : ∀ o ∈ (ya5' t).2.2, o.path.size ≤ 100000 := by
 unfold ya5' getR
 intro o ho
 split at ho
 ·have := ygm' _ _ o ho
  omega
 ·cases ho
theorem yki' (d : Rd) : (shR d).1.length ≤ 1000 := by
 have h := yct' (most := 4) (by omega) d
 unfold shR
 rw [yg9']
 omega
theorem yal' {K : Nat} {v : Value} {xs : List Value} (h : Sep w0 w (yab' w0 P :: R) rows) (hv : (K, v, xs) ∈ P) : ∃ a n c, v = .slice a n c := by
 obtain ⟨E, hE⟩ := h.poolGet hv
 obtain ⟨a, n, c, e, -⟩ := hE
 exact ⟨a, n, c, e⟩
def yvx' (w0 : World) (l : Bs) (r b b2 b3 : Nat) (P : List PRow) (R : List Thing) (rows : List (Value × Bs)) (W : World) : Prop :=
 ∃ (c : CmdS) (d : Rd) (bad : Bool) (vo vs : Value) (P' : List PRow), rawC l = (c, d, bad) ∧ (∀ z ∈ P, z ∈ P') ∧ (5, vo, c.ops.flatMap OpS.cells) ∈ P' ∧ (1, vs, c.shards.map ivn) ∈ P' ∧ (∀ o ∈ c.ops, o.path.size ≤ 100000) ∧ c.shards.length ≤ 1000 ∧
  Sep w0 W (yds' r d :: yac' b2 (.cells #[.pointer (some ⟨r, 0, none⟩), .bool bad] 180 (0, 0)) :: yab' w0 P' :: yac' b3 (.cells (cmdV c vo vs) 70 (0, 0)) :: yac' b (.cells (cmdV ydt' (.slice none 0 0) (.slice none 0 0)) 70 (0, 0)) :: R) rows
set_option maxRecDepth 100000 in
set_option maxHeartbeats 8000000 in
theorem yf9' (h : Sep w0 w (yab' w0 P :: R) rows) (hd : DoorN w0) (v : Value) (l : Bs) (hv : (1, v, l.map bv) ∈ P) (hl : l.length ≤ 1000000) :
  Calls Tryz.prog 39 #[v] w (ys0' w0 (getC l) P R rows) := by
 have HV := Lib.hid (show _ ∧ _ from ⟨hv, hl⟩)
 have HX := Lib.hid ((h.poolNil 5).poolNil 1)
 obtain ⟨o, ho⟩ : ∃ o, getC l = o := ⟨_, rfl⟩
 rw [ho]
 have HO := Lib.hid ho
 clear h hv hl ho
 obtain ⟨⟨k0, d1⟩, h1⟩ : ∃ x, i64R (l, false) = x := ⟨_, rfl⟩
 obtain ⟨⟨id, d2⟩, h2⟩ : ∃ x, i64R d1 = x := ⟨_, rfl⟩
 have HD := Lib.hid (show yit' l = (k0, id, d2) by unfold yit'; rw [h1]; dsimp only; rw [h2])
 have H1 := Lib.hid h1
 have H2 := Lib.hid h2
 clear h1 h2
 go_enter Tryz.func39, Tryz.ntmps39
 go_wp2_with (first | refine u0 ?_ | (refine uS ?_; clear HX; intro w HX) | (refine uA ?_; clear HX; (first | (have hq := b3; clear hq; intro w b4 HX) | (have hq := b2; clear hq; intro w b3 HX) | (have hq := b; clear hq; intro w b2 HX) | intro w b HX)))
 refine (ylz' HX.out.up1 v l (k_n _ (k_n _ HV.out.1)) HV.out.2).mono ?_
 rintro e w ⟨r, rfl, hx⟩
 replace HX := Lib.hid hx
 clear hx
 go_wp2_with (first | refine u0 ?_ | (refine uS ?_; clear HX; intro w HX) | (refine uA ?_; clear HX; (first | (have hq := b3; clear hq; intro w b4 HX) | (have hq := b2; clear hq; intro w b3 HX) | (have hq := b; clear hq; intro w b2 HX) | intro w b HX)))
 refine (yb8' HX.out.up1).mono ?_
 rw [H1.out]
 rintro e w ⟨rfl, hx⟩
 replace HX := Lib.hid hx
 clear hx
 go_wp2_with (first | refine u0 ?_ | (refine uS ?_; clear HX; intro w HX) | (refine uA ?_; clear HX; (first | (have hq := b3; clear hq; intro w b4 HX) | (have hq := b2; clear hq; intro w b3 HX) | (have hq := b; clear hq; intro w b2 HX) | intro w b HX)))
 refine (yb8' HX.out.up1).mono ?_
 rw [H2.out]
 rintro e w ⟨rfl, hx⟩
 replace HX := Lib.hid hx
 clear hx
 go_upto_block 0 with (first | refine u0 ?_ | (refine uS ?_; clear HX; intro w HX) | (refine uA ?_; clear HX; (first | (have hq := b3; clear hq; intro w b4 HX) | (have hq := b2; clear hq; intro w b3 HX) | (have hq := b; clear hq; intro w b2 HX) | intro w b HX)))
 go_cut [] (fun W => yvx' w0 l r b b2 b3 P R rows W)
 case first =>
  by_cases g1 : k0 = 1
  ·subst g1
   go_wp2_with (first | refine u0 ?_ | (refine uS ?_; clear HX; intro w HX) | (refine uA ?_; clear HX; (first | (have hq := b3; clear hq; intro w b4 HX) | (have hq := b2; clear hq; intro w b3 HX) | (have hq := b; clear hq; intro w b2 HX) | intro w b HX)))
   refine (yjc' HX.out.up3.up3.up2 hd).mono ?_
   rintro e w ⟨vo, P3, rfl, hP3, hvo, hx⟩
   replace HX := Lib.hid hx
   clear hx
   obtain ⟨va, vn, vc, rfl⟩ := yal' HX.out.up2 hvo
   have HP := Lib.hid (show _ ∧ _ from ⟨hP3, hvo⟩)
   clear hP3 hvo
   go_wp2_with (first | refine u0 ?_ | (refine uS ?_; clear HX; intro w HX) | (refine uA ?_; clear HX; (first | (have hq := b3; clear hq; intro w b4 HX) | (have hq := b2; clear hq; intro w b3 HX) | (have hq := b; clear hq; intro w b2 HX) | intro w b HX)))
   go_meet
   refine ⟨⟨1, id, 0, (ya5' (yaj' 40000 d2).1).1, (ya5' (yaj' 40000 d2).1).2.1, (ya5' (yaj' 40000 d2).1).2.2, [], 0, false⟩, _, _, _, .slice none 0 0, _, ?_, fun z hz => HP.out.1 _ ((fun z hz => k_n _ (k_n _ hz)) z hz), HP.out.2, HP.out.1 _ k_s, yep' _, by simp, HX.out⟩
   unfold rawC
   rw [HD.out]
   dsimp only
   rw [if_pos rfl, Bool.false_or]
  by_cases g2 : k0 = 2
  ·subst g2
   clear g1
   obtain ⟨⟨se, d3⟩, h3⟩ : ∃ x, i64R d2 = x := ⟨_, rfl⟩
   obtain ⟨⟨sl, d4⟩, h4⟩ : ∃ x, shR d3 = x := ⟨_, rfl⟩
   have hsl := yki' d3
   rw [h4] at hsl
   have H34 := Lib.hid (show _ ∧ _ ∧ _ from ⟨h3, h4, hsl⟩)
   clear h3 h4 hsl
   go_wp2_with (first | refine u0 ?_ | (refine uS ?_; clear HX; intro w HX) | (refine uA ?_; clear HX; (first | (have hq := b3; clear hq; intro w b4 HX) | (have hq := b2; clear hq; intro w b3 HX) | (have hq := b; clear hq; intro w b2 HX) | intro w b HX)))
   refine (yb8' HX.out).mono ?_
   rw [H34.out.1]
   rintro e w ⟨rfl, hx⟩
   replace HX := Lib.hid hx
   clear hx
   go_wp2_with (first | refine u0 ?_ | (refine uS ?_; clear HX; intro w HX) | (refine uA ?_; clear HX; (first | (have hq := b3; clear hq; intro w b4 HX) | (have hq := b2; clear hq; intro w b3 HX) | (have hq := b; clear hq; intro w b2 HX) | intro w b HX)))
   refine (yev' HX.out.up3.up3.up2).mono ?_
   rw [H34.out.2.1]
   rintro e w ⟨vs, P2, rfl, hP2, hvs, hx⟩
   replace HX := Lib.hid hx
   clear hx
   obtain ⟨sa, sn, sc, rfl⟩ := yal' HX.out.up2 hvs
   have HQ := Lib.hid (show _ ∧ _ from ⟨hP2, hvs⟩)
   clear hP2 hvs
   go_wp2_with (first | refine u0 ?_ | (refine uS ?_; clear HX; intro w HX) | (refine uA ?_; clear HX; (first | (have hq := b3; clear hq; intro w b4 HX) | (have hq := b2; clear hq; intro w b3 HX) | (have hq := b; clear hq; intro w b2 HX) | intro w b HX)))
   refine (yjc' HX.out hd).mono ?_
   rintro e w ⟨vo, P3, rfl, hP3, hvo, hx⟩
   replace HX := Lib.hid hx
   clear hx
   obtain ⟨va, vn, vc, rfl⟩ := yal' HX.out.up2 hvo
   have HP := Lib.hid (show _ ∧ _ from ⟨hP3, hvo⟩)
   clear hP3 hvo
   go_wp2_with (first | refine u0 ?_ | (refine uS ?_; clear HX; intro w HX) | (refine uA ?_; clear HX; (first | (have hq := b3; clear hq; intro w b4 HX) | (have hq := b2; clear hq; intro w b3 HX) | (have hq := b; clear hq; intro w b2 HX) | intro w b HX)))
   go_meet
   refine ⟨⟨2, id, se, (ya5' (yaj' 40000 d4).1).1, (ya5' (yaj' 40000 d4).1).2.1, (ya5' (yaj' 40000 d4).1).2.2, sl, 0, false⟩, _, _, _, .slice sa sn sc, _, ?_, fun z hz => HP.out.1 _ (HQ.out.1 _ ((fun z hz => k_n _ (k_n _ hz)) z hz)), HP.out.2, HP.out.1 _ HQ.out.2, yep' _, H34.out.2.2, HX.out⟩
   unfold rawC
   rw [HD.out]
   dsimp only
   rw [if_neg (by decide), if_pos rfl, H34.out.1]
   dsimp only
   rw [H34.out.2.1, Bool.false_or]
  by_cases g3 : k0 = 3
  ·subst g3
   clear g1 g2
   obtain ⟨⟨se, d3⟩, h3⟩ : ∃ x, i64R d2 = x := ⟨_, rfl⟩
   obtain ⟨⟨sl, d4⟩, h4⟩ : ∃ x, shR d3 = x := ⟨_, rfl⟩
   have hsl := yki' d3
   rw [h4] at hsl
   have H34 := Lib.hid (show _ ∧ _ ∧ _ from ⟨h3, h4, hsl⟩)
   clear h3 h4 hsl
   go_wp2_with (first | refine u0 ?_ | (refine uS ?_; clear HX; intro w HX) | (refine uA ?_; clear HX; (first | (have hq := b3; clear hq; intro w b4 HX) | (have hq := b2; clear hq; intro w b3 HX) | (have hq := b; clear hq; intro w b2 HX) | intro w b HX)))
   refine (yb8' HX.out).mono ?_
   rw [H34.out.1]
   rintro e w ⟨rfl, hx⟩
   replace HX := Lib.hid hx
   clear hx
   go_wp2_with (first | refine u0 ?_ | (refine uS ?_; clear HX; intro w HX) | (refine uA ?_; clear HX; (first | (have hq := b3; clear hq; intro w b4 HX) | (have hq := b2; clear hq; intro w b3 HX) | (have hq := b; clear hq; intro w b2 HX) | intro w b HX)))
   refine (yev' HX.out.up3.up3.up2).mono ?_
   rw [H34.out.2.1]
   rintro e w ⟨vs, P2, rfl, hP2, hvs, hx⟩
   replace HX := Lib.hid hx
   clear hx
   obtain ⟨sa, sn, sc, rfl⟩ := yal' HX.out.up2 hvs
   have HQ := Lib.hid (show _ ∧ _ from ⟨hP2, hvs⟩)
   clear hP2 hvs
   go_wp2_with (first | refine u0 ?_ | (refine uS ?_; clear HX; intro w HX) | (refine uA ?_; clear HX; (first | (have hq := b3; clear hq; intro w b4 HX) | (have hq := b2; clear hq; intro w b3 HX) | (have hq := b; clear hq; intro w b2 HX) | intro w b HX)))
   go_meet
   refine ⟨⟨3, id, se, 0, 0, [], sl, 0, false⟩, d4, false, .slice none 0 0, .slice sa sn sc, _, ?_, fun z hz => HQ.out.1 _ ((fun z hz => k_n _ (k_n _ hz)) z hz), HQ.out.1 _ (k_n _ k_s), HQ.out.2, by simp, H34.out.2.2, HX.out⟩
   unfold rawC
   rw [HD.out]
   dsimp only
   rw [if_neg (by decide), if_neg (by decide), if_pos rfl, H34.out.1]
   dsimp only
   rw [H34.out.2.1]
  by_cases g4 : k0 = 4
  ·subst g4
   clear g1 g2 g3
   go_wp2_with (first | refine u0 ?_ | (refine uS ?_; clear HX; intro w HX) | (refine uA ?_; clear HX; (first | (have hq := b3; clear hq; intro w b4 HX) | (have hq := b2; clear hq; intro w b3 HX) | (have hq := b; clear hq; intro w b2 HX) | intro w b HX)))
   refine (ylx' HX.out.up2.up1).mono ?_
   rintro e w ⟨rfl, hx⟩
   replace HX := Lib.hid hx
   clear hx
   go_wp2_with (first | refine u0 ?_ | (refine uS ?_; clear HX; intro w HX) | (refine uA ?_; clear HX; (first | (have hq := b3; clear hq; intro w b4 HX) | (have hq := b2; clear hq; intro w b3 HX) | (have hq := b; clear hq; intro w b2 HX) | intro w b HX)))
   go_meet
   refine ⟨⟨4, id, 0, 0, 0, [], [], 0, (cntR 1 d2).1 == 1⟩, _, false, .slice none 0 0, .slice none 0 0, _, ?_, fun z hz => k_n _ (k_n _ hz), k_n _ k_s, k_s, by simp, by simp, HX.out.pm 5 [0, 1, 3, 2, 4] rfl rfl⟩
   unfold rawC
   rw [HD.out]
   dsimp only
   rw [if_neg (by decide), if_neg (by decide), if_neg (by decide), if_pos rfl]
  by_cases g5 : k0 = 5
  ·subst g5
   clear g1 g2 g3 g4
   obtain ⟨⟨sl, d4⟩, h4⟩ : ∃ x, shR d2 = x := ⟨_, rfl⟩
   have hsl := yki' d2
   rw [h4] at hsl
   have H34 := Lib.hid (show _ ∧ _ from ⟨h4, hsl⟩)
   clear h4 hsl
   go_wp2_with (first | refine u0 ?_ | (refine uS ?_; clear HX; intro w HX) | (refine uA ?_; clear HX; (first | (have hq := b3; clear hq; intro w b4 HX) | (have hq := b2; clear hq; intro w b3 HX) | (have hq := b; clear hq; intro w b2 HX) | intro w b HX)))
   refine (yev' HX.out.up3.up3.up2).mono ?_
   rw [H34.out.1]
   rintro e w ⟨vs, P2, rfl, hP2, hvs, hx⟩
   replace HX := Lib.hid hx
   clear hx
   obtain ⟨sa, sn, sc, rfl⟩ := yal' HX.out.up2 hvs
   have HQ := Lib.hid (show _ ∧ _ from ⟨hP2, hvs⟩)
   clear hP2 hvs
   go_wp2_with (first | refine u0 ?_ | (refine uS ?_; clear HX; intro w HX) | (refine uA ?_; clear HX; (first | (have hq := b3; clear hq; intro w b4 HX) | (have hq := b2; clear hq; intro w b3 HX) | (have hq := b; clear hq; intro w b2 HX) | intro w b HX)))
   go_meet
   refine ⟨⟨5, id, 0, 0, 0, [], sl, 0, false⟩, d4, false, .slice none 0 0, .slice sa sn sc, _, ?_, fun z hz => HQ.out.1 _ ((fun z hz => k_n _ (k_n _ hz)) z hz), HQ.out.1 _ (k_n _ k_s), HQ.out.2, by simp, H34.out.2, HX.out⟩
   unfold rawC
   rw [HD.out]
   dsimp only
   rw [if_neg (by decide), if_neg (by decide), if_neg (by decide), if_neg (by decide), if_pos rfl]
   rw [H34.out.1]
  by_cases g6 : k0 = 6
  ·subst g6
   clear g1 g2 g3 g4 g5
   go_wp2_with (first | refine u0 ?_ | (refine uS ?_; clear HX; intro w HX) | (refine uA ?_; clear HX; (first | (have hq := b3; clear hq; intro w b4 HX) | (have hq := b2; clear hq; intro w b3 HX) | (have hq := b; clear hq; intro w b2 HX) | intro w b HX)))
   refine (ycl' HX.out 3 (by omega)).mono ?_
   rintro e w ⟨rfl, hx⟩
   replace HX := Lib.hid hx
   clear hx
   go_wp2_with (first | refine u0 ?_ | (refine uS ?_; clear HX; intro w HX) | (refine uA ?_; clear HX; (first | (have hq := b3; clear hq; intro w b4 HX) | (have hq := b2; clear hq; intro w b3 HX) | (have hq := b; clear hq; intro w b2 HX) | intro w b HX)))
   refine (ylx' HX.out.up2.up1).mono ?_
   rintro e w ⟨rfl, hx⟩
   replace HX := Lib.hid hx
   clear hx
   go_wp2_with (first | refine u0 ?_ | (refine uS ?_; clear HX; intro w HX) | (refine uA ?_; clear HX; (first | (have hq := b3; clear hq; intro w b4 HX) | (have hq := b2; clear hq; intro w b3 HX) | (have hq := b; clear hq; intro w b2 HX) | intro w b HX)))
   go_meet
   refine ⟨⟨6, id, 0, 0, 0, [], [], (cntR 3 d2).1, (cntR 1 (cntR 3 d2).2).1 == 1⟩, _, false, .slice none 0 0, .slice none 0 0, _, ?_, fun z hz => k_n _ (k_n _ hz), k_n _ k_s, k_s, by simp, by simp, HX.out.pm 5 [0, 1, 3, 2, 4] rfl rfl⟩
   unfold rawC
   rw [HD.out]
   dsimp only
   rw [if_neg (by decide), if_neg (by decide), if_neg (by decide), if_neg (by decide), if_neg (by decide), if_pos rfl]
  by_cases g7 : k0 = 7
  ·subst g7
   clear g1 g2 g3 g4 g5 g6
   go_wp2_with (first | refine u0 ?_ | (refine uS ?_; clear HX; intro w HX) | (refine uA ?_; clear HX; (first | (have hq := b3; clear hq; intro w b4 HX) | (have hq := b2; clear hq; intro w b3 HX) | (have hq := b; clear hq; intro w b2 HX) | intro w b HX)))
   refine (ycl' HX.out 3 (by omega)).mono ?_
   rintro e w ⟨rfl, hx⟩
   replace HX := Lib.hid hx
   clear hx
   go_wp2_with (first | refine u0 ?_ | (refine uS ?_; clear HX; intro w HX) | (refine uA ?_; clear HX; (first | (have hq := b3; clear hq; intro w b4 HX) | (have hq := b2; clear hq; intro w b3 HX) | (have hq := b; clear hq; intro w b2 HX) | intro w b HX)))
   go_meet
   refine ⟨⟨7, id, 0, 0, 0, [], [], (cntR 3 d2).1, false⟩, _, false, .slice none 0 0, .slice none 0 0, _, ?_, fun z hz => k_n _ (k_n _ hz), k_n _ k_s, k_s, by simp, by simp, HX.out.pm 5 [0, 2, 3, 1, 4] rfl rfl⟩
   unfold rawC
   rw [HD.out]
   dsimp only
   rw [if_neg (by decide), if_neg (by decide), if_neg (by decide), if_neg (by decide), if_neg (by decide), if_neg (by decide), if_pos rfl]
  have f1 : (k0 == 1) = false := by rw [beq_eq_false_iff_ne]; exact g1
  have f2 : (k0 == 2) = false := by rw [beq_eq_false_iff_ne]; exact g2
  have f3 : (k0 == 3) = false := by rw [beq_eq_false_iff_ne]; exact g3
  have f4 : (k0 == 4) = false := by rw [beq_eq_false_iff_ne]; exact g4
  have f5 : (k0 == 5) = false := by rw [beq_eq_false_iff_ne]; exact g5
  have f6 : (k0 == 6) = false := by rw [beq_eq_false_iff_ne]; exact g6
  have f7 : (k0 == 7) = false := by rw [beq_eq_false_iff_ne]; exact g7
  have HG := Lib.hid (show _ ∧ _ ∧ _ ∧ _ ∧ _ ∧ _ ∧ _ from ⟨g1, g2, g3, g4, g5, g6, g7⟩)
  clear g1 g2 g3 g4 g5 g6 g7
  go_wp2_with (first | refine u0 ?_ | (refine uS ?_; clear HX; intro w HX) | (refine uA ?_; clear HX; (first | (have hq := b3; clear hq; intro w b4 HX) | (have hq := b2; clear hq; intro w b3 HX) | (have hq := b; clear hq; intro w b2 HX) | intro w b HX)))
  go_meet
  refine ⟨⟨k0, id, 0, 0, 0, [], [], 0, false⟩, _, false, .slice none 0 0, .slice none 0 0, _, ?_, fun z hz => k_n _ (k_n _ hz), k_n _ k_s, k_s, by simp, by simp, HX.out.pm 5 [0, 2, 3, 1, 4] rfl rfl⟩
  unfold rawC
  rw [HD.out]
  dsimp only
  obtain ⟨g1, g2, g3, g4, g5, g6, g7⟩ := HG.out
  rw [if_neg g1, if_neg g2, if_neg g3, if_neg g4, if_neg g5, if_neg g6, if_neg g7]
 case rest =>
  obtain ⟨⟨k, i2, se, rs, rn, ops, shs, sd, ys⟩, d, bad, vo, vs, P', hr, hPP, hvo, hvs, hpa, hsh, hS⟩ := hcut
  obtain ⟨va, vn, vc, rfl⟩ := yal' hS.up2 hvo
  obtain ⟨sa, sn, sc, rfl⟩ := yal' hS.up2 hvs
  have HR := Lib.hid hr
  have HPP := Lib.hid (show _ ∧ _ ∧ _ ∧ _ ∧ _ from ⟨hPP, hvo, hvs, hpa, hsh⟩)
  clear HX hr hPP hvo hvs hpa hsh
  rename World => w
  have HX := Lib.hid hS.up2
  clear hS
  have HS := Lib.hid (fun (q : PRow) (h : q ∈ P') => h)
  unfold cmdV ydt' at HX
  dsimp only at HX HPP
  cases bad with
  | true =>
   obtain rfl : o = none := by
    rw [← HO.out]
    unfold getC
    rw [HR.out, if_neg]
    rintro ⟨h1, h2, h3⟩
    cases h1
   go_wp2_with (first | refine u0 ?_ | (refine uS ?_; clear HX; intro w HX) | (refine uA ?_; clear HX; (first | (have hq := b3; clear hq; intro w b4 HX) | (have hq := b2; clear hq; intro w b3 HX) | (have hq := b; clear hq; intro w b2 HX) | intro w b HX)))
   refine ybp' HX rfl rfl (by (repeat (first | (with_reducible exact k_s) | (with_reducible apply k_m)))) (by kernel_rfl) ?_
   exact ⟨.slice none 0 0, .slice none 0 0, _, rfl, fun z hz => k_n _ (k_n _ (HS.out _ (HPP.out.1 z hz))), k_n _ k_s, k_s, (HX.out.cut1.cut1.cut1.cut1.poolNil 5).poolNil 1⟩
  | false =>
   go_wp2_with (first | refine u0 ?_ | (refine uS ?_; clear HX; intro w HX) | (refine uA ?_; clear HX; (first | (have hq := b3; clear hq; intro w b4 HX) | (have hq := b2; clear hq; intro w b3 HX) | (have hq := b; clear hq; intro w b2 HX) | intro w b HX)))
   refine (yjb' HX.out.up1).mono ?_
   obtain ⟨ze, hze⟩ : ∃ z, endR d = z := ⟨_, rfl⟩
   have hze2 : (!d.2 && d.1.isEmpty) = ze := hze
   rw [hze2]
   rintro e w2 ⟨rfl, rfl⟩
   clear hze2
   have HZ := Lib.hid hze
   clear hze
   cases ze with
   | false =>
    obtain rfl : o = none := by
     rw [← HO.out]
     unfold getC
     rw [HR.out, if_neg]
     rintro ⟨h1, h2, h3⟩
     (rw [HZ.out] at h2; cases h2)
    go_wp2_with (first | refine u0 ?_ | (refine uS ?_; clear HX; intro w HX) | (refine uA ?_; clear HX; (first | (have hq := b3; clear hq; intro w b4 HX) | (have hq := b2; clear hq; intro w b3 HX) | (have hq := b; clear hq; intro w b2 HX) | intro w b HX)))
    refine ybp' HX rfl rfl (by (repeat (first | (with_reducible exact k_s) | (with_reducible apply k_m)))) (by kernel_rfl) ?_
    exact ⟨.slice none 0 0, .slice none 0 0, _, rfl, fun z hz => k_n _ (k_n _ (HS.out _ (HPP.out.1 z hz))), k_n _ k_s, k_s, (HX.out.cut1.cut1.cut1.cut1.poolNil 5).poolNil 1⟩
   | true =>
    go_wp2_with (first | refine u0 ?_ | (refine uS ?_; clear HX; intro w HX) | (refine uA ?_; clear HX; (first | (have hq := b3; clear hq; intro w b4 HX) | (have hq := b2; clear hq; intro w b3 HX) | (have hq := b; clear hq; intro w b2 HX) | intro w b HX)))
    refine (yef' HX.out hd ⟨k, i2, se, rs, rn, ops, shs, sd, ys⟩ (.slice va vn vc) (.slice sa sn sc) HPP.out.2.1 HPP.out.2.2.1 HPP.out.2.2.2.1 HPP.out.2.2.2.2).mono ?_
    rintro e w ⟨v4, rfl, hx⟩
    have hx := hx.poolRow
    replace HX := Lib.hid hx
    clear hx
    go_wp2_with (first | refine u0 ?_ | (refine uS ?_; clear HX; intro w HX) | (refine uA ?_; clear HX; (first | (have hq := b3; clear hq; intro w b4 HX) | (have hq := b2; clear hq; intro w b3 HX) | (have hq := b; clear hq; intro w b2 HX) | intro w b HX)))
    refine (ywo' HX.out k_s (k_n _ (HPP.out.1 _ HV.out.1))).mono ?_
    obtain ⟨q, hq⟩ : ∃ q, decide (putC ⟨k, i2, se, rs, rn, ops, shs, sd, ys⟩ = l) = q := ⟨_, rfl⟩
    rw [hq]
    rintro e w ⟨rfl, hx⟩
    replace HX := Lib.hid hx
    clear hx
    have HQ := Lib.hid hq
    clear hq HS
    have HS := Lib.hid (fun (q : PRow) (h : q ∈ P') => List.mem_cons_of_mem (1, v4, (putC ⟨k, i2, se, rs, rn, ops, shs, sd, ys⟩).map bv) h)
    cases q with
    | false =>
     obtain rfl : o = none := by
      rw [← HO.out]
      unfold getC
      rw [HR.out, if_neg]
      rintro ⟨h1, h2, h3⟩
      exact of_decide_eq_false HQ.out h3
     go_wp2_with (first | refine u0 ?_ | (refine uS ?_; clear HX; intro w HX) | (refine uA ?_; clear HX; (first | (have hq := b3; clear hq; intro w b4 HX) | (have hq := b2; clear hq; intro w b3 HX) | (have hq := b; clear hq; intro w b2 HX) | intro w b HX)))
     refine ybp' HX rfl rfl (by (repeat (first | (with_reducible exact k_s) | (with_reducible apply k_m)))) (by kernel_rfl) ?_
     exact ⟨.slice none 0 0, .slice none 0 0, _, rfl, fun z hz => k_n _ (k_n _ (HS.out _ (HPP.out.1 z hz))), k_n _ k_s, k_s, (HX.out.cut1.cut1.cut1.cut1.poolNil 5).poolNil 1⟩
    | true =>
     obtain rfl : o = some ⟨k, i2, se, rs, rn, ops, shs, sd, ys⟩ := by
      rw [← HO.out]
      unfold getC
      rw [HR.out, if_pos ⟨rfl, HZ.out, of_decide_eq_true HQ.out⟩]
     go_wp2_with (first | refine u0 ?_ | (refine uS ?_; clear HX; intro w HX) | (refine uA ?_; clear HX; (first | (have hq := b3; clear hq; intro w b4 HX) | (have hq := b2; clear hq; intro w b3 HX) | (have hq := b; clear hq; intro w b2 HX) | intro w b HX)))
     refine ybp' HX rfl rfl (by (repeat (first | (with_reducible exact k_s) | (with_reducible apply k_m)))) (by kernel_rfl) ?_
     exact ⟨.slice va vn vc, .slice sa sn sc, _, rfl, fun z hz => HS.out _ (HPP.out.1 z hz), HS.out _ HPP.out.2.1, HS.out _ HPP.out.2.2.1, HX.out.cut1.cut1.cut1.cut1⟩
end
end Go.Proofs.YtcnkifbjlihaoaaGreatDoor

namespace Go.Proofs.YtcnkifbjlihaoaaGreatDoor
open Go.RowKit Go.Av
section
variable {w0 w : World} {b : Nat} {S : TreeS} {P P' : List PRow} {R : List Thing} {rows : List (Value × Bs)}
end
end Go.Proofs.YtcnkifbjlihaoaaGreatDoor

namespace Go.Proofs.YtcnkifbjlihaoaaGreatDoor
open Go.RowKit Go.Av
section
variable {w0 w : World} {b : Nat} {S : TreeS} {P P' : List PRow} {R : List Thing} {rows : List (Value × Bs)}
end
end Go.Proofs.YtcnkifbjlihaoaaGreatDoor

namespace Go.Proofs.YtcnkifbjlihaoaaGreatDoor
open Go.RowKit Go.Av
section
variable {w0 w : World} {P P' : List PRow} {R : List Thing} {rows : List (Value × Bs)}
theorem sn_act : StructN Tryz.prog 37 5 := ⟨by kernel_rfl⟩
theorem z_rreply : yco' Tryz.prog 37 #[.int .i64 0, .int .i64 0, .int .i64 0, .int .i64 0, .slice none 0 0] := by unfold yco'; kernel_rfl
end
end Go.Proofs.YtcnkifbjlihaoaaGreatDoor

namespace Go.Proofs.YtcnkifbjlihaoaaGreatDoor
open Go.RowKit Go.Av
section
variable {w0 w : World} {P P' : List PRow} {R : List Thing} {rows : List (Value × Bs)}
theorem ytw' {l : List OpS} (h : yg6' l = false) : l.length ≤ 20 ∧ ∀ o ∈ l, o.path.size ≤ 300 := by
 unfold yg6' at h
 rw [Bool.or_eq_false_iff] at h
 refine ⟨by have := of_decide_eq_false h.1; omega, fun o ho => ?_⟩
 have := List.any_eq_false.1 h.2 o ho
 simp at this
 omega
end
end Go.Proofs.YtcnkifbjlihaoaaGreatDoor

namespace Go.Proofs.YtcnkifbjlihaoaaGreatDoor
open Go.RowKit Go.Av
section
variable {w0 w : World} {P P' : List PRow} {R : List Thing} {rows : List (Value × Bs)}
end
end Go.Proofs.YtcnkifbjlihaoaaGreatDoor

namespace Go.Proofs.YtcnkifbjlihaoaaGreatDoor
open Go.RowKit Go.Av
theorem sn_x6 : StructN Tryz.prog 93 11 := ⟨by kernel_rfl⟩
theorem z_x6 : yco' Tryz.prog 93 #[.int .i64 0, .int .i64 0, .int .i64 0, .int .i64 0, .int .i64 0, .int .i64 0, .slice none 0 0, .int .i64 0, .int .i64 0, .slice none 0 0, .bool false] := by unfold yco'; kernel_rfl
section
variable {w0 w : World} {P P' : List PRow} {R : List Thing} {rows : List (Value × Bs)}
def outV (o : OutS) (v1 v2 : Value) : Array Value := #[.int .i64 o.kind, .int .i64 o.id, .int .i64 o.reply.num, .int .i64 o.reply.zxid, .int .i64 o.reply.err, .int .i64 o.reply.at_, v1, .int .i64 o.err, .int .i64 o.at_, v2, .bool o.yes]
def RsIn (P : List PRow) (rs : List ResS) (v : Value) : Prop := ∃ xs, ResL P rs xs ∧ (11, v, xs) ∈ P
theorem RsIn.mono {P P' : List PRow} {rs : List ResS} {v : Value} (h : RsIn P rs v) (hP : ∀ q ∈ P, q ∈ P') : RsIn P' rs v := by
 obtain ⟨xs, h1, h2⟩ := h
 exact ⟨xs, h1.mono hP, hP _ h2⟩
def OutIn (P : List PRow) (o : OutS) (v1 v2 : Value) : Prop := RsIn P o.reply.rs v1 ∧ RsIn P o.rs v2
theorem OutIn.mono {P P' : List PRow} {o : OutS} {v1 v2 : Value} (h : OutIn P o v1 v2) (hP : ∀ q ∈ P, q ∈ P') : OutIn P' o v1 v2 := ⟨h.1.mono hP, h.2.mono hP⟩
theorem yor' (h : Sep w0 w (yab' w0 P :: R) rows) (v : Value) (b : List Bs) (hv : (1, v, b.map sv) ∈ P) (hn : b.length ≤ 1000000) :
  Calls Tryz.prog 183 #[v] w fun e w' => ∃ v', e = .returned v' ∧ Sep w0 w' (yab' w0 ((1, v', b.map sv) :: P) :: R) rows := by
 obtain ⟨E, hE⟩ := h.poolGet hv
 refine (yd9' v b E w hE (by omega)).mono ?_
 rintro e w' ⟨v', D, rfl, ho, hu⟩
 exact ⟨v', rfl, h.poolAdd ho hu⟩
def yxx' (w0 : World) (rs : List ResS) (P : List PRow) (R : List Thing) (rows : List (Value × Bs)) (e : Ending) (w' : World) : Prop :=
 ∃ v P', e = .returned v ∧ (∀ q ∈ P, q ∈ P') ∧ RsIn P' rs v ∧ Sep w0 w' (yab' w0 P' :: R) rows
def yxy' (w0 : World) (rs : List ResS) (P : List PRow) (R : List Thing) (rows : List (Value × Bs)) (k : Nat) (v3 v8 : Value) (w : World) : Prop :=
 ∃ (i : Nat) (ys : List Value) (a : Option Addr) (n c : Nat) (P' : List PRow), i + k = rs.length ∧ v3 = .slice a n c ∧ v8 = .int .i64 (i : Int) ∧ (∀ q ∈ P, q ∈ P') ∧ ResL P' (rs.take i) ys ∧ Sep w0 w (ybc' 11 (.slice a n c) ys :: yab' w0 P' :: R) rows
set_option maxRecDepth 100000 in
set_option maxHeartbeats 4000000 in
theorem yia' (h : Sep w0 w (yab' w0 P :: R) rows) (rs : List ResS) (v : Value) (hv : RsIn P rs v) (hok : ykr' rs) :
  Calls Tryz.prog 201 #[v] w (yxx' w0 rs P R rows) := by
 obtain ⟨xs, hr, hm⟩ := hv
 obtain ⟨E, hE⟩ := h.poolGet hm
 obtain ⟨a0, n0, c0, rfl, hl0, -, -, hne⟩ := ReadRow.some hE
 rw [hr.len] at hl0
 obtain rfl : rs.length = n0 := by omega
 have HV := Lib.hid (show _ ∧ _ ∧ _ from ⟨hr, hm, hok⟩)
 have HNE := Lib.hid hne
 have HX := Lib.hid h
 clear h hE hl0 hne hr hm hok
 go_enter Tryz.func201, Tryz.ntmps201
 go_wp2_with (first | refine u0 ?_ | (refine uS ?_; clear HX; intro w HX) | (refine uA ?_; clear HX; (first | (have hq := b; clear hq; intro w b2 HX) | intro w b HX)) | (refine uP ?_; clear HX; intro w av nv cv HX))
 have HST := Lib.hid (show yxy' w0 rs P R rows rs.length (.slice none 0 0) (.int .i64 (0 : Int)) w from ⟨0, [], none, 0, 0, P, by simp, rfl, rfl, fun q hq => hq, .nil, HX.out.nilRow 11⟩)
 clear HX
 go_loopg [3, 5, 8] rs.length (fun k v3 _ v8 wr => yxy' w0 rs P R rows k v3 v8 wr)
 case atStart => exact HST.out
 case round =>
  rename World => w
  obtain ⟨i, ys, a, n, c, P', hik, rfl, rfl, hP', hrl, hS⟩ := hrel
  have HRL := Lib.hid (show _ ∧ _ from ⟨hP', hrl⟩)
  have HX := Lib.hid hS
  clear hP' hrl hS HST
  by_cases hlt : i < rs.length
  case neg =>
   obtain rfl : i = rs.length := by omega
   rw [List.take_length] at HRL
   clear hlt hik
   go_wp2_with (first | refine u0 ?_ | (refine uS ?_; clear HX; intro w HX) | (refine uA ?_; clear HX; (first | (have hq := b; clear hq; intro w b2 HX) | intro w b HX)) | (refine uP ?_; clear HX; intro w av nv cv HX))
   go_ret
   exact ⟨_, _, rfl, fun q hq => k_n _ (HRL.out.1 q hq), ⟨ys, HRL.out.2.mono (fun q hq => k_n _ hq), k_s⟩, HX.out.poolRow⟩
  case pos =>
   obtain ⟨nv, m1, k1⟩ := HV.out.1.at hlt
   obtain ⟨g, off, rfl⟩ := HNE.out (by intro e; have e : xs = [] := e; have := k1 0 _ rfl; rw [e] at this; cases this)
   have htk : rs.take (i + 1) = rs.take i ++ [rs[i]] := List.take_succ_eq_append_getElem hlt
   have hfew := HV.out.2.2.2 _ (List.getElem_mem hlt)
   obtain ⟨r, hr⟩ : ∃ r, rs[i] = r := ⟨_, rfl⟩
   rw [hr] at m1 k1 htk hfew
   obtain ⟨E, hE⟩ := HX.out.up1.poolGet (HRL.out.1 _ HV.out.2.1)
   have hl := yuk' (P := Tryz.prog) (ty := 115) (f := 0) hE sn_res rfl (by simp [ResS.cells]) k1
   obtain ⟨E2, hE2⟩ := HX.out.up1.poolGet (HRL.out.1 _ m1)
   obtain ⟨na, nn, nc, rfl, -⟩ := _root_.id hE2
   have HLN := Lib.hid (show ys.length = i * 11 by have := HRL.out.2.len; rw [List.length_take, Nat.min_eq_left (by omega)] at this; exact this)
   have HBD := Lib.hid (show ∀ n, ys.length = n * 11 → n + 1 ≤ 140737488355328 ∧ (n + 1) * 120 ≤ 140737488355328 from fun n hn => by
    have := HLN.out
    have := HV.out.2.2.1
    omega)
   have HK := Lib.hid (show _ ∧ _ ∧ _ from ⟨m1, htk, hfew⟩)
   have q0 : decide (i < rs.length) = true := decide_eq_true hlt
   have q9 : i ≤ 16 := by have := HV.out.2.2.1; omega
   clear hE hE2 k1 m1 htk hfew hr
   go_wp2_with (first | refine u0 ?_ | (refine uS ?_; clear HX; intro w HX) | (refine uA ?_; clear HX; (first | (have hq := b; clear hq; intro w b2 HX) | intro w b HX)) | (refine uP ?_; clear HX; intro w av nv cv HX) | ((with_reducible apply yau' hl); (· rfl); (· rfl); simp only [Act.put, k_a, k_b, k_c]))
   refine (yor' HX.out.up2 _ r.names (HRL.out.1 _ HK.out.1) (by have := HK.out.2.2; omega)).mono ?_
   rintro e w ⟨v4, rfl, hx⟩
   obtain ⟨E3, hE3⟩ := hx.poolGet k_s
   obtain ⟨ma, mn, mc, rfl, -⟩ := _root_.id hE3
   clear hE3 hl
   replace HX := Lib.hid hx
   clear hx
   go_wp2_with (first | refine u0 ?_ | (refine uS ?_; clear HX; intro w HX) | (refine uA ?_; clear HX; (first | (have hq := b; clear hq; intro w b2 HX) | intro w b HX)) | (refine uP ?_; clear HX; intro w av nv cv HX))
   go_roundg (rs.length - (i + 1))
   case rel =>
    refine ⟨i + 1, _, av, nv, cv, (1, .slice ma mn mc, r.names.map sv) :: P', by omega, rfl, by go_num, fun q hq => k_n _ (HRL.out.1 q hq), ?_, HX.out.pm 4 [0, 2] rfl rfl⟩
    rw [HK.out.2.1]
    exact (HRL.out.2.mono (fun q hq => k_n _ hq)).snoc k_s
   case measure => omega
def yxv' (w0 : World) (o : OutS) (P : List PRow) (R : List Thing) (rows : List (Value × Bs)) (e : Ending) (w' : World) : Prop :=
 ∃ v1 v2 P', e = .returned (.agg (outV o v1 v2)) ∧ (∀ q ∈ P, q ∈ P') ∧ OutIn P' o v1 v2 ∧ Sep w0 w' (yab' w0 P' :: R) rows
theorem yb1' {rs : List ResS} {v : Value} (h : Sep w0 w (yab' w0 P :: R) rows) (hv : RsIn P rs v) : ∃ a n c, v = .slice a n c := by
 obtain ⟨xs, -, hm⟩ := hv
 exact yal' h hm
set_option maxRecDepth 100000 in
set_option maxHeartbeats 4000000 in
theorem yg1' (h : Sep w0 w (yab' w0 P :: R) rows) (o : OutS) (v1 v2 : Value) (hin : OutIn P o v1 v2) (hok : ypw' o) :
  Calls Tryz.prog 169 #[.agg (outV o v1 v2)] w (yxv' w0 o P R rows) := by
 obtain ⟨a1, n1, c1, rfl⟩ := yb1' h hin.1
 obtain ⟨a2, n2, c2, rfl⟩ := yb1' h hin.2
 have HV := Lib.hid (show _ ∧ _ from ⟨hin, hok⟩)
 have HX := Lib.hid h
 obtain ⟨kind, id, ⟨num, zxid, err, at_, rs1⟩, e2, at2, rs2, yes⟩ := o
 clear h hin hok
 unfold outV
 dsimp only at HV ⊢
 go_enter Tryz.func169, Tryz.ntmps169
 go_wp2_with (first | refine u0 ?_ | (refine uS ?_; clear HX; intro w HX) | (refine uA ?_; clear HX; (first | (have hq := b; clear hq; intro w b2 HX) | intro w b HX)))
 refine (yia' HX.out.up2 rs2 _ HV.out.1.2 HV.out.2.2).mono ?_
 rintro e w ⟨v9, P9, rfl, hP9, hv9, hx⟩
 replace HX := Lib.hid hx
 clear hx
 obtain ⟨ra, rn, rc, rfl⟩ := yb1' HX.out hv9
 have H2 := Lib.hid (show _ ∧ _ from ⟨hP9, hv9⟩)
 clear hP9 hv9
 go_wp2_with (first | refine u0 ?_ | (refine uS ?_; clear HX; intro w HX) | (refine uA ?_; clear HX; (first | (have hq := b; clear hq; intro w b2 HX) | intro w b HX)))
 refine (yia' HX.out rs1 _ (HV.out.1.1.mono H2.out.1) HV.out.2.1).mono ?_
 rintro e w ⟨v9, P8, rfl, hP8, hv8, hx⟩
 replace HX := Lib.hid hx
 clear hx
 obtain ⟨sa, sn, sc, rfl⟩ := yb1' HX.out hv8
 have H1 := Lib.hid (show _ ∧ _ from ⟨hP8, hv8⟩)
 clear hP8 hv8
 go_wp2_with (first | refine u0 ?_ | (refine uS ?_; clear HX; intro w HX) | (refine uA ?_; clear HX; (first | (have hq := b; clear hq; intro w b2 HX) | intro w b HX)))
 refine ybd' HX rfl rfl (by (repeat (first | (with_reducible exact k_s) | (with_reducible apply k_m)))) (by kernel_rfl) ?_
 exact ⟨_, _, _, rfl, fun q hq => H1.out.1 q (H2.out.1 q hq), ⟨H1.out.2, H2.out.2.mono H1.out.1⟩, HX.out.cut1.cut1⟩
end
end Go.Proofs.YtcnkifbjlihaoaaGreatDoor

namespace Go.Proofs.YtcnkifbjlihaoaaGreatDoor
open Go.RowKit Go.Av
section
variable {w0 w : World} {P P' : List PRow} {R : List Thing} {rows : List (Value × Bs)}
end
end Go.Proofs.YtcnkifbjlihaoaaGreatDoor

namespace Go.Av
end Go.Av
namespace Go.Proofs.YtcnkifbjlihaoaaGreatDoor
open Go.RowKit Go.Av
section
variable {w0 w : World} {b : Nat} {S : PartS} {P P' : List PRow} {R : List Thing} {rows : List (Value × Bs)}
end
end Go.Proofs.YtcnkifbjlihaoaaGreatDoor

namespace Go.Proofs.YtcnkifbjlihaoaaGreatDoor
open Go.RowKit Go.Av
theorem sn_x7 : StructN Tryz.prog 204 4 := ⟨by kernel_rfl⟩
section
variable {w0 w : World} {b : Nat} {S : ShardS} {P P' : List PRow} {R : List Thing} {rows : List (Value × Bs)}
def CoO (c : Nat) (S : CoS) (L : List Thing) : Prop := ∃ (m : Nat) (gs : List EntG), gs.map EntG.ent = S ∧ (∀ e ∈ S, okE e) ∧ L = yhn' c m (gs.map EntG.kv) ++ gs.flatMap EntG.th
def ThCo (c : Nat) (S : CoS) : Thing := Bun (CoO c S)
theorem ywg' {c : Nat} {S : CoS} (h : Co w0 w c S R rows) : Sep w0 w (ThCo c S :: R) rows := by
 obtain ⟨m, gs, h1, h2, hS⟩ := h
 rw [← List.append_assoc] at hS
 exact Sep.shut (O := CoO c S) ⟨m, gs, h1, h2, rfl⟩ hS
structure KnG where
 b : Bs
 o : OutS
 v1 : Value
 v2 : Value
def KnG.kv (g : KnG) : Value × Value := (sv g.b, .agg (outV g.o g.v1 g.v2))
def KnG.ent (g : KnG) : Bs × OutS := (g.b, g.o)
def ShO (b : Nat) (S : ShardS) (P : List PRow) (L : List Thing) : Prop :=
 ∃ (p c mk : Nat) (gs : List KnG), L = [yac' b (.cells #[.pointer (some ⟨p, 0, none⟩), .pointer (some ⟨c, 0, none⟩), .int .i64 S.played, .map (some mk)] 204 (0, 0)), ycc' p S.p P, ThCo c S.c, yay' .string mk (gs.map KnG.kv)] ∧
  gs.map KnG.ent = S.known ∧ ∀ g ∈ gs, OutIn P g.o g.v1 g.v2
def ycs' (b : Nat) (S : ShardS) (P : List PRow) : Thing := Bun (ShO b S P)
theorem yie' (h : Sep w0 w (ycs' b S P :: R) rows) : ∃ (p c mk : Nat) (gs : List KnG), gs.map KnG.ent = S.known ∧ (∀ g ∈ gs, OutIn P g.o g.v1 g.v2) ∧
  Sep w0 w (yac' b (.cells #[.pointer (some ⟨p, 0, none⟩), .pointer (some ⟨c, 0, none⟩), .int .i64 S.played, .map (some mk)] 204 (0, 0)) :: ycc' p S.p P :: ThCo c S.c :: yay' .string mk (gs.map KnG.kv) :: R) rows := by
 obtain ⟨L, ⟨p, c, mk, gs, rfl, h1, h2⟩, hS⟩ := h.opens
 exact ⟨p, c, mk, gs, h1, h2, hS⟩
theorem yfk' {p c mk : Nat} {gs : List KnG} (h : Sep w0 w (yac' b (.cells #[.pointer (some ⟨p, 0, none⟩), .pointer (some ⟨c, 0, none⟩), .int .i64 S.played, .map (some mk)] 204 (0, 0)) :: ycc' p S.p P :: ThCo c S.c :: yay' .string mk (gs.map KnG.kv) :: R) rows)
  (h1 : gs.map KnG.ent = S.known) (h2 : ∀ g ∈ gs, OutIn P g.o g.v1 g.v2) : Sep w0 w (ycs' b S P :: R) rows :=
 Sep.shut (O := ShO b S P) ⟨p, c, mk, gs, rfl, h1, h2⟩ h
theorem yr0' (h : Sep w0 w (ycs' b S P :: R) rows) (hP : ∀ r ∈ P, r ∈ P') : Sep w0 w (ycs' b S P' :: R) rows := by
 obtain ⟨p, c, mk, gs, h1, h2, hS⟩ := yie' h
 exact yfk' (yeo' hS.up1 hP).up1 h1 (fun g hg => (h2 g hg).mono hP)
def DoS (w0 : World) (b : Nat) (cs : Array Value) (b2 : Nat) (cs2 : Array Value) (rows : List (Value × Bs)) (W : World) : Prop := ∃ Ts, Sep w0 W (yac' b (.cells cs 204 (0, 0)) :: yac' b2 (.cells cs2 70 (0, 0)) :: Ts) rows
theorem DoS.of {cs cs2 : Array Value} {b2 : Nat} (h : Sep w0 w (yac' b (.cells cs 204 (0, 0)) :: yac' b2 (.cells cs2 70 (0, 0)) :: R) rows) : DoS w0 b cs b2 cs2 rows w := ⟨R, h⟩
theorem DoS.l1 {cs cs2 : Array Value} {b2 : Nat} (h : DoS w0 b cs b2 cs2 rows w) {ty : TypeId} (i : Nat) {v : Value} (hs : ycy' Tryz.prog ty = true) (hv : cs[i]? = some v) : (Instr.loadAt ty (.pointer (some ⟨b, i, none⟩))).run Tryz.prog w = .ok v w := by
 obtain ⟨Ts, hV⟩ := h
 exact yag' hs (yaa' hV.blk i hv)
theorem DoS.l2 {cs cs2 : Array Value} {b2 : Nat} (h : DoS w0 b cs b2 cs2 rows w) {ty : TypeId} (i : Nat) {v : Value} (hs : ycy' Tryz.prog ty = true) (hv : cs2[i]? = some v) : (Instr.loadAt ty (.pointer (some ⟨b2, i, none⟩))).run Tryz.prog w = .ok v w := by
 obtain ⟨Ts, hV⟩ := h
 exact yag' hs (yaa' hV.up1.blk i hv)
theorem DoS.l3 {cs cs2 : Array Value} {b2 : Nat} (h : DoS w0 b cs b2 cs2 rows w) (hn : 6 ≤ cs2.size) : (Instr.loadAt 42 (.pointer (some ⟨b2, 3, none⟩))).run Tryz.prog w = .ok (.agg ((cs2.toList.drop 3).take 3).toArray) w := by
 obtain ⟨Ts, hV⟩ := h
 exact yat' (i := 3) sn_req.1 hV.up1.blk hn
def yps' (w0 : World) (b : Nat) (P : List PRow) (R : List Thing) (rows : List (Value × Bs)) (m : OutS × ShardS) (e : Ending) (w' : World) : Prop :=
 ∃ v1 v2 P', e = .returned (.agg (outV m.1 v1 v2)) ∧ (∀ q ∈ P, q ∈ P') ∧ OutIn P' m.1 v1 v2 ∧ Sep w0 w' (yab' w0 P' :: ycs' b m.2 P' :: R) rows
theorem yrw' : RsIn ((11, .slice none 0 0, []) :: P) [] (.slice none 0 0) := ⟨[], .nil, k_s⟩
theorem yx2' {p c mk : Nat} {gs : List KnG} {o : OutS} (hr : o.reply.rs = []) (hr2 : o.rs = []) (hP : ∀ q ∈ P, q ∈ P') (h1 : gs.map KnG.ent = S.known) (h2 : ∀ g ∈ gs, OutIn P g.o g.v1 g.v2)
  (h : Sep w0 w (yab' w0 P' :: yac' b (.cells #[.pointer (some ⟨p, 0, none⟩), .pointer (some ⟨c, 0, none⟩), .int .i64 S.played, .map (some mk)] 204 (0, 0)) :: ycc' p S.p P' :: ThCo c S.c :: yay' .string mk (gs.map KnG.kv) :: R) rows) :
  yps' w0 b P R rows (o, S) (.returned (.agg (outV o (.slice none 0 0) (.slice none 0 0)))) w := by
 have h3 := (h.poolNil 11).up1
 have hq : ∀ q ∈ P', q ∈ (11, Value.slice none 0 0, []) :: P' := fun q hq => k_n _ hq
 have h4 := yeo' h3.up2 hq
 refine ⟨_, _, _, rfl, fun q hh => hq q (hP q hh), ⟨by show RsIn _ o.reply.rs _; rw [hr]; exact yrw', by show RsIn _ o.rs _; rw [hr2]; exact yrw'⟩, ?_⟩
 exact (yfk' (b := b) (S := S) (p := p) (c := c) (mk := mk) (gs := gs) (R := yab' w0 ((11, Value.slice none 0 0, []) :: P') :: R) (h4.pm 5 [1, 0, 3, 4, 2] rfl rfl) h1 (fun g hg => (h2 g hg).mono (fun q hh => hq q (hP q hh)))).up1
set_option maxRecDepth 100000 in
theorem yr2' (h : Sep w0 w (yab' w0 P :: R) rows) (room : Int) (h1 : 1 ≤ room) (h2 : room ≤ 500) :
  Calls Tryz.prog 46 #[.int .i64 room] w fun e w' => ∃ b, e = .returned (.tuple #[.pointer (some ⟨b, 0, none⟩), .int .i64 0]) ∧ Sep w0 w' (yab' w0 P :: ycs' b (yg7' room) P :: R) rows := by
 have HX := Lib.hid h
 clear h
 go_enter Tryz.func46, Tryz.ntmps46
 go_wp2_with (first | refine u0 ?_ | (refine uS ?_; clear HX; intro w HX) | (refine uA ?_; clear HX; (first | (have hq := b; clear hq; intro w b2 HX) | intro w b HX)) | (refine uN ?_; clear HX; intro w mm HX))
 refine (ym1' HX.out room h1 h2).mono ?_
 rintro e w ⟨p, rfl, hx⟩
 replace HX := Lib.hid hx
 clear hx
 go_wp2_with (first | refine u0 ?_ | (refine uS ?_; clear HX; intro w HX) | (refine uA ?_; clear HX; (first | (have hq := b; clear hq; intro w b2 HX) | intro w b HX)) | (refine uN ?_; clear HX; intro w mm HX))
 refine (yq4' HX.out).mono ?_
 rintro e w ⟨c, rfl, hx⟩
 have hx := ywg' hx
 replace HX := Lib.hid hx
 clear hx
 go_wp2_with (first | refine u0 ?_ | (refine uS ?_; clear HX; intro w HX) | (refine uA ?_; clear HX; (first | (have hq := b; clear hq; intro w b2 HX) | intro w b HX)) | (refine uN ?_; clear HX; intro w mm HX))
 go_ret2
 refine ⟨_, rfl, ?_⟩
 exact (yfk' (b := b) (S := yg7' room) (p := p) (c := c) (mk := mm) (gs := []) (R := yab' w0 P :: R) (HX.out.pm 5 [0, 4, 2, 1, 3] rfl rfl) rfl (by simp)).up1
end
end Go.Proofs.YtcnkifbjlihaoaaGreatDoor

namespace Go.Av
open Go.RowKit
section
variable {P : Program} {ops : Array Oper} {S : World → Prop} {a a' A : Act} {dst : Option Tmp} {tyy src tt : TypeId} {x y : Operand} {pos : String} {aft : Array Edge} {g : Option (Nat × Bool)} {k : Nat} {v p q : Value} {r : List (Nat × Bool)} {c : Bool}
theorem ybx' (hl : ∀ W, S W → (convert src tt p).run P W = .ok v W) (ho : ops[k]? = some ⟨dst, .convert src tt x, tyy, pos, aft, g⟩) (hx : a.eval x = p) (hw : Region.wanted ⟨dst, .convert src tt x, tyy, pos, aft, g⟩ (yielded ops a.tmps) = true) (ha : a' = a.put dst v) (hr : ya0' P ops S r a' A) : ya0' P ops S ((k, true) :: r) a A := by
 refine yas' ho hw (fun W hW => ?_) ha hr
 unfold execOp
 dsimp only
 rw [hx]
 exact ycn' (hl W hW)
theorem yir' (hl : ∀ W, S W → (Instr.lookup src p q c).run P W = .ok v W) (ho : ops[k]? = some ⟨dst, .lookup src x y c, tyy, pos, aft, g⟩) (hx : a.eval x = p) (hy : a.eval y = q) (hw : Region.wanted ⟨dst, .lookup src x y c, tyy, pos, aft, g⟩ (yielded ops a.tmps) = true) (ha : a' = a.put dst v) (hr : ya0' P ops S r a' A) : ya0' P ops S ((k, true) :: r) a A := by
 refine yas' ho hw (fun W hW => ?_) ha hr
 unfold execOp
 dsimp only
 rw [hx, hy]
 exact ycn' (hl W hW)
end
end Go.Av
namespace Go.Proofs.YtcnkifbjlihaoaaGreatDoor
open Go.RowKit Go.Av
section
variable {w0 w : World} {b : Nat} {S : ShardS} {P P' : List PRow} {R : List Thing} {rows : List (Value × Bs)}
theorem yxd' (b : Bs) : (∀ o ∈ (rawC b).1.ops, o.path.size ≤ 100000) ∧ (rawC b).1.id = (yit' b).2.1 := by
 obtain ⟨⟨k, id, d⟩, h⟩ : ∃ x, yit' b = x := ⟨_, rfl⟩
 unfold rawC
 rw [h]
 dsimp only
 have hn : ∀ o ∈ ([] : List OpS), o.path.size ≤ 100000 := fun o ho => by cases ho
 have ha := yep' (yaj' 40000 d).1
 have hb := yep' (yaj' 40000 (shR (i64R d).2).2).1
 generalize ya5' (yaj' 40000 d).1 = x1 at ha ⊢
 generalize ya5' (yaj' 40000 (shR (i64R d).2).2).1 = x2 at hb ⊢
 generalize getR (yaj' 40000 d).1 = y1
 generalize getR (yaj' 40000 (shR (i64R d).2).2).1 = y2
 generalize yaj' 40000 d = z1
 generalize yaj' 40000 (shR (i64R d).2).2 = z2
 by_cases h1 : k = 1
 ·rw [if_pos h1]; exact ⟨ha, rfl⟩
 rw [if_neg h1]
 by_cases h1 : k = 2
 ·rw [if_pos h1]; exact ⟨hb, rfl⟩
 rw [if_neg h1]
 by_cases h1 : k = 3
 ·rw [if_pos h1]; exact ⟨hn, rfl⟩
 rw [if_neg h1]
 by_cases h1 : k = 4
 ·rw [if_pos h1]; exact ⟨hn, rfl⟩
 rw [if_neg h1]
 by_cases h1 : k = 5
 ·rw [if_pos h1]; exact ⟨hn, rfl⟩
 rw [if_neg h1]
 by_cases h1 : k = 6
 ·rw [if_pos h1]; exact ⟨hn, rfl⟩
 rw [if_neg h1]
 by_cases h1 : k = 7
 ·rw [if_pos h1]; exact ⟨hn, rfl⟩
 rw [if_neg h1]
 exact ⟨hn, rfl⟩
theorem yqj' (d : Rd) : (i64R d).1 ≤ 9223372036854775807 := by
 unfold i64R
 split
 ·simp
 ·simp only [rdI, IntKind.wrap_i64]
  omega
theorem ywq' {l : Bs} {c : CmdS} (h : getC l = some c) : (∀ o ∈ c.ops, o.path.size ≤ 100000) ∧ (1 ≤ c.kind ∧ c.kind ≤ 8) ∧ c.id ≤ 9223372036854775807 := by
 have hk := yqe' h
 obtain ⟨h1, h2⟩ := yxd' l
 unfold getC at h
 split at h
 ·injection h with h
  subst h
  refine ⟨h1, hk, ?_⟩
  rw [h2]
  exact yqj' _
 ·cases h
theorem yxu' (w : World) : (zeroValue 93).run Tryz.prog w = .ok (.agg #[.int .i64 0, .int .i64 0, .int .i64 0, .int .i64 0, .int .i64 0, .int .i64 0, .slice none 0 0, .int .i64 0, .int .i64 0, .slice none 0 0, .bool false]) w := by kernel_rfl
theorem ywu' {gs : List KnG} {m : Nat} (h : Sep w0 w (yay' .string m (gs.map KnG.kv) :: R) rows) (l : Bs) (hn : ∀ g ∈ gs, g.b ≠ l) :
  (Instr.lookup 202 (.map (some m)) (.string ⟨l.toArray⟩) true).run Tryz.prog w = .ok (.tuple #[.agg #[.int .i64 0, .int .i64 0, .int .i64 0, .int .i64 0, .int .i64 0, .int .i64 0, .slice none 0 0, .int .i64 0, .int .i64 0, .slice none 0 0, .bool false], .bool false]) w :=
 yhd' h.mapIs Tryz.underlying202 Tryz.underlying9 (key := .string ⟨l.toArray⟩) (by first | trivial | rfl | exact ⟨_, rfl⟩) (fun q hq e => by
  obtain ⟨g, hg, rfl⟩ := List.mem_map.1 hq
  exact hn g hg (yii' e)) (yxu' w) true
theorem ywv' {gs : List KnG} {m : Nat} (h : Sep w0 w (yay' .string m (gs.map KnG.kv) :: R) rows) {g : KnG} (hg : g ∈ gs) :
  (Instr.lookup 202 (.map (some m)) (.string ⟨g.b.toArray⟩) true).run Tryz.prog w = .ok (.tuple #[.agg (outV g.o g.v1 g.v2), .bool true]) w :=
 yh3' h.mapIs Tryz.underlying202 Tryz.underlying9 (key := sv g.b) (by first | trivial | rfl | exact ⟨_, rfl⟩) (List.mem_map.2 ⟨g, hg, rfl⟩) true
theorem yfs' {v : Value} {l : Bs} (h : Sep w0 w (yab' w0 P :: R) rows) (hv : (1, v, l.map bv) ∈ P) : (convert 71 9 v).run Tryz.prog w = .ok (.string ⟨l.toArray⟩) w := by
 obtain ⟨E, hE⟩ := h.poolGet hv
 exact Go.Av.conv_str Tryz.underlying71 Tryz.underlying5 Tryz.underlying9 hE w (fun _ _ => rfl)
def PlS (w0 : World) (b : Nat) (cs : Array Value) (mk : Nat) (kvs : List (Value × Value)) (P : List PRow) (rows : List (Value × Bs)) (W : World) : Prop := ∃ Ts, Sep w0 W (yac' b (.cells cs 204 (0, 0)) :: yay' .string mk kvs :: yab' w0 P :: Ts) rows
theorem PlS.l1 {cs : Array Value} {mk : Nat} {kvs : List (Value × Value)} (h : PlS w0 b cs mk kvs P rows w) {ty : TypeId} (i : Nat) {v : Value} (hs : ycy' Tryz.prog ty = true) (hv : cs[i]? = some v) : (Instr.loadAt ty (.pointer (some ⟨b, i, none⟩))).run Tryz.prog w = .ok v w := by
 obtain ⟨Ts, hV⟩ := h
 exact yag' hs (yaa' hV.blk i hv)
theorem PlS.l2 {cs : Array Value} {mk : Nat} {kvs : List (Value × Value)} (h : PlS w0 b cs mk kvs P rows w) {v : Value} {l : Bs} (hv : (1, v, l.map bv) ∈ P) : (convert 71 9 v).run Tryz.prog w = .ok (.string ⟨l.toArray⟩) w := by
 obtain ⟨Ts, hV⟩ := h
 exact yfs' hV.up2 hv
theorem PlS.l3 {cs : Array Value} {mk : Nat} {gs : List KnG} (h : PlS w0 b cs mk (gs.map KnG.kv) P rows w) {g : KnG} (hg : g ∈ gs) :
  (Instr.lookup 202 (.map (some mk)) (.string ⟨g.b.toArray⟩) true).run Tryz.prog w = .ok (.tuple #[.agg (outV g.o g.v1 g.v2), .bool true]) w := by
 obtain ⟨Ts, hV⟩ := h
 exact ywv' hV.up1 hg
theorem PlS.l4 {cs : Array Value} {mk : Nat} {gs : List KnG} (h : PlS w0 b cs mk (gs.map KnG.kv) P rows w) (l : Bs) (hn : ∀ g ∈ gs, g.b ≠ l) :
  (Instr.lookup 202 (.map (some mk)) (.string ⟨l.toArray⟩) true).run Tryz.prog w = .ok (.tuple #[.agg #[.int .i64 0, .int .i64 0, .int .i64 0, .int .i64 0, .int .i64 0, .int .i64 0, .slice none 0 0, .int .i64 0, .int .i64 0, .slice none 0 0, .bool false], .bool false]) w := by
 obtain ⟨Ts, hV⟩ := h
 exact ywu' hV.up1 l hn
def PlT (w0 : World) (b : Nat) (cs : Array Value) (b5 : Nat) (cs5 : Array Value) (q : PRow) (rows : List (Value × Bs)) (W : World) : Prop := ∃ P Ts, q ∈ P ∧ Sep w0 W (yac' b (.cells cs 204 (0, 0)) :: yac' b5 (.cells cs5 93 (0, 0)) :: yab' w0 P :: Ts) rows
theorem PlT.l1 {cs cs5 : Array Value} {b5 : Nat} {q : PRow} (h : PlT w0 b cs b5 cs5 q rows w) {ty : TypeId} (i : Nat) {v : Value} (hs : ycy' Tryz.prog ty = true) (hv : cs[i]? = some v) : (Instr.loadAt ty (.pointer (some ⟨b, i, none⟩))).run Tryz.prog w = .ok v w := by
 obtain ⟨P, Ts, -, hV⟩ := h
 exact yag' hs (yaa' hV.blk i hv)
theorem PlT.l2 {cs cs5 : Array Value} {b5 : Nat} {v : Value} {l : Bs} (h : PlT w0 b cs b5 cs5 (1, v, l.map bv) rows w) : (convert 71 9 v).run Tryz.prog w = .ok (.string ⟨l.toArray⟩) w := by
 obtain ⟨P, Ts, hq, hV⟩ := h
 exact yfs' hV.up2 hq
theorem PlT.l3 {cs cs5 : Array Value} {b5 : Nat} {q : PRow} (h : PlT w0 b cs b5 cs5 q rows w) (hn : 11 ≤ cs5.size) : (Instr.loadAt 93 (.pointer (some ⟨b5, 0, none⟩))).run Tryz.prog w = .ok (.agg ((cs5.toList.drop 0).take 11).toArray) w := by
 obtain ⟨P, Ts, -, hV⟩ := h
 exact yat' (i := 0) sn_x6.1 hV.up1.blk hn
end
end Go.Proofs.YtcnkifbjlihaoaaGreatDoor
