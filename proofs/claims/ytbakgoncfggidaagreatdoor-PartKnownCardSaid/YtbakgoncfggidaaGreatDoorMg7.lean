/-
  Texts of this claim, laid together.
-/
import Derived.Test.YtbakgoncfggidaaGreatDoorMg6
import Derived.Deep.LoopGhost
import Derived.Deep.AppendSrc
import Derived.Shelf.SlIterI.Nil
import Derived.Shelf.SortM.Plain
import Derived.Shelf.SortM.SortNone
import Derived.Ground.GgzProg
import Derived.Ground.SlgmProg
import Derived.Test.YtbakgoncfggidaaGreatDoorProg
import Derived.Deep.DeepCutAuto
set_option linter.unusedVariables false
set_option linter.unusedSimpArgs false

namespace Go.Av
open Go.RowKit
def actS (S : PartS) (a : PAct) : PartS :=
  if a.op = 0 then (localS S a.sess a.id a.ops).2 else if a.op = 1 then (prepS S a.id a.sess a.ops).2 else if a.op = 2 then (closeS S a.id a.sess).2 else (decideS S a.id a.yes).2
theorem takeH_len (H : HeldL) (who : Int) (ps : List Bs) : (takeH H who ps).length ≤ H.length + ps.length := by
  unfold takeH
  split
  · omega
  · exact foldH_len who ps H
theorem wants_two (o : OpS) : (wantsS o).length ≤ 2 := by
  unfold wantsS
  split
  · simp
  · split <;> simp
theorem takeOps_len (id : Int) : ∀ (ops : List OpS) (H : HeldL), (takeOps H id ops).length ≤ H.length + 2 * ops.length
  | [], H => Nat.le_refl _
  | o :: ops, H => by
    have h1 := takeOps_len id ops (takeH H id (wantsS o))
    have h2 := takeH_len H id (wantsS o)
    have h3 := wants_two o
    have e : takeOps H id (o :: ops) = takeOps (takeH H id (wantsS o)) id ops := rfl
    rw [e, List.length_cons]
    omega
theorem of_len (S : TreeS) (sess : Int) : (ofT S sess).length ≤ S.l.length := by unfold ofT; rw [List.length_map]; exact List.length_filter_le _ _
structure PartC (K : Nat) (S : PartS) : Prop where
  b : PartB K S
  h : HeldW S
  len : S.held.length ≤ 600 * K
theorem PartC.mono {K K' : Nat} {S : PartS} (h : PartC K S) (hK : K ≤ K') : PartC K' S := ⟨h.b.mono hK, h.h, Nat.le_trans h.len (Nat.mul_le_mul_left _ hK)⟩
theorem newP_c (room : Int) (h : 1 ≤ room ∧ room ≤ 500) : PartC 0 (newP room) := ⟨newP_b room h, (fun e he => by cases he), Nat.le_refl _⟩
theorem local_c {K : Nat} {S : PartS} (h : PartC K S) (sess num : Int) (ops : List OpS) : PartC (K + 1) (localS S sess num ops).2 := by
  refine ⟨local_b h.b sess num ops, local_h h.h sess num ops, ?_⟩
  have := h.len
  unfold localS
  split
  · show S.held.length ≤ _; omega
  · split
    · show S.held.length ≤ _; omega
    · show S.held.length ≤ _; omega
theorem prep_c {K : Nat} {S : PartS} (h : PartC K S) (id sess : Int) (ops : List OpS) : PartC (K + 1) (prepS S id sess ops).2 := by
  refine ⟨prep_b h.b id sess ops, prep_h h.h id sess ops, ?_⟩
  have := h.len
  unfold prepS
  split
  · show S.held.length ≤ _; omega
  · split
    · show S.held.length ≤ _; omega
    · rename_i hm
      split
      · show S.held.length ≤ _; omega
      · have hg := (may_goods (by simpa using hm : mayS sess 1 ops = 0)).1
        have := takeOps_len id ops S.held
        show (takeOps S.held id ops).length ≤ _
        omega
theorem close_c {K : Nat} {S : PartS} (h : PartC K S) (id sess : Int) : PartC (K + 1) (closeS S id sess).2 := by
  refine ⟨close_b h.b id sess, close_h h.h id sess, ?_⟩
  have := h.len
  unfold closeS
  split
  · show S.held.length ≤ _; omega
  · split
    · show S.held.length ≤ _; omega
    · split
      · show S.held.length ≤ _; omega
      · split
        · show S.held.length ≤ _; omega
        · have h1 := takeH_len S.held id (ofT S.t sess)
          have h2 := of_len S.t sess
          have h3 := h.b.tree.many
          show (takeH S.held id (ofT S.t sess)).length ≤ _
          omega
theorem decide_c {K : Nat} {S : PartS} (h : PartC K S) (id : Int) (commit : Bool) : PartC (K + 1) (decideS S id commit).2 := by
  refine ⟨decide_b h.b id commit, decide_h h.h id commit, ?_⟩
  have h1 := h.len
  have h2 : (freeH S.held id).length ≤ S.held.length := List.length_filter_le _ _
  unfold decideS
  split
  · show S.held.length ≤ _; omega
  · split
    · show (freeH S.held id).length ≤ _; omega
    · split
      · show (freeH S.held id).length ≤ _; omega
      · show (freeH S.held id).length ≤ _; omega
theorem act_c {K : Nat} {S : PartS} (h : PartC K S) (a : PAct) : PartC (K + 1) (actS S a) := by
  unfold actS
  split
  · exact local_c h _ _ _
  · split
    · exact prep_c h _ _ _
    · split
      · exact close_c h _ _
      · exact decide_c h _ _
def actsS (l : List PAct) (S : PartS) : PartS := l.foldl actS S
theorem acts_take (l : List PAct) (S : PartS) {i : Nat} (hi : i < l.length) : actsS (l.take (i + 1)) S = actS (actsS (l.take i) S) l[i] := by
  rw [List.take_succ_eq_append_getElem hi]
  unfold actsS
  rw [List.foldl_append]
  rfl
theorem acts_c : ∀ (l : List PAct) {K : Nat} {S : PartS}, PartC K S → PartC (K + l.length) (actsS l S)
  | [], _, _, h => h
  | a :: l, K, S, h => by
    have := acts_c l (act_c h a)
    rw [List.length_cons, show K + (l.length + 1) = K + 1 + l.length by omega]
    exact this
theorem local_z (S : PartS) (sess num : Int) (ops : List OpS) : (mayS sess num ops ≠ 0 → (localS S sess num ops).2.zxid = S.zxid ∧ (localS S sess num ops).1.zxid = 0) ∧
    (mayS sess num ops = 0 → (localS S sess num ops).2.zxid = S.zxid + 1 ∧ (localS S sess num ops).1.zxid = S.zxid + 1) := by
  unfold localS
  by_cases h : mayS sess num ops ≠ 0
  · rw [if_pos h]
    exact ⟨fun _ => ⟨rfl, rfl⟩, fun hh => absurd hh h⟩
  · rw [if_neg h]
    refine ⟨fun hh => absurd hh h, fun h0 => ?_⟩
    by_cases h2 : (busyS S 0 sess ops).1 ≠ 0
    · rw [if_pos h2]
      exact ⟨rfl, rfl⟩
    · rw [if_neg h2]
      refine ⟨rfl, ?_⟩
      unfold requestT
      rw [if_neg h]
theorem prep_z (S : PartS) (id sess : Int) (ops : List OpS) : (prepS S id sess ops).2.zxid = S.zxid := by
  unfold prepS
  split
  · rfl
  · split
    · rfl
    · split <;> rfl
theorem close_z (S : PartS) (id sess : Int) : (closeS S id sess).2.zxid = S.zxid := by
  unfold closeS
  split
  · rfl
  · split
    · rfl
    · split
      · rfl
      · split <;> rfl
theorem decide_z (S : PartS) (id : Int) (commit : Bool) : ((decideS S id commit).1.2 = 0 ∧ (decideS S id commit).2.zxid = S.zxid + 1) ∨ ((decideS S id commit).1.2 = 4 ∧ (decideS S id commit).2.zxid = S.zxid) := by
  unfold decideS
  split
  · exact .inr ⟨rfl, rfl⟩
  · split
    · exact .inl ⟨rfl, rfl⟩
    · split
      · exact .inl ⟨rfl, rfl⟩
      · exact .inl ⟨rfl, rfl⟩
def decAll (S : PartS) (l : List Int) : PartS := l.foldl (fun S id => (decideS S id false).2) S
theorem decAll_take (l : List Int) (S : PartS) {i : Nat} (hi : i < l.length) : decAll S (l.take (i + 1)) = (decideS (decAll S (l.take i)) l[i] false).2 := by
  rw [List.take_succ_eq_append_getElem hi]
  unfold decAll
  rw [List.foldl_append]
  rfl
theorem decAll_c : ∀ (l : List Int) {K : Nat} {S : PartS}, PartC K S → PartC (K + l.length) (decAll S l)
  | [], _, _, h => h
  | a :: l, K, S, h => by
    have := decAll_c l (decide_c h a false)
    rw [List.length_cons, show K + (l.length + 1) = K + 1 + l.length by omega]
    exact this
theorem dec_wait {S : PartS} {id : Int} : (decideS S id false).2.wait = delW S.wait id := by
  unfold decideS
  cases h : lookW S.wait id with
  | none =>
    dsimp only
    unfold delW
    refine (List.filter_eq_self.2 fun e he => ?_).symm
    unfold lookW at h
    have h1 : S.wait.find? (fun e => e.1 == id) = none := by
      cases hf : S.wait.find? (fun e => e.1 == id) with
      | none => rfl
      | some x => rw [hf] at h; cases h
    have := List.find?_eq_none.1 h1 e he
    simpa using this
  | some x =>
    dsimp only
    rw [if_pos (by simp)]
theorem decAll_wait : ∀ (l : List Int) (S : PartS), (decAll S l).wait = S.wait.filter fun e => decide (e.1 ∉ l)
  | [], S => by
    rw [List.filter_eq_self.2 (by simp)]
    rfl
  | a :: l, S => by
    have h1 := decAll_wait l (decideS S a false).2
    have e : decAll S (a :: l) = decAll (decideS S a false).2 l := rfl
    rw [e, h1, dec_wait]
    unfold delW
    rw [List.filter_filter]
    apply List.filter_congr
    intro x _
    by_cases hx : x.1 = a
    · simp [hx]
    · simp [hx]
theorem dec_err {S : PartS} {id : Int} {e : Int × WaitS} (he : e ∈ S.wait) (hid : e.1 = id) : (decideS S id false).1 = ([], 0) := by
  unfold decideS
  cases h : lookW S.wait id with
  | none =>
    exfalso
    unfold lookW at h
    have h1 : S.wait.find? (fun e => e.1 == id) = none := by
      cases hf : S.wait.find? (fun e => e.1 == id) with
      | none => rfl
      | some x => rw [hf] at h; cases h
    have := List.find?_eq_none.1 h1 e he
    rw [hid] at this
    simp at this
  | some x =>
    dsimp only
    rw [if_pos (by simp)]
def IdsW (S : PartS) : Prop := ∀ e ∈ S.wait, 1 ≤ e.1 ∧ e.1 ≤ 9223372036854775807
theorem known_pos {S : PartS} {id sess : Int} (h : ¬ knownS S id sess = true) : 1 ≤ id := by
  unfold knownS at h
  simp only [Bool.or_eq_true, decide_eq_true_eq, not_or] at h
  omega
theorem local_i {S : PartS} (h : IdsW S) (sess num : Int) (ops : List OpS) : IdsW (localS S sess num ops).2 := by
  unfold localS
  split
  · exact h
  · split <;> exact h
theorem prep_i {S : PartS} (h : IdsW S) {id : Int} (hid : id ≤ 9223372036854775807) (sess : Int) (ops : List OpS) : IdsW (prepS S id sess ops).2 := by
  unfold prepS
  split
  · exact h
  · rename_i hk
    split
    · exact h
    · split
      · exact h
      · intro e he
        rcases List.mem_append.1 he with he | he
        · exact h e he
        · rw [List.mem_singleton] at he
          rw [he]
          exact ⟨known_pos hk, hid⟩
theorem close_i {S : PartS} (h : IdsW S) {id : Int} (hid : id ≤ 9223372036854775807) (sess : Int) : IdsW (closeS S id sess).2 := by
  unfold closeS
  split
  · exact h
  · rename_i hk
    split
    · exact h
    · split
      · exact h
      · split
        · exact h
        · intro e he
          rcases List.mem_append.1 he with he | he
          · exact h e he
          · rw [List.mem_singleton] at he
            rw [he]
            exact ⟨known_pos hk, hid⟩
theorem decide_i {S : PartS} (h : IdsW S) (id : Int) (commit : Bool) : IdsW (decideS S id commit).2 := by
  have hd : ∀ e ∈ delW S.wait id, 1 ≤ e.1 ∧ e.1 ≤ 9223372036854775807 := fun e he => h e (List.mem_filter.1 he).1
  unfold decideS
  split
  · exact h
  · split
    · exact hd
    · split <;> exact hd
theorem act_i {S : PartS} (h : IdsW S) {a : PAct} (ha : a.id ≤ 9223372036854775807) : IdsW (actS S a) := by
  unfold actS
  split
  · exact local_i h _ _ _
  · split
    · exact prep_i h ha _ _
    · split
      · exact close_i h ha _
      · exact decide_i h _ _
theorem acts_i : ∀ (l : List PAct) {S : PartS}, IdsW S → (∀ a ∈ l, a.id ≤ 9223372036854775807) → IdsW (actsS l S)
  | [], _, h, _ => h
  | a :: l, S, h, ha => acts_i l (act_i h (ha a k_s)) (fun x hx => ha x (k_n _ hx))
theorem decAll_i : ∀ (l : List Int) {S : PartS}, IdsW S → IdsW (decAll S l)
  | [], _, h => h
  | a :: l, S, h => decAll_i l (decide_i h a false)
def waitsS (W : WaitL) : List Int := (W.map (·.1)).mergeSort fun x y => decide (x ≤ y)
theorem waits_len (W : WaitL) : (waitsS W).length = W.length := by unfold waitsS; rw [List.length_mergeSort, List.length_map]
theorem waits_mem {W : WaitL} {i : Int} : i ∈ waitsS W ↔ ∃ e ∈ W, e.1 = i := by
  unfold waitsS
  rw [List.mem_mergeSort, List.mem_map]
theorem waits_rise {W : WaitL} (hn : (W.map (·.1)).Nodup) : (waitsS W).Pairwise (· < ·) := by
  have hp : (waitsS W).Perm (W.map (·.1)) := List.mergeSort_perm _ _
  have hs : (waitsS W).Pairwise fun x y => decide (x ≤ y) = true := List.pairwise_mergeSort (by intro a b c h1 h2; simp at h1 h2 ⊢; omega) (by intro a b; simp; omega) _
  have hd : (waitsS W).Pairwise fun x y => x ≠ y := (hp.nodup_iff.2 hn)
  refine (hs.and hd).imp ?_
  rintro a b ⟨h1, h2⟩
  simp at h1
  omega
end Go.Av

namespace Go.Av
open Go.RowKit
end Go.Av

namespace Go.Proofs.YtbakgoncfggidaaGreatDoor
open Go.RowKit Go.Av
end Go.Proofs.YtbakgoncfggidaaGreatDoor

namespace Go.Proofs.YtbakgoncfggidaaGreatDoor
open Go.RowKit Go.Av
def ReaderAt (w : World) (r : Nat) (l : Bs) (bad : Bool) (D : List Nat) : Prop :=
  ∃ v E T, w.heap[r]? = some (.cells #[v, .bool bad] T (0, 0)) ∧ ReadRow w 1 v (l.map bv) E ∧ (∀ x ∈ E, x ≠ r) ∧ D = r :: E
theorem ReaderAt.frame {w w' : World} {r : Nat} {l : Bs} {bad : Bool} {D : List Nat} (h : ReaderAt w r l bad D) (hs : Same w w' D) : ReaderAt w' r l bad D := by
  obtain ⟨v, E, T, h1, h2, h3, rfl⟩ := h
  exact ⟨v, E, T, (hs r (by simp)).trans h1, h2.frame (fun b hb => hs b (by simp [hb])), h3, rfl⟩
theorem ReaderAt.lt {w : World} {r : Nat} {l : Bs} {bad : Bool} {D : List Nat} (h : ReaderAt w r l bad D) : ∀ b ∈ D, b < w.heap.size := by
  obtain ⟨v, E, T, h1, h2, h3, rfl⟩ := h
  intro b hb
  rcases List.mem_cons.1 hb with rfl | hb
  · exact lt_of_heap h1
  · exact h2.lt b hb
end Go.Proofs.YtbakgoncfggidaaGreatDoor

namespace Go.Proofs.YtbakgoncfggidaaGreatDoor
open Go.RowKit Go.Av
end Go.Proofs.YtbakgoncfggidaaGreatDoor

namespace Go.Proofs.YtbakgoncfggidaaGreatDoor
open Go.RowKit Go.Av
abbrev Rd := Bs × Bool
section
variable {w0 w : World} {r : Nat} {d : Rd} {R : List Thing} {rows : List (Value × Bs)}
end
end Go.Proofs.YtbakgoncfggidaaGreatDoor

namespace Go.Av
open Go.RowKit
def ivn (n : Int) : Value := .int .i64 n
end Go.Av
namespace Go.Proofs.YtbakgoncfggidaaGreatDoor
open Go.RowKit Go.Av
end Go.Proofs.YtbakgoncfggidaaGreatDoor

namespace Go.Proofs
open Go.Shelf
def Tryz.keys82_ren : Go.Shelf.Ren := ⟨fun | 7 => 82 | 10 => 162 | n => n, fun | 23 => 125 | 26 => 2 | 3 => 139 | 28 => 146 | 0 => 0 | 27 => 145 | 33 => 52 | 4 => 4 | n => n, fun | n => n⟩
theorem Tryz.keys82 : Go.Proofs.SlLaysZI.n7 Tryz.prog Tryz.keys82_ren := {
  mixed := by kernel_rfl
  f7 := ⟨Tryz.f82.name, by decide, Tryz.func82.trans (congrArg some (by kernel_rfl))⟩
  f10 := ⟨Tryz.f162.name, by decide, Tryz.func162.trans (congrArg some (by kernel_rfl))⟩
  t0 := Tryz.underlying0
  a0 := Tryz.isAgg0
  z0 := Tryz.sizeOf0
  v0 := Tryz.zeroValue0
  t4 := Tryz.underlying4
  a4 := Tryz.isAgg4
  z4 := Tryz.sizeOf4
  v4 := Tryz.zeroValue4
  t23 := Tryz.underlying125
  a23 := Tryz.isAgg125
  z23 := Tryz.sizeOf125
  v23 := Tryz.zeroValue125
  t26 := Tryz.underlying2
  a26 := Tryz.isAgg2
  z26 := Tryz.sizeOf2
  v26 := Tryz.zeroValue2
  t27 := Tryz.underlying145
  a27 := Tryz.isAgg145
  z27 := Tryz.sizeOf145
  v27 := Tryz.zeroValue145
  t28 := Tryz.underlying146
  a28 := Tryz.isAgg146
  z28 := Tryz.sizeOf146
  v28 := Tryz.zeroValue146
  t33 := Tryz.underlying52
  a33 := Tryz.isAgg52
  z33 := Tryz.sizeOf52
  v33 := Tryz.zeroValue52 }
def Tryz.sorted81_ren : Go.Shelf.Ren := ⟨fun | 6 => 81 | 8 => 160 | 9 => 161 | 11 => 199 | 13 => 201 | 12 => 200 | 23 => 245 | 24 => 246 | 14 => 236 | 15 => 237 | 16 => 238 | 17 => 239 | 18 => 240 | 19 => 241 | 20 => 242 | 21 => 243 | 22 => 244 | 25 => 280 | 26 => 281 | 27 => 282 | 28 => 283 | 29 => 284 | 30 => 285 | 31 => 307 | n => n, fun | 26 => 2 | 28 => 146 | 24 => 43 | 0 => 0 | 3 => 3 | 37 => 258 | 48 => 317 | 50 => 257 | 4 => 4 | 40 => 311 | 39 => 310 | 45 => 252 | 5 => 5 | 9 => 9 | 51 => 336 | 55 => 340 | 57 => 357 | 58 => 148 | 33 => 52 | n => n, fun | n => n⟩
theorem Tryz.sorted81 : Go.Proofs.SlLaysZI.n6 Tryz.prog Tryz.sorted81_ren := {
  mixed := by kernel_rfl
  f6 := ⟨Tryz.f81.name, by decide, Tryz.func81.trans (congrArg some (by kernel_rfl))⟩
  f8 := ⟨Tryz.f160.name, by decide, Tryz.func160.trans (congrArg some (by kernel_rfl))⟩
  f11 := ⟨Tryz.f199.name, by decide, Tryz.func199.trans (congrArg some (by kernel_rfl))⟩
  t0 := Tryz.underlying0
  a0 := Tryz.isAgg0
  z0 := Tryz.sizeOf0
  v0 := Tryz.zeroValue0
  t24 := Tryz.underlying43
  a24 := Tryz.isAgg43
  z24 := Tryz.sizeOf43
  v24 := Tryz.zeroValue43
  t26 := Tryz.underlying2
  a26 := Tryz.isAgg2
  z26 := Tryz.sizeOf2
  v26 := Tryz.zeroValue2
  t28 := Tryz.underlying146
  a28 := Tryz.isAgg146
  z28 := Tryz.sizeOf146
  v28 := Tryz.zeroValue146
  i26 := by kernel_rfl }
def Tryz.sort161_ren : Go.Shelf.Ren := ⟨fun | 5 => 161 | 8 => 201 | 7 => 200 | 19 => 245 | 20 => 246 | 10 => 236 | 11 => 237 | 12 => 238 | 13 => 239 | 14 => 240 | 15 => 241 | 16 => 242 | 17 => 243 | 18 => 244 | 30 => 280 | 31 => 281 | 32 => 282 | 33 => 283 | 34 => 284 | 35 => 285 | 40 => 307 | n => n, fun | 23 => 43 | 25 => 2 | 3 => 3 | 32 => 258 | 22 => 43 | 0 => 0 | 44 => 317 | 46 => 257 | 4 => 4 | 36 => 311 | 35 => 310 | 41 => 252 | 5 => 5 | 9 => 9 | 53 => 336 | 57 => 340 | 63 => 357 | 64 => 148 | n => n, fun | n => n⟩
theorem Tryz.sort161 : Go.Proofs.SlLaysM.n5 Tryz.prog Tryz.sort161_ren := {
  mixed := by kernel_rfl
  f5 := ⟨Tryz.f161.name, by decide, Tryz.func161.trans (congrArg some (by kernel_rfl))⟩
  f7 := ⟨Tryz.f200.name, by decide, Tryz.func200.trans (congrArg some (by kernel_rfl))⟩
  f8 := Tryz.func201.trans (congrArg some (by kernel_rfl))
  f10 := ⟨Tryz.f236.name, by decide, Tryz.func236.trans (congrArg some (by kernel_rfl))⟩
  f11 := ⟨Tryz.f237.name, by decide, Tryz.func237.trans (congrArg some (by kernel_rfl))⟩
  f12 := ⟨Tryz.f238.name, by decide, Tryz.func238.trans (congrArg some (by kernel_rfl))⟩
  f13 := ⟨Tryz.f239.name, by decide, Tryz.func239.trans (congrArg some (by kernel_rfl))⟩
  f14 := ⟨Tryz.f240.name, by decide, Tryz.func240.trans (congrArg some (by kernel_rfl))⟩
  f15 := ⟨Tryz.f241.name, by decide, Tryz.func241.trans (congrArg some (by kernel_rfl))⟩
  f16 := ⟨Tryz.f242.name, by decide, Tryz.func242.trans (congrArg some (by kernel_rfl))⟩
  f17 := ⟨Tryz.f243.name, by decide, Tryz.func243.trans (congrArg some (by kernel_rfl))⟩
  f18 := ⟨Tryz.f244.name, by decide, Tryz.func244.trans (congrArg some (by kernel_rfl))⟩
  f19 := Tryz.func245.trans (congrArg some (by kernel_rfl))
  f20 := Tryz.func246.trans (congrArg some (by kernel_rfl))
  f30 := ⟨Tryz.f280.name, by decide, Tryz.func280.trans (congrArg some (by kernel_rfl))⟩
  f31 := Tryz.func281.trans (congrArg some (by kernel_rfl))
  f32 := Tryz.func282.trans (congrArg some (by kernel_rfl))
  f33 := ⟨Tryz.f283.name, by decide, Tryz.func283.trans (congrArg some (by kernel_rfl))⟩
  f34 := ⟨Tryz.f284.name, by decide, Tryz.func284.trans (congrArg some (by kernel_rfl))⟩
  f35 := ⟨Tryz.f285.name, by decide, Tryz.func285.trans (congrArg some (by kernel_rfl))⟩
  f40 := ⟨Tryz.f307.name, by decide, Tryz.func307.trans (congrArg some (by kernel_rfl))⟩
  t0 := Tryz.underlying0
  a0 := Tryz.isAgg0
  z0 := Tryz.sizeOf0
  v0 := Tryz.zeroValue0
  t3 := Tryz.underlying3
  a3 := Tryz.isAgg3
  z3 := Tryz.sizeOf3
  v3 := Tryz.zeroValue3
  t4 := Tryz.underlying4
  a4 := Tryz.isAgg4
  z4 := Tryz.sizeOf4
  v4 := Tryz.zeroValue4
  t5 := Tryz.underlying5
  a5 := Tryz.isAgg5
  z5 := Tryz.sizeOf5
  v5 := Tryz.zeroValue5
  t9 := Tryz.underlying9
  a9 := Tryz.isAgg9
  z9 := Tryz.sizeOf9
  v9 := Tryz.zeroValue9
  t22 := Tryz.underlying43
  a22 := Tryz.isAgg43
  z22 := Tryz.sizeOf43
  v22 := Tryz.zeroValue43
  t23 := Tryz.underlying43
  a23 := Tryz.isAgg43
  z23 := Tryz.sizeOf43
  v23 := Tryz.zeroValue43
  t25 := Tryz.underlying2
  a25 := Tryz.isAgg2
  z25 := Tryz.sizeOf2
  v25 := Tryz.zeroValue2
  t32 := Tryz.underlying258
  a32 := Tryz.isAgg258
  z32 := Tryz.sizeOf258
  v32 := Tryz.zeroValue258
  t35 := Tryz.underlying310
  a35 := Tryz.isAgg310
  z35 := Tryz.sizeOf310
  v35 := Tryz.zeroValue310
  t36 := Tryz.underlying311
  a36 := Tryz.isAgg311
  z36 := Tryz.sizeOf311
  v36 := Tryz.zeroValue311
  t41 := Tryz.underlying252
  a41 := Tryz.isAgg252
  z41 := Tryz.sizeOf252
  v41 := Tryz.zeroValue252
  t44 := Tryz.underlying317
  a44 := Tryz.isAgg317
  z44 := Tryz.sizeOf317
  v44 := Tryz.zeroValue317
  t46 := Tryz.underlying257
  a46 := Tryz.isAgg257
  z46 := Tryz.sizeOf257
  v46 := Tryz.zeroValue257
  t53 := Tryz.underlying336
  a53 := Tryz.isAgg336
  z53 := Tryz.sizeOf336
  v53 := Tryz.zeroValue336
  t57 := Tryz.underlying340
  a57 := Tryz.isAgg340
  z57 := Tryz.sizeOf340
  v57 := Tryz.zeroValue340
  t63 := Tryz.underlying357
  a63 := Tryz.isAgg357
  z63 := Tryz.sizeOf357
  v63 := Tryz.zeroValue357
  t64 := Tryz.underlying148
  a64 := Tryz.isAgg148
  z64 := Tryz.sizeOf148
  v64 := Tryz.zeroValue148 }
open Go.RowKit Go.Maps Go.Sort Go.Shelf
theorem Tryz.sorts81 (m : Nat) : AnyZI.SortsIn Tryz.prog Tryz.sorted81_ren Fence.wide m :=
  ⟨fun blk off cap ss W hH hblk hsz => callsIn_wide.2 (AnyM.slices_Sort_int Tryz.sort161 blk off cap ss W hH hblk hsz),
   fun p cap W => callsIn_wide.2 (AnyM.slices_Sort_int_none Tryz.sort161 p cap W)⟩
theorem Tryz.maps_Keys_82 (mb : Option Nat) (W : World) : CallsIn Fence.wide 5 Tryz.prog 82 #[.map mb] W fun e w' => e = .returned (.func (.func 162) #[] #[.pointer (some ⟨W.heap.size, 0, none⟩)]) ∧ w' = W.alloc (.cells #[.map mb] 125) :=
  AnyZI.keys_in Tryz.keys82 Fence.wide 5 trivial rfl mb W
set_option maxHeartbeats 1000000 in
theorem Tryz.slices_Sorted_keys_81_82 {H : Type} (b nn : Nat) (D0 : DataW H) (R : Value → Option (DataW H × List MemPlace)) (w : World) (hown : w.ownsMap Tryz.prog 2 R b nn D0) (hmax : Maps.size D0 ≤ maxLen) (hbytes : Maps.size D0 * 8 ≤ 140737488355328) :
    CallsIn Fence.wide 5 Tryz.prog 81 #[.func (.func 162) #[] #[.pointer (some ⟨w.heap.size, 0, none⟩)]] (w.alloc (.cells #[.map (some b)] 125)) fun e w' => ∃ (v : Value) (ss : List Int), e = .returned v ∧ ss.Perm (intKeys D0) ∧
      w'.ownsRow (w.alloc (.cells #[.map (some b)] 125)).heap.size 2 1 v ss.length ((ss.mergeSort (fun x y => decide (x ≤ y))).map encZ) ∧ (v = .slice none 0 0 ↔ ss = []) ∧ Below (w.alloc (.cells #[.map (some b)] 125)).heap.size (w.alloc (.cells #[.map (some b)] 125)) w' := by
  have hbl := hown.lt
  have hseq : SeqGives Fence.wide 2 Tryz.prog 162 #[.pointer (some ⟨w.heap.size, 0, none⟩)] encZ (fun ss => ss.Perm (intKeys D0)) (Maps.size D0) (w.alloc (.cells #[.map (some b)] 125)) :=
    AnyZI.keys_gives (ρ := Tryz.keys82_ren) { Tryz.keys82 with } Fence.wide _ trivial rfl (by omega) w.heap.size b nn D0 _ (by simp) (by simp) (by
      obtain ⟨es, clock, hb, Ft, hs, hD⟩ := hown
      exact ⟨es, clock, (Below.heap_alloc _ _ b hbl).trans hb, Ft, hs, hD⟩)
  exact AnyZI.sorted_in Tryz.sorted81 Fence.wide 5 trivial trivial trivial trivial rfl (by omega) (Tryz.sorts81 _) (enters_of Tryz.func161 (by kernel_rfl) rfl) 162 #[.pointer (some ⟨w.heap.size, 0, none⟩)] trivial (enters_of Tryz.func162 (by kernel_rfl) rfl) _ _ hmax hbytes _ hseq
end Go.Proofs

namespace Go.Proofs.YtbakgoncfggidaaGreatDoor
open Go.RowKit Go.Av Go.Maps
section
variable {w0 w : World} {b : Nat} {S : PartS} {P P' : List PRow} {R : List Thing} {rows : List (Value × Bs)}
def WtgPost (w0 : World) (b : Nat) (S : PartS) (P : List PRow) (R : List Thing) (rows : List (Value × Bs)) (e : Ending) (w' : World) : Prop :=
  ∃ v P', e = .returned v ∧ (∀ q ∈ P, q ∈ P') ∧ (1, v, (waitsS S.wait).map ivn) ∈ P' ∧ Sep w0 w' (ThPool w0 P' :: ThPart b S P' :: R) rows
set_option maxRecDepth 100000 in
set_option maxHeartbeats 4000000 in
theorem waiting_any (h : Sep w0 w (ThPool w0 P :: ThPart b S P :: R) rows) (hi : IdsW S) (hn : S.wait.length ≤ 1000) :
    Calls Tryz.prog 21 #[.pointer (some ⟨b, 0, none⟩)] w (WtgPost w0 b S P R rows) := by
  obtain ⟨t, lk, mw, md, mc, gs, hgs, hgv, hS⟩ := pt_open h.up1
  obtain ⟨D, hM, -⟩ := hS.has (T := ThMap (.int .i64) mw (gs.map WaitG.kv)) (by simp)
  have hgl : gs.length = S.wait.length := by rw [← hgs, List.length_map]
  obtain ⟨D0, ho, hz, hp⟩ := owns_ids (P := Tryz.prog) (k := 2) (l := gs.map fun g => (g.id, Value.agg #[.int .i64 g.x.sess, g.v, .bool g.x.close, .bool g.x.fails])) (by rw [List.map_map]; exact hM) Tryz.underlying2 (by simp; omega) (by
    intro x hx
    obtain ⟨g, hg, rfl⟩ := List.mem_map.1 hx
    have := hi g.ent (by rw [← hgs]; exact List.mem_map_of_mem hg)
    exact wf_i64 (by have h2 : g.ent.1 = g.id := rfl; omega) this.2)
  rw [List.length_map] at hz
  have HP := Lib.hid (show (intKeys D0).Perm (S.wait.map (·.1)) from hp.trans (by
    rw [List.map_map, ← hgs, List.map_map]
    exact List.Perm.refl _))
  have HG := Lib.hid (show _ ∧ _ from ⟨hgs, hgv⟩)
  have HX := Lib.hid hS
  have cK := callsIn_wide.1 (Tryz.maps_Keys_82 (some mw) w)
  have cS := callsIn_wide.1 (Tryz.slices_Sorted_keys_81_82 mw _ D0 noRead w ho (by rw [hz]; unfold maxLen; omega) (by rw [hz]; omega))
  have CK := Lib.hid cK
  have CS := Lib.hid cS
  clear cK cS ho hz hp h hgs hgv hS hM hi hn
  go_enter Tryz.func21, Tryz.ntmps21
  go_wp2_with (first | go_skip | refine uK ?_ | refine uL ?_ | refine uM ?_ | (refine uS ?_; clear HX; intro w HX) | (refine uA ?_; clear HX; (first | (have hq := b; clear hq; intro w b2 HX) | intro w b HX)) | (refine tWN ?_; clear HX; intro w mm HX; simp only [Act.put, k_a, k_b, k_c]) | (refine tWP ?_; clear HX; intro w av nv cv HX; simp only [Act.put, k_a, k_b, k_c]) | (go_at_call 82; go_must (refine CK.out.mono ?_); rintro e w1 ⟨rfl, rfl⟩) | (go_at_call 81; go_must (refine CS.out.mono ?_); rintro e w1 ⟨v, ss, rfl, hS, hrow, hnil, hb⟩))
  go_ret
  obtain ⟨E, hr, hE⟩ := read_own hrow
  have hss : ss.mergeSort (fun x y => decide (x ≤ y)) = waitsS S.wait := mergeSort_of_perm_i (hS.trans HP.out)
  rw [hss] at hr
  have hsz : w.heap.size ≤ (w.alloc (.cells #[.map (some mw)] 125)).heap.size := by simp
  have h1 := (HX.out.up6).poolRead hr (fun b hb => Nat.le_trans hsz (hE b hb)) ((Upd.alloc0 w _ []).trans (Upd.of_below hb))
  have h2 := tree_mono (P' := (1, v, (waitsS S.wait).map ivn) :: P) h1.up2 (fun q hq => k_n _ hq)
  exact ⟨v, _, rfl, fun q hq => k_n _ hq, k_s, (pt_shut (b := b) (t := t) (lk := lk) (mw := mw) (md := md) (mc := mc) (gs := gs) (S := S) (R := ThPool w0 ((1, v, (waitsS S.wait).map ivn) :: P) :: R) (h2.pm 7 [2, 0, 3, 4, 5, 6, 1] rfl rfl) HG.out.1 (fun g hg => k_n _ (HG.out.2 g hg))).up1⟩
end
end Go.Proofs.YtbakgoncfggidaaGreatDoor

namespace Go.Av
open Go.RowKit
def madeO (p : ByteArray) (flags : Int) : OpS := ⟨1, p, ⟨#[]⟩, 0, flags⟩
end Go.Av
namespace Go.Proofs.YtbakgoncfggidaaGreatDoor
open Go.RowKit Go.Av
section
variable {w0 w : World} {R : List Thing} {rows : List (Value × Bs)}
def opA : OpS := madeO ⟨#[47, 97]⟩ 0
theorem rep_len {P : List PRow} {w0 w : World} {R : List Thing} {rows : List (Value × Bs)} {rs : List ResS} {a : Option Addr} {n c : Nat} {xs : List Value} (h : Sep w0 w (ThPool w0 P :: R) rows) (hr : ResL P rs xs) (hm : (11, Value.slice a n c, xs) ∈ P) : n = rs.length := by
  obtain ⟨E, hE⟩ := h.poolGet hm
  obtain ⟨a', n', c', e, hl, -⟩ := ReadRow.some hE
  have h1 := hr.len
  simp only [Value.slice.injEq] at e
  obtain ⟨-, rfl, -⟩ := e
  rw [h1] at hl
  omega
theorem row_fst {P : List PRow} {w0 w : World} {R : List Thing} {rows : List (Value × Bs)} {K : Nat} {a : Option Addr} {n c : Nat} {x : Value} {xs : List Value} (h : Sep w0 w (ThPool w0 P :: R) rows) (hm : (K, Value.slice a n c, x :: xs) ∈ P) : ∃ g off, a = some ⟨g, off, none⟩ ∧ ∀ i v, (x :: xs)[i]? = some v → w.cell? ⟨g, off + i, none⟩ = some v := by
  obtain ⟨E, hE⟩ := h.poolGet hm
  obtain ⟨a', n', c', e, hl, hn, hc, ha, hr⟩ := hE
  rcases hr with ⟨h0, _⟩ | ⟨g, off, e2, _, _, hcell⟩
  · cases h0
  · injection e with e1 _ _
    subst e1
    exact ⟨g, off, e2, hcell⟩
end
end Go.Proofs.YtbakgoncfggidaaGreatDoor

namespace Go.Av
open Go.RowKit
section
variable {P : Program} {w : World}
theorem row_fld {K n c off g i f : Nat} {xs : List Value} {v : Value} {E : List Nat} {ty : TypeId} (h : ReadRow w K (.slice (some ⟨g, off, none⟩) n c) xs E) (hs : scalarB P ty = true) (hv : xs[i * K + f]? = some v) :
    (Instr.loadAt ty (.pointer (some ⟨g, off + i * K + f, none⟩))).run P w = .ok v w := by
  obtain ⟨a', n', c', e, hl, hn, hc, ha, hr⟩ := h
  cases e
  rcases hr with ⟨rfl, _⟩ | ⟨g', off', e, rfl, hlt, hcell⟩
  · cases hv
  · injection e with e
    injection e with e1 e2
    subst e1 e2
    rw [Nat.add_assoc]
    exact run_load_scalar hs (hcell _ v hv)
theorem row_fld0 {K n c off g i : Nat} {xs : List Value} {v : Value} {E : List Nat} {ty : TypeId} (h : ReadRow w K (.slice (some ⟨g, off, none⟩) n c) xs E) (hs : scalarB P ty = true) (hv : xs[i * K]? = some v) :
    (Instr.loadAt ty (.pointer (some ⟨g, off + i * K, none⟩))).run P w = .ok v w := row_fld (f := 0) h hs hv
theorem row_part {K n c off g i f m : Nat} {xs vs : List Value} {E : List Nat} {ty : TypeId} (h : ReadRow w K (.slice (some ⟨g, off, none⟩) n c) xs E) (hs : StructN P ty m) (hm : vs.length = m) (hne : vs ≠ []) (hv : ∀ j v, vs[j]? = some v → xs[i * K + f + j]? = some v) :
    (Instr.loadAt ty (.pointer (some ⟨g, off + i * K + f, none⟩))).run P w = .ok (.agg vs.toArray) w := by
  obtain ⟨a', n', c', e, hl, hn, hc, ha, hr⟩ := h
  cases e
  have h1 := hs.1
  unfold structB at h1
  rw [Bool.and_eq_true] at h1
  obtain ⟨h1, h2⟩ := h1
  cases hi0 : P.info? ty with
  | none => simp [hi0] at h2
  | some ii =>
    simp only [hi0, beq_iff_eq] at h2
    cases hu : P.underlying ty with
    | none => simp [hu] at h1
    | some d =>
      refine run_loadAt_mid w g (off + i * K + f) ty _ d (fun j v hj => ?_) hu (by rw [hu] at h1; cases d <;> simp_all) (by rw [hi0, hm]; simpa using h2)
      have hq := hv j v hj
      rcases hr with ⟨rfl, _⟩ | ⟨g', off', e, rfl, hlt, hcell⟩
      · cases hq
      · injection e with e
        injection e with e1 e2
        subst e1 e2
        have := hcell _ v hq
        rw [show off + i * K + f + j = off + (i * K + f + j) by omega]
        exact this
end
inductive EntL (P : List PRow) : NoL → List Value → Prop
  | nil : EntL P [] []
  | cons {p : Bs} {n : NodeS} {nv : Value} {l : NoL} {xs : List Value} : (1, nv, n.names.map sv) ∈ P → EntL P l xs → EntL P ((p, n) :: l) (sv p :: (n.cells nv).toList ++ xs)
theorem EntL.mono {P P' : List PRow} {l : NoL} {xs : List Value} (h : EntL P l xs) (hP : ∀ r ∈ P, r ∈ P') : EntL P' l xs := by
  induction h with
  | nil => exact .nil
  | cons h1 _ ih => exact .cons (hP _ h1) ih
theorem EntL.len {P : List PRow} {l : NoL} {xs : List Value} (h : EntL P l xs) : xs.length = l.length * 11 := by
  induction h with
  | nil => rfl
  | cons _ _ ih => simp only [List.length_append, List.length_cons, ih]; simp [NodeS.cells]; omega
theorem EntL.snoc {P : List PRow} {l : NoL} {xs : List Value} {p : Bs} {n : NodeS} {nv : Value} (h : EntL P l xs) (hr : (1, nv, n.names.map sv) ∈ P) : EntL P (l ++ [(p, n)]) (xs ++ sv p :: (n.cells nv).toList) := by
  induction h with
  | nil => simpa using EntL.cons (p := p) hr EntL.nil
  | cons h1 _ ih =>
    rw [List.cons_append, List.append_assoc]
    exact .cons h1 ih
theorem EntL.at {P : List PRow} {l : NoL} {xs : List Value} (h : EntL P l xs) : ∀ {i : Nat} (hi : i < l.length), ∃ nv, (1, nv, l[i].2.names.map sv) ∈ P ∧ ∀ j v, (sv l[i].1 :: (l[i].2.cells nv).toList)[j]? = some v → xs[i * 11 + j]? = some v := by
  induction h with
  | nil => intro i hi; simp at hi
  | @cons p n nv l xs h1 h2 ih =>
    intro i hi
    cases i with
    | zero =>
      refine ⟨nv, h1, fun j v hv => ?_⟩
      have hj : j < (sv p :: (n.cells nv).toList).length := (List.getElem?_eq_some_iff.1 hv).1
      rw [Nat.zero_mul, Nat.zero_add, List.getElem?_append_left hj]
      exact hv
    | succ i =>
      obtain ⟨nv', h3, h4⟩ := ih (i := i) (by simpa using hi)
      refine ⟨nv', h3, fun j v hv => ?_⟩
      have hl : (sv p :: (n.cells nv).toList).length = 11 := rfl
      rw [List.getElem?_append_right (by rw [hl]; omega), hl, show (i + 1) * 11 + j - 11 = i * 11 + j by omega]
      exact h4 j v hv
end Go.Av
namespace Go.Proofs.YtbakgoncfggidaaGreatDoor
open Go.RowKit Go.Av
theorem sn_rnode : StructN Tryz.prog 166 10 := ⟨by kernel_rfl⟩
theorem sn_rtree : StructN Tryz.prog 160 2 := ⟨by kernel_rfl⟩
theorem sn_rent : StructN Tryz.prog 169 11 := ⟨by kernel_rfl⟩
theorem z_rnode : zeroB Tryz.prog 166 #[.int .i64 0, .int .i64 0, .int .i64 0, .int .i64 0, .int .i64 0, .int .i64 0, .int .i64 0, .string ⟨#[]⟩, .int .i64 0, .slice none 0 0] := by unfold zeroB; kernel_rfl
theorem sl_ent : SliceN Tryz.prog 158 169 11 120 := .of Tryz.underlying158 (by kernel_rfl)
def RtO (b : Nat) (S : TreeS) (P : List PRow) (L : List Thing) : Prop := ∃ a n c xs, L = [ThCell b (.cells #[.int .i64 S.room, .slice a n c] 160 (0, 0)), ThRow 11 (.slice a n c) xs] ∧ EntL P S.l xs
def ThRt (b : Nat) (S : TreeS) (P : List PRow) : Thing := Bun (RtO b S P)
section
variable {w0 w : World} {b : Nat} {S : TreeS} {P P' : List PRow} {R : List Thing} {rows : List (Value × Bs)}
theorem rt_mono (h : Sep w0 w (ThRt b S P :: R) rows) (hP : ∀ r ∈ P, r ∈ P') : Sep w0 w (ThRt b S P' :: R) rows := by
  obtain ⟨L, ⟨a, n, c, xs, rfl, h1⟩, hS⟩ := h.opens
  exact Sep.shut (O := RtO b S P') ⟨a, n, c, xs, rfl, h1.mono hP⟩ hS
theorem rt_open (h : Sep w0 w (ThRt b S P :: R) rows) : ∃ a n c xs, EntL P S.l xs ∧ n = S.l.length ∧ Sep w0 w (ThCell b (.cells #[.int .i64 S.room, .slice a n c] 160 (0, 0)) :: ThRow 11 (.slice a n c) xs :: R) rows := by
  obtain ⟨L, ⟨a, n, c, xs, rfl, h1⟩, hS⟩ := h.opens
  obtain ⟨a', n', c', e, hl, -⟩ := (Sep.drop hS).rowLen
  simp only [Value.slice.injEq] at e
  obtain ⟨-, rfl, -⟩ := e
  have := h1.len
  exact ⟨a, n, c, xs, h1, by omega, hS⟩
theorem rt_shut {a : Option Addr} {n c : Nat} {xs : List Value} (h : Sep w0 w (ThCell b (.cells #[.int .i64 S.room, .slice a n c] 160 (0, 0)) :: ThRow 11 (.slice a n c) xs :: R) rows) (he : EntL P S.l xs) : Sep w0 w (ThRt b S P :: R) rows :=
  Sep.shut (O := RtO b S P) ⟨a, n, c, xs, rfl, he⟩ h
theorem beq_self_str (q : ByteArray) : (q.toList != q.toList) = false := by simp
set_option maxRecDepth 100000 in
set_option maxHeartbeats 2000000 in
theorem sames_any (h : Sep w0 w (ThPool w0 P :: R) rows) (va vb : Value) (l : List Bs) (ha : (1, va, l.map sv) ∈ P) (hb : (1, vb, l.map sv) ∈ P) :
    Calls Tryz.prog 171 #[va, vb] w fun e w' => e = .returned (.bool true) ∧ Sep w0 w' (ThPool w0 P :: R) rows := by
  obtain ⟨E, hE⟩ := h.poolGet ha
  obtain ⟨a1, n1, c1, rfl, hl1, hn1, hc1, hne1⟩ := ReadRow.some hE
  obtain ⟨E2, hE2⟩ := h.poolGet hb
  obtain ⟨a2, n2, c2, rfl, hl2, hn2, hc2, hne2⟩ := ReadRow.some hE2
  rw [List.length_map, Nat.mul_one] at hl1 hl2
  subst hl1
  obtain rfl : l.length = n2 := hl2
  have q9 : l.length ≤ 9223372036854775807 := by unfold maxLen at hc1; omega
  have HA := Lib.hid ha
  have HB := Lib.hid hb
  have HN1 := Lib.hid hne1
  have HN2 := Lib.hid hne2
  have HX := Lib.hid h
  clear h ha hb hE hE2 hne1 hne2 hn1 hn2 hc1 hc2
  go_enter Tryz.func171, Tryz.ntmps171
  go_wp2_with (first | refine vL ?_ | refine vM ?_ | (refine vS ?_; clear HX; intro w HX) | (refine vA ?_; clear HX; (first | (have hq := b; clear hq; intro w b2 HX) | intro w b HX)) | ((first | (refine sWN ?_; clear HX; intro w mm HX) | (refine sWP ?_; clear HX; intro w av nv cv HX)); simp only [Act.put, k_a, k_b, k_c]))
  go_loopg [5] l.length (fun k v5 wr => ∃ i : Nat, i + k = l.length ∧ v5 = .int .i64 (i : Int) ∧ Sep w0 wr (ThPool w0 P :: R) rows)
  case atStart => exact ⟨0, by omega, rfl, HX.out⟩
  case round =>
    rename World => w
    obtain ⟨i, hik, rfl, hS⟩ := hrel
    clear HX
    have HX := Lib.hid hS
    clear hS
    by_cases hlt : i < l.length
    case neg =>
      obtain rfl : i = l.length := by omega
      clear hlt hik
      go_wp2_with (first | refine vL ?_ | refine vM ?_ | (refine vS ?_; clear HX; intro w HX) | (refine vA ?_; clear HX; (first | (have hq := b; clear hq; intro w b2 HX) | intro w b HX)) | ((first | (refine sWN ?_; clear HX; intro w mm HX) | (refine sWP ?_; clear HX; intro w av nv cv HX)); simp only [Act.put, k_a, k_b, k_c]))
      go_ret
      exact ⟨rfl, HX.out⟩
    case pos =>
      have hnil : l.map sv ≠ [] := by intro e; rw [List.map_eq_nil_iff] at e; rw [e] at hlt; simp at hlt
      obtain ⟨g1, o1, rfl⟩ := HN1.out hnil
      obtain ⟨g2, o2, rfl⟩ := HN2.out hnil
      have hx : (l.map sv)[i]? = some (sv l[i]) := by rw [List.getElem?_map, List.getElem?_eq_getElem hlt]; rfl
      have HHX := Lib.hid hx
      have q0 : decide (i < l.length) = true := decide_eq_true hlt
      clear hnil hx
      go_wp2_with (first | refine vL ?_ | refine vM ?_ | (refine vS ?_; clear HX; intro w HX) | (refine vA ?_; clear HX; (first | (have hq := b; clear hq; intro w b2 HX) | intro w b HX)) | ((first | (refine sWN ?_; clear HX; intro w mm HX) | (refine sWP ?_; clear HX; intro w av nv cv HX)); simp only [Act.put, k_a, k_b, k_c]))
      refine wp_region_M (fun W => W = w.drew) 9 (by kernel_rfl) ?_
      replace HX := Lib.hid HX.out.drew
      generalize w.drew = w at HX ⊢
      obtain ⟨E, hE⟩ := HX.out.poolGet HA.out
      obtain ⟨E2, hE2⟩ := HX.out.poolGet HB.out
      have hl := row_load1 (P := Tryz.prog) (ty := 9) (i := i) hE (by kernel_rfl) HHX.out
      have hl2 := row_load1 (P := Tryz.prog) (ty := 9) (i := i) hE2 (by kernel_rfl) HHX.out
      obtain ⟨q, hq⟩ : ∃ q : ByteArray, (⟨l[i].toArray⟩ : ByteArray) = q := ⟨_, rfl⟩
      unfold sv at hl hl2
      rw [hq] at hl hl2
      clear hE hE2 hq
      have hql := beq_self_str q
      refine wpAnyM_take (by kernel_rfl) (by intro c a d v w h; cases d <;> exact h) [(0, false), (1, false), (2, false), (3, true), (4, false), (5, false), (6, false), (7, true), (8, false)] (fuel := 0) (by kernel_rfl) ?_
      apply Exists.intro; refine ⟨?_, rfl, ?_⟩
      · iterate 9 (refine yD ?_)
        exact rfl
      refine wpAnyM_done (by kernel_rfl) ?_ _
      clear hl hl2
      go_wp2_with (first | refine vL ?_ | refine vM ?_ | (refine vS ?_; clear HX; intro w HX) | (refine vA ?_; clear HX; (first | (have hq := b; clear hq; intro w b2 HX) | intro w b HX)) | ((first | (refine sWN ?_; clear HX; intro w mm HX) | (refine sWP ?_; clear HX; intro w av nv cv HX)); simp only [Act.put, k_a, k_b, k_c]))
      go_roundg (l.length - (i + 1))
      case rel => exact ⟨i + 1, by omega, by go_num, HX.out⟩
      case measure => omega
end
end Go.Proofs.YtbakgoncfggidaaGreatDoor

namespace Go.Proofs.YtbakgoncfggidaaGreatDoor
open Go.RowKit Go.Av
section
variable {w0 w : World} {b t : Nat} {S : TreeS} {P P' : List PRow} {R : List Thing} {rows : List (Value × Bs)}
set_option maxRecDepth 100000 in
set_option maxHeartbeats 2000000 in
theorem samen_any (h : Sep w0 w (ThPool w0 P :: R) rows) (n : NodeS) (va vb : Value) (ha : (1, va, n.names.map sv) ∈ P) (hb : (1, vb, n.names.map sv) ∈ P) :
    Calls Tryz.prog 92 #[n.val va, n.val vb] w fun e w' => e = .returned (.bool true) ∧ Sep w0 w' (ThPool w0 P :: R) rows := by
  obtain ⟨E, hE⟩ := h.poolGet ha
  obtain ⟨a1, n1, c1, rfl, -⟩ := ReadRow.some hE
  obtain ⟨E2, hE2⟩ := h.poolGet hb
  obtain ⟨a2, n2, c2, rfl, -⟩ := ReadRow.some hE2
  have HA := Lib.hid ha
  have HB := Lib.hid hb
  have HX := Lib.hid h
  have hq := beq_self_str n.data
  have hq2 : (n.data.toList == n.data.toList) = true := by simp
  clear h ha hb hE hE2
  unfold NodeS.val NodeS.cells
  go_enter Tryz.func92, Tryz.ntmps92
  go_wp2_with (first | refine vL ?_ | refine vM ?_ | (refine vS ?_; clear HX; intro w HX) | (refine vA ?_; clear HX; (first | (have hq := b; clear hq; intro w b2 HX) | intro w b HX)) | ((first | (refine sWN ?_; clear HX; intro w mm HX) | (refine sWP ?_; clear HX; intro w av nv cv HX)); simp only [Act.put, k_a, k_b, k_c]))
  refine (sames_any HX.out.up2 _ _ n.names HA.out HB.out).mono ?_
  rintro e w ⟨rfl, hx⟩
  clear HX
  have HX := Lib.hid hx
  clear hx
  go_wp2_with (first | refine vL ?_ | refine vM ?_ | (refine vS ?_; clear HX; intro w HX) | (refine vA ?_; clear HX; (first | (have hq := b; clear hq; intro w b2 HX) | intro w b HX)) | ((first | (refine sWN ?_; clear HX; intro w mm HX) | (refine sWP ?_; clear HX; intro w av nv cv HX)); simp only [Act.put, k_a, k_b, k_c]))
  go_ret
  exact ⟨rfl, HX.out.cut1.cut1⟩
def longS (l : List OpS) : Bool := decide (20 < l.length) || l.any fun o => decide (300 < o.path.size) || decide (1100 < o.data.size)
end
end Go.Proofs.YtbakgoncfggidaaGreatDoor

namespace Go.Proofs.YtbakgoncfggidaaGreatDoor
open Go.RowKit Go.Av
section
variable {w0 w : World} {b t : Nat} {S : TreeS} {P P' : List PRow} {R : List Thing} {rows : List (Value × Bs)}
set_option maxRecDepth 100000 in
theorem nd_any (h : Sep w0 w R rows) (n : NodeS) (a : Option Addr) (m c : Nat) : Calls Tryz.prog 91 #[n.val (.slice a m c)] w fun e w' => e = .returned (n.val (.slice a m c)) ∧ Sep w0 w' R rows := by
  have HX := Lib.hid h
  clear h
  unfold NodeS.val NodeS.cells
  go_enter Tryz.func91, Tryz.ntmps91
  go_wp2_with (first | refine vL ?_ | refine vM ?_ | (refine vS ?_; clear HX; intro w HX) | (refine vA ?_; clear HX; (first | (have hq := b; clear hq; intro w b2 HX) | intro w b HX)) | ((first | (refine sWN ?_; clear HX; intro w mm HX) | (refine sWP ?_; clear HX; intro w av nv cv HX)); simp only [Act.put, k_a, k_b, k_c]))
  refine sx_ret HX rfl rfl (by (repeat (first | (with_reducible exact k_s) | (with_reducible apply k_m)))) (by kernel_rfl) ?_
  exact ⟨rfl, HX.out.drop.drop⟩
set_option maxRecDepth 100000 in
set_option maxHeartbeats 2000000 in
theorem long_any (h : Sep w0 w (ThPool w0 P :: R) rows) (l : List OpS) (v : Value) (hv : (5, v, l.flatMap OpS.cells) ∈ P) :
    Calls Tryz.prog 16 #[v] w fun e w' => e = .returned (.bool (longS l)) ∧ Sep w0 w' (ThPool w0 P :: R) rows := by
  obtain ⟨E, hE⟩ := h.poolGet hv
  obtain ⟨a1, n1, c1, rfl, hl1, hn1, hc1, hne1⟩ := ReadRow.some hE
  rw [flatG_len opcells_len] at hl1
  obtain rfl : l.length = n1 := by omega
  have HV := Lib.hid hv
  have HN := Lib.hid hne1
  have HX := Lib.hid h
  clear h hv hE hne1 hn1 hc1 hl1
  by_cases h20 : 20 < l.length
  · have HE := Lib.hid (show longS l = true by unfold longS; rw [decide_eq_true h20]; rfl)
    have q1 : decide (20 < l.length) = true := decide_eq_true h20
    have q2 : decide (20 < (l.length : Int)) = true := decide_eq_true (by omega)
    clear h20
    go_enter Tryz.func16, Tryz.ntmps16
    go_wp2_with (first | refine vL ?_ | refine vM ?_ | (refine vS ?_; clear HX; intro w HX) | (refine vA ?_; clear HX; (first | (have hq := b; clear hq; intro w b2 HX) | intro w b HX)) | ((first | (refine sWN ?_; clear HX; intro w mm HX) | (refine sWP ?_; clear HX; intro w av nv cv HX)); simp only [Act.put, k_a, k_b, k_c]))
    go_ret
    rw [HE.out]
    exact ⟨rfl, HX.out⟩
  have HE := Lib.hid (show longS l = l.any fun o => decide (300 < o.path.size) || decide (1100 < o.data.size) by unfold longS; rw [decide_eq_false h20]; rfl)
  have HL := Lib.hid (show l.length ≤ 20 by omega)
  have q1 : decide (20 < l.length) = false := decide_eq_false h20
  have q2 : decide (20 < (l.length : Int)) = false := decide_eq_false (by omega)
  clear h20
  go_enter Tryz.func16, Tryz.ntmps16
  go_wp2_with (first | refine vL ?_ | refine vM ?_ | (refine vS ?_; clear HX; intro w HX) | (refine vA ?_; clear HX; (first | (have hq := b; clear hq; intro w b2 HX) | intro w b HX)) | ((first | (refine sWN ?_; clear HX; intro w mm HX) | (refine sWP ?_; clear HX; intro w av nv cv HX)); simp only [Act.put, k_a, k_b, k_c]))
  go_loopg [3] l.length (fun k v3 wr => ∃ i : Nat, i + k = l.length ∧ v3 = .int .i64 (i : Int) ∧ ((l.take i).any fun o => decide (300 < o.path.size) || decide (1100 < o.data.size)) = false ∧ Sep w0 wr (ThPool w0 P :: R) rows)
  case atStart => exact ⟨0, by omega, rfl, rfl, HX.out⟩
  case round =>
    rename World => w
    obtain ⟨i, hik, rfl, hno, hS⟩ := hrel
    clear HX
    have HX := Lib.hid hS
    clear hS
    by_cases hlt : i < l.length
    case neg =>
      obtain rfl : i = l.length := by omega
      rw [List.take_length] at hno
      have HE2 := Lib.hid (HE.out.trans hno)
      clear hlt hik hno
      go_wp2_with (first | refine vL ?_ | refine vM ?_ | (refine vS ?_; clear HX; intro w HX) | (refine vA ?_; clear HX; (first | (have hq := b; clear hq; intro w b2 HX) | intro w b HX)) | ((first | (refine sWN ?_; clear HX; intro w mm HX) | (refine sWP ?_; clear HX; intro w av nv cv HX)); simp only [Act.put, k_a, k_b, k_c]))
      go_ret
      rw [HE2.out]
      exact ⟨rfl, HX.out⟩
    case pos =>
      obtain ⟨g1, o1, rfl⟩ := HN.out (by intro e; have := congrArg List.length e; rw [flatG_len opcells_len] at this; simp at this; omega)
      obtain ⟨E, hE⟩ := HX.out.poolGet HV.out
      have hx : ∀ j v, (OpS.cells l[i])[j]? = some v → (l.flatMap OpS.cells)[i * 5 + j]? = some v := fun j v hj => by
        rw [flatG_at opcells_len l hlt (by have := (List.getElem?_eq_some_iff.1 hj).1; exact this)]
        exact hj
      have hl := row_fld (P := Tryz.prog) (ty := 9) hE (by kernel_rfl) (hx 1 _ rfl)
      have hl2 := row_fld (P := Tryz.prog) (ty := 9) hE (by kernel_rfl) (hx 2 _ rfl)
      have HT := Lib.hid (show l.take (i + 1) = l.take i ++ [l[i]] from List.take_succ_eq_append_getElem hlt)
      have HM := Lib.hid (List.getElem_mem hlt)
      obtain ⟨o, ho⟩ : ∃ o, l[i] = o := ⟨_, rfl⟩
      rw [ho] at hl hl2 HT HM
      have HNO := Lib.hid hno
      have q0 : decide (i < l.length) = true := decide_eq_true hlt
      have q9 : i ≤ 20 := by have := HL.out; omega
      clear hE hx ho hno
      obtain ⟨z1, h1⟩ : ∃ z, decide (300 < o.path.size) = z := ⟨_, rfl⟩
      obtain ⟨z2, h2⟩ : ∃ z, decide (1100 < o.data.size) = z := ⟨_, rfl⟩
      have h1' : decide (300 < (o.path.size : Int)) = z1 := by rw [← h1]; exact decide_eq_decide.2 (by omega)
      have h2' : decide (1100 < (o.data.size : Int)) = z2 := by rw [← h2]; exact decide_eq_decide.2 (by omega)
      by_cases hz : z1 = true ∨ z2 = true
      · have HE2 := Lib.hid (show longS l = true by
          rw [HE.out]
          refine List.any_eq_true.2 ⟨o, HM.out, ?_⟩
          rw [h1, h2]
          rcases hz with h | h <;> simp [h])
        cases z1 <;> cases z2
        case false.false => exact absurd hz (by simp)
        all_goals
          clear hz
          go_wp2_with (first | refine vL ?_ | refine vM ?_ | (refine vS ?_; clear HX; intro w HX) | (refine vA ?_; clear HX; (first | (have hq := b; clear hq; intro w b2 HX) | intro w b HX)) | ((first | (refine sWN ?_; clear HX; intro w mm HX) | (refine sWP ?_; clear HX; intro w av nv cv HX)); simp only [Act.put, k_a, k_b, k_c]) | ((with_reducible apply sx_loadAt hl); (· rfl); (· rfl); simp only [Act.put, k_a, k_b, k_c]) | ((with_reducible apply sx_loadAt hl2); (· rfl); (· rfl); simp only [Act.put, k_a, k_b, k_c]))
          go_ret
          rw [HE2.out]
          exact ⟨rfl, HX.out⟩
      · have HN2 := Lib.hid (show ((l.take (i + 1)).any fun o => decide (300 < o.path.size) || decide (1100 < o.data.size)) = false by
          rw [HT.out, List.any_append, HNO.out]
          simp only [List.any_cons, List.any_nil, Bool.or_false, Bool.false_or]
          rw [h1, h2]
          cases z1 <;> cases z2 <;> simp_all)
        obtain rfl : z1 = false := by cases z1 <;> simp_all
        obtain rfl : z2 = false := by cases z2 <;> simp_all
        clear hz
        go_wp2_with (first | refine vL ?_ | refine vM ?_ | (refine vS ?_; clear HX; intro w HX) | (refine vA ?_; clear HX; (first | (have hq := b; clear hq; intro w b2 HX) | intro w b HX)) | ((first | (refine sWN ?_; clear HX; intro w mm HX) | (refine sWP ?_; clear HX; intro w av nv cv HX)); simp only [Act.put, k_a, k_b, k_c]) | ((with_reducible apply sx_loadAt hl); (· rfl); (· rfl); simp only [Act.put, k_a, k_b, k_c]) | ((with_reducible apply sx_loadAt hl2); (· rfl); (· rfl); simp only [Act.put, k_a, k_b, k_c]))
        go_roundg (l.length - (i + 1))
        case rel => exact ⟨i + 1, by omega, by go_num, HN2.out, HX.out⟩
        case measure => omega
end
end Go.Proofs.YtbakgoncfggidaaGreatDoor

namespace Go.Av
open Go.RowKit
def getO (p : ByteArray) : OpS := ⟨5, p, ⟨#[]⟩, 0, 0⟩
end Go.Av
namespace Go.Proofs.YtbakgoncfggidaaGreatDoor
open Go.RowKit Go.Av
section
variable {w0 w : World} {b : Nat} {S : PartS} {P P' : List PRow} {R : List Thing} {rows : List (Value × Bs)}
set_option maxRecDepth 100000 in
theorem made_any (h : Sep w0 w R rows) (p : ByteArray) (flags : Int) : Calls Tryz.prog 26 #[.string p, .int .i64 flags] w fun e w' => e = .returned (madeO p flags).val ∧ Sep w0 w' R rows := by
  have HX := Lib.hid h
  clear h
  go_enter Tryz.func26, Tryz.ntmps26
  go_wp2_with (first | go_skip | refine uK ?_ | refine uL ?_ | refine uM ?_ | (refine uS ?_; clear HX; intro w HX) | (refine uA ?_; clear HX; (first | (have hq := b; clear hq; intro w b2 HX) | intro w b HX)) | (refine tWN ?_; clear HX; intro w mm HX; simp only [Act.put, k_a, k_b, k_c]) | (refine tWP ?_; clear HX; intro w av nv cv HX; simp only [Act.put, k_a, k_b, k_c]) | (refine tWD ?_; clear HX; (first | (have hq := b; clear hq; intro w b2 HX) | intro w b HX); simp only [Act.put, k_a, k_b, k_c, List.cons_append, List.nil_append] at HX ⊢))
  refine sx_ret HX rfl rfl (by (repeat (first | (with_reducible exact k_s) | (with_reducible apply k_m)))) (by kernel_rfl) ?_
  exact ⟨rfl, HX.out.drop⟩
theorem pt_cell {c n : Nat} {cs : List Value} {T : TypeId} (h : Sep w0 w (ThCell c (.cells cs.toArray T (0, 0)) :: ThPool w0 P :: ThPart b S P :: R) rows) (hl : cs.length = n * 5) (hn : n ≤ 1000) :
    Sep w0 w (ThPool w0 ((5, .slice (some ⟨c, 0, none⟩) n n, cs) :: P) :: ThPart b S ((5, .slice (some ⟨c, 0, none⟩) n n, cs) :: P) :: R) rows :=
  (pt_mono (Sep.poolCell (K := 5) h hl hn).up1 (fun q hq => k_n _ hq)).up1
def GtPost (w0 : World) (b : Nat) (S : PartS) (P : List PRow) (R : List Thing) (rows : List (Value × Bs)) (p : ByteArray) (e : Ending) (w' : World) : Prop :=
  ∃ v P', e = .returned (.agg #[.int .i64 2, .int .i64 1, v]) ∧ (∀ q ∈ P, q ∈ P') ∧ (5, v, [getO p].flatMap OpS.cells) ∈ P' ∧ Sep w0 w' (ThPool w0 P' :: ThPart b S P' :: R) rows
set_option maxRecDepth 100000 in
theorem got_any (h : Sep w0 w (ThPool w0 P :: ThPart b S P :: R) rows) (p : ByteArray) : Calls Tryz.prog 65 #[.string p] w (GtPost w0 b S P R rows p) := by
  have HX := Lib.hid h
  clear h
  go_enter Tryz.func65, Tryz.ntmps65
  go_wp2_with (first | go_skip | refine uK ?_ | refine uL ?_ | refine uM ?_ | (refine uS ?_; clear HX; intro w HX) | (refine uA ?_; clear HX; (first | (have hq := b; clear hq; intro w b2 HX) | intro w b HX)) | (refine tWN ?_; clear HX; intro w mm HX; simp only [Act.put, k_a, k_b, k_c]) | (refine tWP ?_; clear HX; intro w av nv cv HX; simp only [Act.put, k_a, k_b, k_c]) | (refine tWD ?_; clear HX; (first | (have hq := b; clear hq; intro w b2 HX) | intro w b HX); simp only [Act.put, k_a, k_b, k_c, List.cons_append, List.nil_append] at HX ⊢))
  refine sx_ret HX rfl rfl (by (repeat (first | (with_reducible exact k_s) | (with_reducible apply k_m)))) (by kernel_rfl) ?_
  exact ⟨_, _, rfl, fun q hq => k_n _ hq, k_s, pt_cell (cs := [getO p].flatMap OpS.cells) (n := 1) HX.out.up1.drop.up2.up2.up2 rfl (by omega)⟩
def kA : ByteArray := ⟨#[47, 97]⟩
def awS1 : PartS := (prepS (newP 10) 1 1 [opA]).2
def awS2 : PartS := (localS awS1 2 1 [getO kA]).2
def awS3 : PartS := (decideS awS2 1 true).2
def awS4 : PartS := (localS awS3 2 1 [getO kA]).2
theorem aw1 : prepS (newP 10) 1 1 [opA] = ((0, -1), awS1) := by kernel_rfl
theorem aw2 : localS awS1 2 1 [getO kA] = (⟨1, 1, 12, 0, failRs 12 0 1⟩, awS2) := by kernel_rfl
theorem aw3 : decideS awS2 1 true = (([⟨0, kA, ⟨#[]⟩, [], (createN opA 1 2).st⟩], 0), awS3) := by kernel_rfl
theorem aw4 : ∃ rs, localS awS3 2 1 [getO kA] = (⟨1, 3, 0, -1, rs⟩, awS4) := ⟨(localS awS3 2 1 [getO kA]).1.rs, by kernel_rfl⟩
theorem aw5 : awS4.zxid = 3 ∧ awS4.held.length = 0 ∧ awS4.wait = [] := ⟨by kernel_rfl, by kernel_rfl, by kernel_rfl⟩
theorem awC1 : PartC 1 awS1 := prep_c (newP_c 10 (by omega)) 1 1 [opA]
theorem awC2 : PartC 2 awS2 := local_c awC1 2 1 [getO kA]
theorem awC3 : PartC 3 awS3 := decide_c awC2 1 true
set_option maxRecDepth 100000 in
set_option maxHeartbeats 8000000 in
theorem awake_any (hd : DoorN w) : Calls Tryz.prog 14 #[] w fun e w' => e = .returned (.bool true) ∧ Upd w w' [] [] := by
  have HX := Lib.hid (Sep.start w).poolNew
  go_enter Tryz.func14, Tryz.ntmps14
  go_wp2_with (first | go_skip | refine uK ?_ | refine uL ?_ | refine uM ?_ | (refine uS ?_; clear HX; intro w HX) | (refine uA ?_; clear HX; (first | (have hq := b; clear hq; intro w b2 HX) | intro w b HX)) | (refine tWN ?_; clear HX; intro w mm HX; simp only [Act.put, k_a, k_b, k_c]) | (refine tWP ?_; clear HX; intro w av nv cv HX; simp only [Act.put, k_a, k_b, k_c]) | (refine tWD ?_; clear HX; (first | (have hq := b; clear hq; intro w b2 HX) | intro w b HX); simp only [Act.put, k_a, k_b, k_c, List.cons_append, List.nil_append] at HX ⊢))
  refine (partnew_any HX.out 10 (by omega) (by omega)).mono ?_
  rintro e w1 ⟨b, rfl, hx⟩
  clear HX
  have HX := Lib.hid hx
  clear hx
  go_wp2_with (first | go_skip | refine uK ?_ | refine uL ?_ | refine uM ?_ | (refine uS ?_; clear HX; intro w HX) | (refine uA ?_; clear HX; (first | (have hq := b; clear hq; intro w b2 HX) | intro w b HX)) | (refine tWN ?_; clear HX; intro w mm HX; simp only [Act.put, k_a, k_b, k_c]) | (refine tWP ?_; clear HX; intro w av nv cv HX; simp only [Act.put, k_a, k_b, k_c]) | (refine tWD ?_; clear HX; (first | (have hq := b; clear hq; intro w b2 HX) | intro w b HX); simp only [Act.put, k_a, k_b, k_c, List.cons_append, List.nil_append] at HX ⊢) | (go_at_call 26; refine (made_any HX.out _ _).mono ?_; rintro e w1 ⟨rfl, hx⟩; clear HX; have HX := Lib.hid hx; clear hx; simp only [OpS.val, madeO]))
  have hm := prep_any (pt_cell (cs := [opA].flatMap OpS.cells) (n := 1) HX.out rfl (by omega)) hd (newP_b 10 (by omega)) (by omega) 1 1 [opA] _ k_s (by intro o ho; simp at ho; subst ho; decide)
  rw [aw1] at hm
  refine hm.mono ?_
  clear hm
  rintro e w1 ⟨P1, rfl, -, hx⟩
  clear HX
  have HX := Lib.hid hx
  clear hx
  dsimp only at HX ⊢
  go_wp2_with (first | go_skip | refine uK ?_ | refine uL ?_ | refine uM ?_ | (refine uS ?_; clear HX; intro w HX) | (refine uA ?_; clear HX; (first | (have hq := b; clear hq; intro w b2 HX) | intro w b HX)) | (refine tWN ?_; clear HX; intro w mm HX; simp only [Act.put, k_a, k_b, k_c]) | (refine tWP ?_; clear HX; intro w av nv cv HX; simp only [Act.put, k_a, k_b, k_c]) | (refine tWD ?_; clear HX; (first | (have hq := b; clear hq; intro w b2 HX) | intro w b HX); simp only [Act.put, k_a, k_b, k_c, List.cons_append, List.nil_append] at HX ⊢))
  refine (got_any HX.out _).mono ?_
  rintro e w1 ⟨v2, P2, rfl, -, hv2, hx⟩
  clear HX
  have HX := Lib.hid hx
  clear hx
  have HV2 := Lib.hid hv2
  clear hv2
  go_wp2_with (first | go_skip | refine uK ?_ | refine uL ?_ | refine uM ?_ | (refine uS ?_; clear HX; intro w HX) | (refine uA ?_; clear HX; (first | (have hq := b; clear hq; intro w b2 HX) | intro w b HX)) | (refine tWN ?_; clear HX; intro w mm HX; simp only [Act.put, k_a, k_b, k_c]) | (refine tWP ?_; clear HX; intro w av nv cv HX; simp only [Act.put, k_a, k_b, k_c]) | (refine tWD ?_; clear HX; (first | (have hq := b; clear hq; intro w b2 HX) | intro w b HX); simp only [Act.put, k_a, k_b, k_c, List.cons_append, List.nil_append] at HX ⊢))
  have hm := local_any HX.out hd awC1.b (by omega) 2 1 [getO kA] v2 HV2.out (by intro o ho; simp at ho; subst ho; decide)
  rw [aw2] at hm
  refine hm.mono ?_
  clear hm
  rintro e w1 ⟨_, P3, rfl, -, ⟨a3, n3, c3, xs3, rfl, -⟩, hx⟩
  clear HX
  have HX := Lib.hid hx
  clear hx
  dsimp only at HX ⊢
  go_wp2_with (first | go_skip | refine uK ?_ | refine uL ?_ | refine uM ?_ | (refine uS ?_; clear HX; intro w HX) | (refine uA ?_; clear HX; (first | (have hq := b; clear hq; intro w b2 HX) | intro w b HX)) | (refine tWN ?_; clear HX; intro w mm HX; simp only [Act.put, k_a, k_b, k_c]) | (refine tWP ?_; clear HX; intro w av nv cv HX; simp only [Act.put, k_a, k_b, k_c]) | (refine tWD ?_; clear HX; (first | (have hq := b; clear hq; intro w b2 HX) | intro w b HX); simp only [Act.put, k_a, k_b, k_c, List.cons_append, List.nil_append] at HX ⊢))
  have hm := decide_any HX.out.up2.up2 hd awC2.b (by have := awC2.len; omega) (by omega) 1 true
  rw [aw3] at hm
  refine hm.mono ?_
  clear hm
  rintro e w1 ⟨P4, a4, n4, c4, xs4, rfl, -, hr4, hm4, hx⟩
  obtain rfl : n4 = 1 := rep_len hx hr4 hm4
  clear HX
  have HX := Lib.hid hx
  clear hx
  have HM4 := Lib.hid (show _ ∧ _ from ⟨hr4, hm4⟩)
  clear hr4 hm4
  dsimp only at HX ⊢
  go_wp2_with (first | go_skip | refine uK ?_ | refine uL ?_ | refine uM ?_ | (refine uS ?_; clear HX; intro w HX) | (refine uA ?_; clear HX; (first | (have hq := b; clear hq; intro w b2 HX) | intro w b HX)) | (refine tWN ?_; clear HX; intro w mm HX; simp only [Act.put, k_a, k_b, k_c]) | (refine tWP ?_; clear HX; intro w av nv cv HX; simp only [Act.put, k_a, k_b, k_c]) | (refine tWD ?_; clear HX; (first | (have hq := b; clear hq; intro w b2 HX) | intro w b HX); simp only [Act.put, k_a, k_b, k_c, List.cons_append, List.nil_append] at HX ⊢))
  refine (got_any HX.out _).mono ?_
  rintro e w1 ⟨v5, P5, rfl, hP5, hv5, hx⟩
  clear HX
  have HX := Lib.hid hx
  clear hx
  have HV5 := Lib.hid (show _ ∧ _ from ⟨hv5, hP5⟩)
  clear hv5 hP5
  go_wp2_with (first | go_skip | refine uK ?_ | refine uL ?_ | refine uM ?_ | (refine uS ?_; clear HX; intro w HX) | (refine uA ?_; clear HX; (first | (have hq := b; clear hq; intro w b2 HX) | intro w b HX)) | (refine tWN ?_; clear HX; intro w mm HX; simp only [Act.put, k_a, k_b, k_c]) | (refine tWP ?_; clear HX; intro w av nv cv HX; simp only [Act.put, k_a, k_b, k_c]) | (refine tWD ?_; clear HX; (first | (have hq := b; clear hq; intro w b2 HX) | intro w b HX); simp only [Act.put, k_a, k_b, k_c, List.cons_append, List.nil_append] at HX ⊢))
  obtain ⟨rs6, hr6⟩ := aw4
  have hm := local_any HX.out hd awC3.b (by omega) 2 1 [getO kA] v5 HV5.out.1 (by intro o ho; simp at ho; subst ho; decide)
  rw [hr6] at hm
  refine hm.mono ?_
  clear hm hr6
  rintro e w1 ⟨_, P6, rfl, hP6, ⟨a6, n6, c6, xs6, rfl, -⟩, hx⟩
  clear HX
  have HX := Lib.hid hx
  clear hx
  have HP6 := Lib.hid hP6
  clear hP6
  dsimp only at HX ⊢
  go_upto_region 8 with (first | go_skip | refine uK ?_ | refine uL ?_ | refine uM ?_ | (refine uS ?_; clear HX; intro w HX) | (refine uA ?_; clear HX; (first | (have hq := b; clear hq; intro w b2 HX) | intro w b HX)) | (refine tWN ?_; clear HX; intro w mm HX; simp only [Act.put, k_a, k_b, k_c]) | (refine tWP ?_; clear HX; intro w av nv cv HX; simp only [Act.put, k_a, k_b, k_c]) | (refine tWD ?_; clear HX; (first | (have hq := b; clear hq; intro w b2 HX) | intro w b HX); simp only [Act.put, k_a, k_b, k_c, List.cons_append, List.nil_append] at HX ⊢))
  obtain ⟨hr4, hm4⟩ := HM4.out
  have hm4 := HP6.out _ (HV5.out.2 _ hm4)
  obtain ⟨g, off, rfl, hcell⟩ : ∃ g off, a4 = some ⟨g, off, none⟩ ∧ ∀ i v, xs4[i]? = some v → w.cell? ⟨g, off + i, none⟩ = some v := by
    cases hr4 with
    | cons h3 h4 => exact row_fst HX.out.up1 hm4
  have hc1 : w.cell? ⟨g, off + 1, none⟩ = some (.string ⟨#[47, 97]⟩) := by
    cases hr4 with
    | cons h3 h4 => exact hcell 1 _ rfl
  clear HM4 hr4 hm4 hcell HV5 HP6
  have HA5 := Lib.hid aw5
  go_wp2_with (first | go_skip | refine uK ?_ | refine uL ?_ | refine uM ?_ | (refine uS ?_; clear HX; intro w HX) | (refine uA ?_; clear HX; (first | (have hq := b; clear hq; intro w b2 HX) | intro w b HX)) | (refine tWN ?_; clear HX; intro w mm HX; simp only [Act.put, k_a, k_b, k_c]) | (refine tWP ?_; clear HX; intro w av nv cv HX; simp only [Act.put, k_a, k_b, k_c]) | (refine tWD ?_; clear HX; (first | (have hq := b; clear hq; intro w b2 HX) | intro w b HX); simp only [Act.put, k_a, k_b, k_c, List.cons_append, List.nil_append] at HX ⊢))
  refine (zxid_any HX.out.up2).mono ?_
  rw [HA5.out.1]
  rintro e w ⟨rfl, hx⟩
  clear HX
  have HX := Lib.hid hx
  clear hx
  go_wp2_with (first | go_skip | refine uK ?_ | refine uL ?_ | refine uM ?_ | (refine uS ?_; clear HX; intro w HX) | (refine uA ?_; clear HX; (first | (have hq := b; clear hq; intro w b2 HX) | intro w b HX)) | (refine tWN ?_; clear HX; intro w mm HX; simp only [Act.put, k_a, k_b, k_c]) | (refine tWP ?_; clear HX; intro w av nv cv HX; simp only [Act.put, k_a, k_b, k_c]) | (refine tWD ?_; clear HX; (first | (have hq := b; clear hq; intro w b2 HX) | intro w b HX); simp only [Act.put, k_a, k_b, k_c, List.cons_append, List.nil_append] at HX ⊢))
  refine (plocks_any HX.out).mono ?_
  rw [HA5.out.2.1]
  rintro e w ⟨rfl, hx⟩
  clear HX
  have HX := Lib.hid hx
  clear hx
  go_wp2_with (first | go_skip | refine uK ?_ | refine uL ?_ | refine uM ?_ | (refine uS ?_; clear HX; intro w HX) | (refine uA ?_; clear HX; (first | (have hq := b; clear hq; intro w b2 HX) | intro w b HX)) | (refine tWN ?_; clear HX; intro w mm HX; simp only [Act.put, k_a, k_b, k_c]) | (refine tWP ?_; clear HX; intro w av nv cv HX; simp only [Act.put, k_a, k_b, k_c]) | (refine tWD ?_; clear HX; (first | (have hq := b; clear hq; intro w b2 HX) | intro w b HX); simp only [Act.put, k_a, k_b, k_c, List.cons_append, List.nil_append] at HX ⊢))
  refine (waiting_any HX.out.up2 (fun e he => by rw [HA5.out.2.2] at he; cases he) (by rw [HA5.out.2.2]; simp)).mono ?_
  rintro e w ⟨vx, P7, rfl, hP7, hvx, hx⟩
  obtain ⟨E, hE⟩ := hx.poolGet hvx
  obtain ⟨xa, xn, xc, rfl, hxl, -⟩ := ReadRow.some hE
  obtain rfl : xn = 0 := by rw [List.length_map, waits_len, HA5.out.2.2] at hxl; simpa using hxl.symm
  clear HX
  have HX := Lib.hid hx
  clear hx
  clear hP7 hvx hE hxl
  go_wp2_with (first | go_skip | refine uK ?_ | refine uL ?_ | refine uM ?_ | (refine uS ?_; clear HX; intro w HX) | (refine uA ?_; clear HX; (first | (have hq := b; clear hq; intro w b2 HX) | intro w b HX)) | (refine tWN ?_; clear HX; intro w mm HX; simp only [Act.put, k_a, k_b, k_c]) | (refine tWP ?_; clear HX; intro w av nv cv HX; simp only [Act.put, k_a, k_b, k_c]) | (refine tWD ?_; clear HX; (first | (have hq := b; clear hq; intro w b2 HX) | intro w b HX); simp only [Act.put, k_a, k_b, k_c, List.cons_append, List.nil_append] at HX ⊢))
  go_ret
  exact ⟨rfl, Upd.of_below HX.out.below⟩
end
end Go.Proofs.YtbakgoncfggidaaGreatDoor

namespace Go.Proofs.YtbakgoncfggidaaGreatDoor
open Go.RowKit Go.Av
section
variable {w0 w : World} {P P' : List PRow} {R : List Thing} {rows : List (Value × Bs)}
theorem long_len {l : List OpS} (h : longS l = false) : l.length ≤ 20 ∧ ∀ o ∈ l, o.path.size ≤ 300 := by
  unfold longS at h
  rw [Bool.or_eq_false_iff] at h
  refine ⟨by have := of_decide_eq_false h.1; omega, fun o ho => ?_⟩
  have := List.any_eq_false.1 h.2 o ho
  simp at this
  omega
end
end Go.Proofs.YtbakgoncfggidaaGreatDoor

namespace Go.Proofs.YtbakgoncfggidaaGreatDoor
open Go.RowKit Go.Av
theorem sn_x3 : StructN Tryz.prog 30 5 := ⟨by kernel_rfl⟩
theorem z_x3 : zeroB Tryz.prog 30 #[.int .i64 0, .int .i64 0, .int .i64 0, .slice none 0 0, .bool false] := by unfold zeroB; kernel_rfl
section
variable {w0 w : World} {b : Nat} {S : PartS} {P P' : List PRow} {R : List Thing} {rows : List (Value × Bs)}
theorem sep_dropL : ∀ (A : List Thing) {R : List Thing}, Sep w0 w (A ++ R) rows → Sep w0 w R rows
  | [], _, h => h
  | _ :: A, _, h => sep_dropL A h.drop
theorem sep_two {A B : Thing} (h : Sep w0 w (A :: B :: R) rows) : Sep w0 w [A, B] rows :=
  sep_dropL R (h.perm (List.perm_append_comm (l₁ := [A, B])))
theorem pt_old {K : Nat} {v : Value} {xs : List Value} {E : List Nat} (h : Sep w0 w (ThPool w0 P :: ThPart b S P :: R) rows) (hr : ReadRow w0 K v xs E) : Sep w0 w (ThPool w0 ((K, v, xs) :: P) :: ThPart b S ((K, v, xs) :: P) :: R) rows :=
  (pt_mono (h.poolOld hr).up1 (fun q hq => k_n _ hq)).up1
end
theorem act0 {S : PartS} {a : PAct} (h : a.op = 0) : actS S a = (localS S a.sess a.id a.ops).2 := by unfold actS; rw [if_pos h]
theorem act1 {S : PartS} {a : PAct} (h : a.op = 1) : actS S a = (prepS S a.id a.sess a.ops).2 := by unfold actS; rw [if_neg (by omega), if_pos h]
theorem act2 {S : PartS} {a : PAct} (h : a.op = 2) : actS S a = (closeS S a.id a.sess).2 := by unfold actS; rw [if_neg (by omega), if_neg (by omega), if_pos h]
theorem act3 {S : PartS} {a : PAct} (h0 : a.op ≠ 0) (h1 : a.op ≠ 1) (h2 : a.op ≠ 2) : actS S a = (decideS S a.id a.yes).2 := by unfold actS; rw [if_neg h0, if_neg h1, if_neg h2]
end Go.Proofs.YtbakgoncfggidaaGreatDoor
namespace Go.Av
open Go.RowKit
theorem readRow_one {w : World} {K g off n c i : Nat} {xs : List Value} {E : List Nat} (h : ReadRow w K (.slice (some ⟨g, off, none⟩) n c) xs E) (hi : i < n) (hK : 0 < K) : ReadRow w K (.slice (some ⟨g, off + i * K, none⟩) 1 (c - i)) ((xs.drop (i * K)).take K) E := by
  obtain ⟨a', n', c', hv, hl, hn, hc, ha, hr⟩ := h
  cases hv
  have hle : i * K + K ≤ n * K := by rw [← Nat.succ_mul]; exact Nat.mul_le_mul_right _ hi
  rcases hr with ⟨h2, _⟩ | ⟨g', off', h2, h3, h4, h5⟩
  · exfalso
    rw [h2] at hl
    simp at hl
    omega
  · injection h2 with h2
    injection h2 with h6 h7
    subst h6 h7
    refine ⟨_, _, _, rfl, by rw [List.length_take, List.length_drop, hl]; omega, by omega, by omega, (fun h => by cases h), .inr ⟨g, off + i * K, rfl, h3, h4, fun j x hx => ?_⟩⟩
    rw [List.getElem?_take] at hx
    split at hx
    · rw [List.getElem?_drop] at hx
      rw [show off + i * K + j = off + (i * K + j) by omega]
      exact h5 _ _ hx
    · cases hx
theorem flat_one {l : List OpS} {i : Nat} (hi : i < l.length) : ((l.flatMap OpS.cells).drop (i * 5)).take 5 = [l[i]].flatMap OpS.cells := by
  apply List.ext_getElem?
  intro j
  rw [List.getElem?_take]
  split
  · rename_i hj
    rw [List.getElem?_drop, flatG_at (f := OpS.cells) (K := 5) opcells_len l hi hj]
    simp
  · rename_i hj
    rw [List.getElem?_eq_none]
    simp [OpS.cells]
    omega
theorem slice_runK {P : Program} {t e : TypeId} {i : TypeInfo} (ht : P.underlying t = some (.slice e)) (hi : P.info? e = some i) (g off n c lo k : Nat) (h1 : lo ≤ k) (hk : k ≤ c) (W : World) :
    (Instr.slice t (.slice (some ⟨g, off, none⟩) n c) (some (.int .i64 (lo : Int))) (some (.int .i64 (k : Int))) none).run P W = .ok (.slice (some ⟨g, if c = lo then off else off + lo * i.size, none⟩) (k - lo) (c - lo)) W := by
  simp [Instr.slice, run_underlying ht, Instr.sliceBounds, Instr.sliceBound, asIntOf, hk, h1, sizeOf, typeInfo, hi, Result.andThen, Addr.add]
  split
  · rfl
  · split
    · simp_all
    · rfl
section
variable {w0 w : World} {Pl : List PRow} {R : List Thing} {rows : List (Value × Bs)} {P : Program}
theorem Sep.poolOne {t e : TypeId} {ii : TypeInfo} (ht : P.underlying t = some (.slice e)) (hi : P.info? e = some ii) (hz : ii.size = 5) {g off n c i : Nat} {l : List OpS} (h : Sep w0 w (ThPool w0 Pl :: R) rows) (hr : (5, Value.slice (some ⟨g, off, none⟩) n c, l.flatMap OpS.cells) ∈ Pl) (hlt : i < n) (hc : n ≤ c) (hl : i < l.length) :
    (∀ W, (Instr.sliceAt t (.slice (some ⟨g, off, none⟩) n c) (some (.int .i64 (i : Int))) (some (.int .i64 ((i : Int) + 1))) none).run P W = .ok (.slice (some ⟨g, off + i * 5, none⟩) 1 (c - i)) W) ∧
      Sep w0 w (ThPool w0 ((5, .slice (some ⟨g, off + i * 5, none⟩) 1 (c - i), [l[i]].flatMap OpS.cells) :: Pl) :: R) rows := by
  refine ⟨fun W => ?_, ?_⟩
  · rw [run_sliceAt ht, show ((i : Int) + 1) = ((i + 1 : Nat) : Int) by omega, slice_runK ht hi g off n c i (i + 1) (by omega) (by omega) W, if_neg (by omega), hz, show i + 1 - i = 1 by omega]
  · have := h.poolPut hr (K2 := 5) (v2 := .slice (some ⟨g, off + i * 5, none⟩) 1 (c - i)) (ys := ((l.flatMap OpS.cells).drop (i * 5)).take 5) fun W E hE => ⟨E, readRow_one (K := 5) hE hlt (by omega), fun _ h => h⟩
    rwa [flat_one hl] at this
end
end Go.Av

namespace Go.Proofs.YtbakgoncfggidaaGreatDoor
open Go.RowKit Go.Av
section
variable {w0 w : World} {P P' : List PRow} {R : List Thing} {rows : List (Value × Bs)}
end
end Go.Proofs.YtbakgoncfggidaaGreatDoor

namespace Go.Proofs.YtbakgoncfggidaaGreatDoor
open Go.RowKit Go.Av
section
variable {w0 w : World} {P P' : List PRow} {R : List Thing} {rows : List (Value × Bs)}
end
end Go.Proofs.YtbakgoncfggidaaGreatDoor

namespace Go.Proofs.YtbakgoncfggidaaGreatDoor
open Go.RowKit Go.Av
section
variable {w0 w : World} {P P' : List PRow} {R : List Thing} {rows : List (Value × Bs)}
end
end Go.Proofs.YtbakgoncfggidaaGreatDoor

namespace Go.Proofs.YtbakgoncfggidaaGreatDoor
open Go.RowKit Go.Av
end Go.Proofs.YtbakgoncfggidaaGreatDoor

namespace Go.Av
open Go.RowKit
theorem EntL.parts {P : List PRow} {l : NoL} {xs : List Value} (h : EntL P l xs) {i : Nat} (hi : i < l.length) : ∃ nv, (1, nv, l[i].2.names.map sv) ∈ P ∧ xs[i * 11]? = some (sv l[i].1) ∧ ∀ j v, (l[i].2.cells nv).toList[j]? = some v → xs[i * 11 + 1 + j]? = some v := by
  obtain ⟨nv, h1, h2⟩ := h.at hi
  refine ⟨nv, h1, h2 0 _ rfl, fun j v hv => ?_⟩
  rw [show i * 11 + 1 + j = i * 11 + (j + 1) by omega]
  exact h2 (j + 1) v hv
end Go.Av
namespace Go.Proofs.YtbakgoncfggidaaGreatDoor
open Go.RowKit Go.Av
section
variable {w0 w : World} {b b2 : Nat} {S : TreeS} {P P' : List PRow} {R : List Thing} {rows : List (Value × Bs)}
theorem own_read {a : Option Addr} {n c K : Nat} {xs : List Value} (h : Sep w0 w (ThRow K (.slice a n c) xs :: R) rows) : ∃ E, ReadRow w K (.slice a n c) xs E := by
  obtain ⟨D, hD⟩ := h.fst
  obtain ⟨E, hE, -⟩ := OwnRow.read hD
  exact ⟨E, hE⟩
set_option maxRecDepth 100000 in
set_option maxHeartbeats 4000000 in
theorem samet_any (h : Sep w0 w (ThPool w0 P :: ThRt b S P :: ThRt b2 S P :: R) rows) (hn : S.l.length ≤ 100000) :
    Calls Tryz.prog 32 #[.pointer (some ⟨b, 0, none⟩), .pointer (some ⟨b2, 0, none⟩)] w fun e w' => e = .returned (.bool true) ∧ Sep w0 w' (ThPool w0 P :: ThRt b S P :: ThRt b2 S P :: R) rows := by
  obtain ⟨a1, n1, c1, xs1, he1, rfl, hS⟩ := rt_open h.up1
  obtain ⟨a2, n2, c2, xs2, he2, rfl, hS⟩ := rt_open hS.up3
  have HX := Lib.hid hS
  have HE1 := Lib.hid he1
  have HE2 := Lib.hid he2
  have HN := Lib.hid hn
  have HFIN := Lib.hid (show ∀ W, Sep w0 W (ThCell b2 (.cells #[.int .i64 S.room, .slice a2 S.l.length c2] 160 (0, 0)) :: ThRow 11 (.slice a2 S.l.length c2) xs2 :: ThCell b (.cells #[.int .i64 S.room, .slice a1 S.l.length c1] 160 (0, 0)) :: ThRow 11 (.slice a1 S.l.length c1) xs1 :: ThPool w0 P :: R) rows → Sep w0 W (ThPool w0 P :: ThRt b S P :: ThRt b2 S P :: R) rows from fun W hW => by
    have h1 := rt_shut hW he2
    have h2 := rt_shut (Sep.up2 (Sep.up2 h1)) he1
    exact Sep.pm h2 3 [2, 0, 1] rfl rfl)
  clear h hS he1 he2 hn
  go_enter Tryz.func32, Tryz.ntmps32
  go_wp2_with (first | refine vL ?_ | refine vM ?_ | (refine vS ?_; clear HX; intro w HX) | (refine vA ?_; clear HX; (first | (have hq := b2; clear hq; intro w b3 HX) | (have hq := b; clear hq; intro w b2 HX) | intro w b HX)) | ((first | (refine sWN ?_; clear HX; intro w mm HX) | (refine sWP ?_; clear HX; intro w av nv cv HX)); simp only [Act.put, k_a, k_b, k_c]))
  refine wp_region_M (fun W => W = w.drew) 11 (by kernel_rfl) ?_
  replace HX := Lib.hid HX.out.drew
  generalize w.drew = w at HX ⊢
  refine wpAnyM_take (by kernel_rfl) (by intro c a d v w h; cases d <;> exact h) [(0, false), (1, false), (2, false), (3, true), (4, false), (5, false), (6, false), (7, false), (8, true), (9, false), (10, false)] (fuel := 0) (by kernel_rfl) ?_
  apply Exists.intro; refine ⟨?_, rfl, ?_⟩
  · iterate 11 (refine yD ?_)
    exact rfl
  refine wpAnyM_done (by kernel_rfl) ?_ _
  go_wp2_with (first | refine vL ?_ | refine vM ?_ | (refine vS ?_; clear HX; intro w HX) | (refine vA ?_; clear HX; (first | (have hq := b2; clear hq; intro w b3 HX) | (have hq := b; clear hq; intro w b2 HX) | intro w b HX)) | ((first | (refine sWN ?_; clear HX; intro w mm HX) | (refine sWP ?_; clear HX; intro w av nv cv HX)); simp only [Act.put, k_a, k_b, k_c]))
  go_loopg [5] S.l.length (fun k v5 wr => ∃ i : Nat, i + k = S.l.length ∧ v5 = .int .i64 (i : Int) ∧ Sep w0 wr (ThCell b2 (.cells #[.int .i64 S.room, .slice a2 S.l.length c2] 160 (0, 0)) :: ThRow 11 (.slice a2 S.l.length c2) xs2 :: ThCell b (.cells #[.int .i64 S.room, .slice a1 S.l.length c1] 160 (0, 0)) :: ThRow 11 (.slice a1 S.l.length c1) xs1 :: ThPool w0 P :: R) rows)
  case atStart => exact ⟨0, by omega, rfl, HX.out⟩
  case round =>
    rename World => w
    obtain ⟨i, hik, rfl, hS⟩ := hrel
    clear HX
    have HX := Lib.hid hS
    clear hS
    by_cases hlt : i < S.l.length
    case neg =>
      obtain rfl : i = S.l.length := by omega
      clear hlt hik
      go_wp2_with (first | refine vL ?_ | refine vM ?_ | (refine vS ?_; clear HX; intro w HX) | (refine vA ?_; clear HX; (first | (have hq := b2; clear hq; intro w b3 HX) | (have hq := b; clear hq; intro w b2 HX) | intro w b HX)) | ((first | (refine sWN ?_; clear HX; intro w mm HX) | (refine sWP ?_; clear HX; intro w av nv cv HX)); simp only [Act.put, k_a, k_b, k_c]))
      go_ret
      exact ⟨rfl, HFIN.out _ HX.out⟩
    case pos =>
      obtain ⟨nv1, m1, p1, k1⟩ := HE1.out.parts hlt
      obtain ⟨nv2, m2, p2, k2⟩ := HE2.out.parts hlt
      obtain ⟨E, hE⟩ := own_read HX.out.up3
      obtain ⟨_, _, _, e, _, _, _, hne⟩ := ReadRow.some hE
      simp only [Value.slice.injEq] at e
      obtain ⟨rfl, rfl, rfl⟩ := e
      obtain ⟨g1, o1, rfl⟩ := hne (by intro e; rw [e] at p1; cases p1)
      obtain ⟨E2, hE2⟩ := own_read HX.out.up1
      obtain ⟨_, _, _, e, _, _, _, hne⟩ := ReadRow.some hE2
      simp only [Value.slice.injEq] at e
      obtain ⟨rfl, rfl, rfl⟩ := e
      obtain ⟨g2, o2, rfl⟩ := hne (by intro e; rw [e] at p2; cases p2)
      obtain ⟨⟨p, nd⟩, hen⟩ : ∃ en, S.l[i] = en := ⟨_, rfl⟩
      rw [hen] at m1 p1 k1 m2 p2 k2
      dsimp only at m1 p1 k1 m2 p2 k2
      obtain ⟨ps, hps⟩ : ∃ ps : ByteArray, ps = ⟨p.toArray⟩ := ⟨_, rfl⟩
      have hpv : sv p = .string ps := by rw [hps]; rfl
      rw [hpv] at p1 p2
      have hql := beq_self_str ps
      have q0 : decide (i < S.l.length) = true := decide_eq_true hlt
      have q9 : i ≤ 100000 := by have := HN.out; omega
      have HM := Lib.hid (show _ ∧ _ from ⟨m1, m2⟩)
      have hl : ∀ W, Sep w0 W (ThCell b2 (.cells #[.int .i64 S.room, .slice (some ⟨g2, o2, none⟩) S.l.length c2] 160 (0, 0)) :: ThRow 11 (.slice (some ⟨g2, o2, none⟩) S.l.length c2) xs2 :: ThCell b (.cells #[.int .i64 S.room, .slice (some ⟨g1, o1, none⟩) S.l.length c1] 160 (0, 0)) :: ThRow 11 (.slice (some ⟨g1, o1, none⟩) S.l.length c1) xs1 :: ThPool w0 P :: R) rows → (Instr.loadAt 9 (.pointer (some ⟨g1, o1 + i * 11, none⟩))).run Tryz.prog W = .ok (.string ps) W := fun W hW => by
        obtain ⟨E, hE⟩ := own_read (Sep.up3 hW)
        exact row_fld0 hE (by kernel_rfl) p1
      have hl2 : ∀ W, Sep w0 W (ThCell b2 (.cells #[.int .i64 S.room, .slice (some ⟨g2, o2, none⟩) S.l.length c2] 160 (0, 0)) :: ThRow 11 (.slice (some ⟨g2, o2, none⟩) S.l.length c2) xs2 :: ThCell b (.cells #[.int .i64 S.room, .slice (some ⟨g1, o1, none⟩) S.l.length c1] 160 (0, 0)) :: ThRow 11 (.slice (some ⟨g1, o1, none⟩) S.l.length c1) xs1 :: ThPool w0 P :: R) rows → (Instr.loadAt 9 (.pointer (some ⟨g2, o2 + i * 11, none⟩))).run Tryz.prog W = .ok (.string ps) W := fun W hW => by
        obtain ⟨E, hE⟩ := own_read (Sep.up1 hW)
        exact row_fld0 hE (by kernel_rfl) p2
      have hl3 : ∀ W, Sep w0 W (ThCell b2 (.cells #[.int .i64 S.room, .slice (some ⟨g2, o2, none⟩) S.l.length c2] 160 (0, 0)) :: ThRow 11 (.slice (some ⟨g2, o2, none⟩) S.l.length c2) xs2 :: ThCell b (.cells #[.int .i64 S.room, .slice (some ⟨g1, o1, none⟩) S.l.length c1] 160 (0, 0)) :: ThRow 11 (.slice (some ⟨g1, o1, none⟩) S.l.length c1) xs1 :: ThPool w0 P :: R) rows → (Instr.loadAt 166 (.pointer (some ⟨g1, o1 + i * 11 + 1, none⟩))).run Tryz.prog W = .ok (.agg (nd.cells nv1)) W := fun W hW => by
        obtain ⟨E, hE⟩ := own_read (Sep.up3 hW)
        exact row_part hE sn_rnode rfl (by simp [NodeS.cells]) k1
      have hl4 : ∀ W, Sep w0 W (ThCell b2 (.cells #[.int .i64 S.room, .slice (some ⟨g2, o2, none⟩) S.l.length c2] 160 (0, 0)) :: ThRow 11 (.slice (some ⟨g2, o2, none⟩) S.l.length c2) xs2 :: ThCell b (.cells #[.int .i64 S.room, .slice (some ⟨g1, o1, none⟩) S.l.length c1] 160 (0, 0)) :: ThRow 11 (.slice (some ⟨g1, o1, none⟩) S.l.length c1) xs1 :: ThPool w0 P :: R) rows → (Instr.loadAt 166 (.pointer (some ⟨g2, o2 + i * 11 + 1, none⟩))).run Tryz.prog W = .ok (.agg (nd.cells nv2)) W := fun W hW => by
        obtain ⟨E, hE⟩ := own_read (Sep.up1 hW)
        exact row_part hE sn_rnode rfl (by simp [NodeS.cells]) k2
      clear m1 m2 p1 p2 k1 k2 hne hE hE2 hen hps hpv
      go_wp2_with (first | refine vL ?_ | refine vM ?_ | (refine vS ?_; clear HX; intro w HX) | (refine vA ?_; clear HX; (first | (have hq := b2; clear hq; intro w b3 HX) | (have hq := b; clear hq; intro w b2 HX) | intro w b HX)) | ((first | (refine sWN ?_; clear HX; intro w mm HX) | (refine sWP ?_; clear HX; intro w av nv cv HX)); simp only [Act.put, k_a, k_b, k_c]))
      refine wp_region_M (fun W => Sep w0 W (ThCell b2 (.cells #[.int .i64 S.room, .slice (some ⟨g2, o2, none⟩) S.l.length c2] 160 (0, 0)) :: ThRow 11 (.slice (some ⟨g2, o2, none⟩) S.l.length c2) xs2 :: ThCell b (.cells #[.int .i64 S.room, .slice (some ⟨g1, o1, none⟩) S.l.length c1] 160 (0, 0)) :: ThRow 11 (.slice (some ⟨g1, o1, none⟩) S.l.length c1) xs1 :: ThPool w0 P :: R) rows) 37 (by kernel_rfl) ?_
      have KEEPX : ∀ W, Sep w0 W (ThCell b2 (.cells #[.int .i64 S.room, .slice (some ⟨g2, o2, none⟩) S.l.length c2] 160 (0, 0)) :: ThRow 11 (.slice (some ⟨g2, o2, none⟩) S.l.length c2) xs2 :: ThCell b (.cells #[.int .i64 S.room, .slice (some ⟨g1, o1, none⟩) S.l.length c1] 160 (0, 0)) :: ThRow 11 (.slice (some ⟨g1, o1, none⟩) S.l.length c1) xs1 :: ThPool w0 P :: R) rows → Sep w0 W (ThCell b2 (.cells #[.int .i64 S.room, .slice (some ⟨g2, o2, none⟩) S.l.length c2] 160 (0, 0)) :: ThRow 11 (.slice (some ⟨g2, o2, none⟩) S.l.length c2) xs2 :: ThCell b (.cells #[.int .i64 S.room, .slice (some ⟨g1, o1, none⟩) S.l.length c1] 160 (0, 0)) :: ThRow 11 (.slice (some ⟨g1, o1, none⟩) S.l.length c1) xs1 :: ThPool w0 P :: R) rows := fun _ h => h
      replace HX := Lib.hid HX.out.drew
      refine wpAnyM_take (by kernel_rfl) (by intro c a d v w h; cases d <;> exact h) [(0, false), (1, false), (2, false), (3, true), (4, false), (5, false), (6, false), (7, true), (8, false), (9, false), (10, false), (11, true), (12, false), (13, false), (14, false), (15, true), (16, false), (17, false), (18, false), (19, false), (20, false), (21, true), (22, false), (23, false), (24, false), (25, true), (26, false), (27, false), (28, false), (29, true), (30, false), (31, false), (32, false), (33, true)] (fuel := 3) (by kernel_rfl) ?_
      apply Exists.intro; refine ⟨?_, HX.out, ?_⟩
      · iterate 34 (refine yE ?_)
        exact rfl
      clear hl hl2 hl3 hl4
      refine wpAnyM_one (fuel := 2) (i := 34) (by kernel_rfl) (by (simp only [k_i, k_j, k_k]; try rfl)) (fun K hK => ?_)
      go_wp2_with fail
      refine (samen_any HX.out.up4 nd nv1 nv2 HM.out.1 HM.out.2).mono ?_
      rintro e w ⟨rfl, hx⟩
      have hy : Sep w0 w (ThCell b2 (.cells #[.int .i64 S.room, .slice (some ⟨g2, o2, none⟩) S.l.length c2] 160 (0, 0)) :: ThRow 11 (.slice (some ⟨g2, o2, none⟩) S.l.length c2) xs2 :: ThCell b (.cells #[.int .i64 S.room, .slice (some ⟨g1, o1, none⟩) S.l.length c1] 160 (0, 0)) :: ThRow 11 (.slice (some ⟨g1, o1, none⟩) S.l.length c1) xs1 :: ThPool w0 P :: R) rows := hx.pm 5 [1, 2, 3, 4, 0] rfl rfl
      clear HX hx
      have HX := Lib.hid hy
      clear hy
      go_wp2_with fail
      refine hK _ _ HX.out ?_
      clear hK
      refine wpAnyM_take (by kernel_rfl) (by intro c a d v w h; cases d <;> exact h) [(35, false), (36, false)] (fuel := 0) (by kernel_rfl) ?_
      apply Exists.intro; refine ⟨?_, HX.out, ?_⟩
      · iterate 2 (refine yE ?_)
        exact rfl
      refine wpAnyM_done (by kernel_rfl) ?_ _
      go_wp2_with (first | refine vL ?_ | refine vM ?_ | (refine vS ?_; clear HX; intro w HX) | (refine vA ?_; clear HX; (first | (have hq := b2; clear hq; intro w b3 HX) | (have hq := b; clear hq; intro w b2 HX) | intro w b HX)) | ((first | (refine sWN ?_; clear HX; intro w mm HX) | (refine sWP ?_; clear HX; intro w av nv cv HX)); simp only [Act.put, k_a, k_b, k_c]))
      go_roundg (S.l.length - (i + 1))
      case rel => exact ⟨i + 1, by omega, by go_num, HX.out⟩
      case measure => omega
end
end Go.Proofs.YtbakgoncfggidaaGreatDoor

namespace Go.Proofs.YtbakgoncfggidaaGreatDoor
open Go.RowKit Go.Av
section
variable {w0 w : World} {b : Nat} {S : TreeS} {P P' : List PRow} {R : List Thing} {rows : List (Value × Bs)}
end
end Go.Proofs.YtbakgoncfggidaaGreatDoor

namespace Go.Av
open Go.RowKit
theorem EntL.take {P : List PRow} {l : NoL} {xs : List Value} (h : EntL P l xs) : ∀ k, EntL P (l.take k) (xs.take (k * 11)) := by
  induction h with
  | nil => intro k; simp; exact .nil
  | @cons p n nv l xs h1 h2 ih =>
    intro k
    cases k with
    | zero => rw [Nat.zero_mul]; exact .nil
    | succ k =>
      have hl : (sv p :: (n.cells nv).toList).length = 11 := rfl
      have h3 := EntL.cons (p := p) h1 (ih k)
      obtain ⟨A, hA⟩ : ∃ A, sv p :: (n.cells nv).toList = A := ⟨_, rfl⟩
      rw [hA] at hl h3 ⊢
      rw [k_f, List.take_append, List.take_of_length_le (l := A) (by omega), hl, show (k + 1) * 11 - 11 = k * 11 by omega]
      exact h3
theorem EntL.drop {P : List PRow} {l : NoL} {xs : List Value} (h : EntL P l xs) : ∀ k, EntL P (l.drop k) (xs.drop (k * 11)) := by
  induction h with
  | nil => intro k; simp; exact .nil
  | @cons p n nv l xs h1 h2 ih =>
    intro k
    cases k with
    | zero => rw [Nat.zero_mul]; exact .cons h1 h2
    | succ k =>
      have hl : (sv p :: (n.cells nv).toList).length = 11 := rfl
      have h3 := ih k
      obtain ⟨A, hA⟩ : ∃ A, sv p :: (n.cells nv).toList = A := ⟨_, rfl⟩
      rw [hA] at hl ⊢
      rw [k_e, List.drop_append, List.drop_of_length_le (l := A) (by omega), hl, List.nil_append, show (k + 1) * 11 - 11 = k * 11 by omega]
      exact h3
theorem EntL.one {w0 w : World} {R : List Thing} {rows : List (Value × Bs)} {P : List PRow} {l : NoL} {xs : List Value} (hS : Sep w0 w (ThPool w0 P :: R) rows) (h : EntL P l xs) : ∀ u ∈ xs, u.oneCell' = true := by
  induction h with
  | nil => intro u hu; cases hu
  | @cons p n nv l xs h1 h2 ih =>
    intro u hu
    obtain ⟨E, hE⟩ := hS.poolGet h1
    obtain ⟨a, m, c, hnv, -⟩ := ReadRow.some hE
    have hnv : nv = .slice a m c := hnv
    rcases List.mem_append.1 hu with hu | hu
    · rcases List.mem_cons.1 hu with rfl | hu
      · rfl
      · subst hnv
        simp only [NodeS.cells, List.mem_cons, List.not_mem_nil, or_false] at hu
        rcases hu with rfl | rfl | rfl | rfl | rfl | rfl | rfl | rfl | rfl | rfl <;> rfl
    · exact ih u hu
end Go.Av
namespace Go.Proofs.YtbakgoncfggidaaGreatDoor
open Go.RowKit Go.Av
section
variable {w0 w : World} {b : Nat} {S : TreeS} {P P' : List PRow} {R : List Thing} {rows : List (Value × Bs)}
end
end Go.Proofs.YtbakgoncfggidaaGreatDoor

namespace Go.Av
open Go.RowKit
section
variable {P : Program} {w0 w : World} {R Ts Ts' : List Thing} {rows : List (Value × Bs)}
variable {ops : Array Oper} {Q : Exit → Act → World → Prop} {rest : List Oper} {a : Act} {dst : Option Tmp} {tyy : TypeId} {pos : String} {aft : Array Edge} {gg : Option (Nat × Bool)}
end
end Go.Av

namespace Go.Av
open Go.RowKit
end Go.Av

namespace Go.Av
theorem ofP_short : ∀ l : List Bs, l ≠ [] → (ofP l.dropLast).length < (ofP l).length
  | [], h => absurd rfl h
  | [x], _ => by simp [ofP]
  | x :: y :: l, _ => by
    have ih := ofP_short (y :: l) (by simp)
    rw [List.dropLast_cons_cons]
    unfold ofP at ih ⊢
    rw [List.flatMap_cons, List.flatMap_cons, List.length_append, List.length_append]
    omega
theorem parent_ne {p up : Bs} (h : parentP p = some up) : p ≠ up := by
  intro e
  unfold parentP at h
  split at h
  · cases h
  · rename_i h1
    injection h with h2
    have hne : partsP p ≠ [] := by intro e2; rw [e2] at h1; exact h1 (by decide)
    have hs := ofP_short _ hne
    rw [h2, ← e] at hs
    have hg : goodP p = true := by
      cases hh : goodP p with
      | true => rfl
      | false => exact absurd (by unfold partsP; rw [hh]; rfl) hne
    have hp : ofP (partsP p) = p := by
      cases p with
      | nil => cases hg
      | cons c r =>
        have hc : c = 47 := by
          unfold goodP at hg
          simp only [Bool.and_eq_true, decide_eq_true_eq] at hg
          exact hg.1.1.1
        unfold partsP
        rw [if_pos hg, hc]
        exact cutS_of r
    rw [hp] at hs
    omega
end Go.Av

namespace Go.Av
open Go.RowKit
theorem remS_owner (n : NodeS) (s : Bs) : (remS n s).owner = n.owner := by
  unfold remS
  split <;> rfl
theorem of_mem {S : TreeS} {sess : Int} {p : Bs} : p ∈ ofT S sess ↔ ∃ n, (p, n) ∈ S.l ∧ 0 < sess ∧ n.owner = sess := by
  unfold ofT
  rw [List.mem_map]
  constructor
  · rintro ⟨⟨k, n⟩, he, rfl⟩
    have := List.mem_filter.1 he
    simp at this
    exact ⟨n, this.1, this.2⟩
  · rintro ⟨n, h1, h2, h3⟩
    exact ⟨(p, n), List.mem_filter.2 ⟨h1, by simp [h2, h3]⟩, rfl⟩
end Go.Av

namespace Go.Av
open Go.RowKit
theorem look_cons (p : Bs) (e : Bs × NodeS) (l : NoL) : lookT p (e :: l) = if e.1 = p then some e.2 else lookT p l := by
  unfold lookT
  rw [List.find?_cons]
  by_cases h : e.1 = p
  · simp [h]
  · simp [h]
theorem look_set (p q : Bs) (n : NodeS) : ∀ l : NoL, lookT p (setT q n l) = if p = q then (lookT q l).map (fun _ => n) else lookT p l
  | [] => by
    unfold setT
    by_cases h : p = q
    · rw [if_pos h]; rfl
    · rw [if_neg h]; rfl
  | e :: l => by
    have ih := look_set p q n l
    have hs : setT q n (e :: l) = (if e.1 = q then (e.1, n) else e) :: setT q n l := rfl
    rw [hs, look_cons, look_cons, look_cons, ih]
    by_cases he : e.1 = q
    · rw [if_pos he, if_pos he]
      by_cases h : p = q
      · rw [if_pos (by rw [he, h]), if_pos h]; rfl
      · rw [if_neg (by rw [he]; exact fun hh => h hh.symm), if_neg h, if_neg h, if_neg (by rw [he]; exact fun hh => h hh.symm)]
    · rw [if_neg he, if_neg he]
      by_cases h : p = q
      · rw [if_pos h, if_pos h, if_neg (by rw [h]; exact he)]
      · rw [if_neg h, if_neg h]
theorem look_del (p q : Bs) : ∀ l : NoL, lookT p (delT q l) = if p = q then none else lookT p l
  | [] => by
    by_cases h : p = q
    · rw [if_pos h]; rfl
    · rw [if_neg h]; rfl
  | e :: l => by
    have ih := look_del p q l
    by_cases he : e.1 = q
    · have hs : delT q (e :: l) = delT q l := by unfold delT; rw [List.filter_cons, if_neg (by simp [he])]
      rw [hs, ih, look_cons]
      by_cases h : p = q
      · rw [if_pos h, if_pos h]
      · rw [if_neg h, if_neg h, if_neg (by rw [he]; exact fun hh => h hh.symm)]
    · have hs : delT q (e :: l) = e :: delT q l := by unfold delT; rw [List.filter_cons, if_pos (by simp [he])]
      rw [hs, look_cons, look_cons, ih]
      by_cases h : p = q
      · rw [if_pos h, if_pos h, if_neg (by rw [h]; exact he)]
      · rw [if_neg h, if_neg h]
theorem look_ins (p q : Bs) (n : NodeS) {l : NoL} (hr : RiseT l) (hq : lookT q l = none) : lookT p (insT q n l) = if p = q then some n else lookT p l := by
  have h2 := rise_nodup (insT_rise (n := n) hr hq)
  by_cases h : p = q
  · rw [if_pos h, h]
    exact (look_mem h2).2 ((insT_perm q n l).mem_iff.2 k_s)
  · rw [if_neg h]
    cases hp : lookT p l with
    | some m => exact (look_mem h2).2 ((insT_perm q n l).mem_iff.2 (k_n _ ((look_mem (rise_nodup hr)).1 hp)))
    | none =>
      refine look_not.2 fun e he => ?_
      rcases mem_ins he with rfl | he
      · exact fun hh => h hh.symm
      · exact look_not.1 hp e he
theorem look_up (p q : Bs) (f : NodeS → NodeS) (l : NoL) : lookT p (atUp q f l) = if parentP q = some p then (lookT p l).map f else lookT p l := by
  unfold atUp
  cases hq : parentP q with
  | none => rw [if_neg (by simp)]
  | some u =>
    dsimp only
    cases hu : lookT u l with
    | none =>
      dsimp only
      by_cases h : u = p
      · rw [if_pos (by rw [h]), ← h, hu]; rfl
      · rw [if_neg (by simpa using h)]
    | some m =>
      dsimp only
      rw [look_set]
      by_cases h : p = u
      · rw [if_pos h, if_pos (by rw [h]), h, hu]; rfl
      · rw [if_neg h, if_neg (by simpa using fun hh => h hh.symm)]
theorem look_lay (p q : Bs) (n : NodeS) {l : NoL} (hr : RiseT l) (hq : lookT q l = none) :
    lookT p (layT q n l) = if p = q then some n else if parentP q = some p then (lookT p l).map (fun m => addS m (nameP q)) else lookT p l := by
  unfold layT
  rw [look_up, look_ins p q n hr hq]
  by_cases h : p = q
  · rw [if_pos h, if_pos h, if_neg (by rw [h]; exact fun hh => parent_ne hh rfl)]
  · rw [if_neg h, if_neg h]
theorem look_rem (p q : Bs) (l : NoL) : lookT p (remT q l) = if p = q then none else if parentP q = some p then (lookT p l).map (fun m => remS m (nameP q)) else lookT p l := by
  unfold remT
  rw [look_up, look_del]
  by_cases h : p = q
  · rw [if_pos h, if_pos h, if_neg (by rw [h]; exact fun hh => parent_ne hh rfl)]
  · rw [if_neg h, if_neg h]
theorem lay_len (q : Bs) (n : NodeS) (l : NoL) : (layT q n l).length = l.length + 1 := by unfold layT; rw [atUp_len, insT_len]
theorem del_len1 {p : Bs} {n : NodeS} : ∀ {l : NoL}, (l.map (·.1)).Nodup → lookT p l = some n → (delT p l).length + 1 = l.length
  | [], _, h => by cases h
  | e :: l, hn, h => by
    rw [List.map_cons, List.nodup_cons] at hn
    rw [look_cons] at h
    by_cases he : e.1 = p
    · have hs : delT p (e :: l) = delT p l := by unfold delT; rw [List.filter_cons, if_neg (by simp [he])]
      have : lookT p l = none := look_not.2 fun x hx hh => hn.1 (by rw [he, ← hh]; exact List.mem_map_of_mem hx)
      rw [hs, delT_none this]
      rfl
    · rw [if_neg he] at h
      have hs : delT p (e :: l) = e :: delT p l := by unfold delT; rw [List.filter_cons, if_pos (by simp [he])]
      rw [hs, List.length_cons, List.length_cons, del_len1 hn.2 h]
theorem rem_len1 {p : Bs} {n : NodeS} {l : NoL} (hr : RiseT l) (h : lookT p l = some n) : (remT p l).length + 1 = l.length := by
  unfold remT; rw [atUp_len]; exact del_len1 (rise_nodup hr) h
theorem rem_len (p : Bs) (l : NoL) : (remT p l).length ≤ l.length := by
  unfold remT; rw [atUp_len]; exact List.length_filter_le _ _
theorem pur_len : ∀ (l : List Bs) (S : TreeS), (purT l S).l.length ≤ S.l.length
  | [], _ => Nat.le_refl _
  | p :: l, S => Nat.le_trans (pur_len l { S with l := remT p S.l }) (rem_len p S.l)
theorem do_len (S : TreeS) (o : OpS) (sess zxid : Int) : (doT S o sess zxid).2.l.length ≤ S.l.length + 1 := by
  unfold doT
  split
  · exact Nat.le_succ _
  · split
    · exact Nat.le_succ _
    · split
      · unfold createT
        split
        · exact Nat.le_succ _
        · show (layT _ _ _).length ≤ _
          unfold layT
          rw [atUp_len, insT_len]
          exact Nat.le_refl _
      · split
        · unfold changeT
          split
          · exact Nat.le_succ _
          · split
            · exact Nat.le_succ _
            · split
              · exact Nat.le_succ _
              · split
                · show (remT _ _).length ≤ _
                  unfold remT
                  rw [atUp_len]
                  exact Nat.le_trans (List.length_filter_le _ _) (Nat.le_succ _)
                · split
                  · show (setT _ _ _).length ≤ _
                    rw [setT_len]
                    exact Nat.le_succ _
                  · exact Nat.le_succ _
        · exact Nat.le_succ _
theorem cutS_no47 : ∀ (l : Bs), ∀ x ∈ cutS l, (47 : UInt8) ∉ x
  | [], x, h => by
    rw [show cutS [] = [[]] from rfl, List.mem_singleton] at h
    subst h
    simp
  | c :: r, x, h => by
    have ih := cutS_no47 r
    unfold cutS at h
    split at h
    · rcases List.mem_cons.1 h with rfl | h
      · simp
      · exact ih x h
    · rename_i hc
      split at h
      · rename_i h0; exact absurd h0 (cutS_ne r)
      · rename_i y t hy
        rw [hy] at ih
        rcases List.mem_cons.1 h with rfl | h
        · intro hh
          rcases List.mem_cons.1 hh with hh | hh
          · exact hc hh.symm
          · exact ih y k_s hh
        · exact ih x (k_n _ h)
theorem cutS_join : ∀ (r : List Bs) (x : Bs), (∀ y ∈ x :: r, (47 : UInt8) ∉ y) → cutS (x ++ ofP r) = x :: r
  | r, c :: x, h => by
    have h1 : (47 : UInt8) ∉ c :: x := h _ k_s
    have ih := cutS_join r x (fun y hy => by
      rcases List.mem_cons.1 hy with rfl | hy
      · exact fun hh => h1 (k_n _ hh)
      · exact h y (k_n _ hy))
    rw [List.cons_append]
    unfold cutS
    rw [if_neg (fun hc => h1 (by rw [← hc]; exact k_s)), ih]
  | [], [], _ => rfl
  | y :: r, [], h => by
    have ih := cutS_join r y (fun z hz => h z (k_n _ hz))
    have e : ([] : Bs) ++ ofP (y :: r) = 47 :: (y ++ ofP r) := rfl
    rw [e]
    unfold cutS
    rw [if_pos rfl, ih]
theorem parent_good {p u : Bs} (h : parentP p = some u) : goodP u = true := by
  have hl := parent_len h
  unfold parentP at h
  split at h
  · cases h
  · rename_i h1
    injection h with h
    have hg : goodP p = true := parts_good (by intro e; rw [e] at h1; exact h1 (by decide))
    have hc : partsP p = cutS (p.drop 1) := by unfold partsP; rw [if_pos hg]
    have hnames : ∀ x ∈ partsP p, nameS x = true := by
      rw [hc]
      cases p with
      | nil => cases hg
      | cons c r =>
        unfold goodP at hg
        simp only [Bool.and_eq_true, decide_eq_true_eq] at hg
        exact List.all_eq_true.1 hg.1.2
    have hfew : (partsP p).length ≤ 8 := by
      rw [hc]
      cases p with
      | nil => cases hg
      | cons c r =>
        unfold goodP at hg
        simp only [Bool.and_eq_true, decide_eq_true_eq] at hg
        exact hg.2
    cases hd : (partsP p).dropLast with
    | nil =>
      exfalso
      have := congrArg List.length hd
      rw [List.length_dropLast] at this
      simp at this
      omega
    | cons x r =>
      rw [hd] at h
      have hin : ∀ y ∈ x :: r, y ∈ partsP p := fun y hy => List.dropLast_subset _ (by rw [hd]; exact hy)
      have he : u = 47 :: (x ++ ofP r) := by rw [← h]; rfl
      have hcut : cutS (x ++ ofP r) = x :: r := cutS_join r x fun y hy => cutS_no47 (p.drop 1) y (by rw [← hc]; exact hin y hy)
      have hlen : (x :: r).length ≤ 8 := by
        rw [← hd, List.length_dropLast]; omega
      rw [he] at hl ⊢
      unfold goodP
      dsimp only
      rw [hcut]
      simp only [Bool.and_eq_true, decide_eq_true_eq]
      exact ⟨⟨⟨trivial, by simpa using hl⟩, List.all_eq_true.2 fun y hy => hnames y (hin y hy)⟩, hlen⟩
end Go.Av

namespace Go.Av
open Go.RowKit
def FarW (W : List Bs) (p : Bs) : Prop := ∀ q ∈ W, nearS p q = false
theorem FarW.no {W : List Bs} {p : Bs} (h : FarW W p) : p ∉ W ∧ (∀ u, parentP p = some u → u ∉ W) ∧ ∀ q ∈ W, parentP q ≠ some p := by
  refine ⟨fun hp => ?_, fun u hu hm => ?_, fun q hq he => ?_⟩
  · have := h p hp; unfold nearS at this; simp at this
  · have := h u hm; unfold nearS at this; rw [hu] at this; simp at this
  · have := h q hq; unfold nearS at this; rw [he] at this; simp at this
structure Keep (W : List Bs) (Y Y' : TreeS) : Prop where
  at_ : ∀ p ∈ W, lookT p Y'.l = lookT p Y.l
  kid : ∀ p ∈ W, ∀ q, parentP q = some p → (lookT q Y'.l).isSome = (lookT q Y.l).isSome
  up : ∀ p ∈ W, ∀ u, parentP p = some u → ∀ n, lookT u Y.l = some n → ∃ n', lookT u Y'.l = some n' ∧ n'.owner = n.owner
theorem Keep.rfl (W : List Bs) (Y : TreeS) : Keep W Y Y := ⟨fun _ _ => _root_.rfl, fun _ _ _ _ => _root_.rfl, fun _ _ _ _ n h => ⟨n, h, _root_.rfl⟩⟩
theorem Keep.trans {W : List Bs} {X Y Z : TreeS} (h : Keep W X Y) (h2 : Keep W Y Z) : Keep W X Z :=
  ⟨fun p hp => (h2.at_ p hp).trans (h.at_ p hp), fun p hp q hq => (h2.kid p hp q hq).trans (h.kid p hp q hq), fun p hp u hu n hn => by
    obtain ⟨n1, a1, a2⟩ := h.up p hp u hu n hn
    obtain ⟨n2, b1, b2⟩ := h2.up p hp u hu n1 a1
    exact ⟨n2, b1, b2.trans a2⟩⟩
theorem addS_owner (n : NodeS) (s : Bs) : (addS n s).owner = n.owner := by unfold addS; split <;> rfl
theorem keep_lay {W : List Bs} {S : TreeS} {q : Bs} {n : NodeS} (hr : RiseT S.l) (h0 : lookT q S.l = none) (h1 : q ∉ W) (h2 : ∀ u, parentP q = some u → u ∉ W) : Keep W S { S with l := layT q n S.l } := by
  refine ⟨fun p hp => ?_, fun p hp k hk => ?_, fun p hp u hu m hm => ?_⟩
  · rw [look_lay p q n hr h0, if_neg (fun e => h1 (by rw [← e]; exact hp)), if_neg (fun e => h2 p e hp)]
  · rw [look_lay k q n hr h0, if_neg (fun e => h2 p (by rw [← e]; exact hk) hp)]
    split
    · cases lookT k S.l <;> rfl
    · rfl
  · rw [look_lay u q n hr h0, if_neg (fun e => by rw [e, h0] at hm; cases hm)]
    split
    · rw [hm]; exact ⟨_, rfl, addS_owner _ _⟩
    · exact ⟨m, hm, rfl⟩
theorem keep_rem {W : List Bs} {S : TreeS} {q : Bs} (h : FarW W q) : Keep W S { S with l := remT q S.l } := by
  obtain ⟨h1, h2, h3⟩ := h.no
  refine ⟨fun p hp => ?_, fun p hp k hk => ?_, fun p hp u hu m hm => ?_⟩
  · rw [look_rem p q, if_neg (fun e => h1 (by rw [← e]; exact hp)), if_neg (fun e => h2 p e hp)]
  · rw [look_rem k q, if_neg (fun e => h2 p (by rw [← e]; exact hk) hp)]
    split
    · cases lookT k S.l <;> rfl
    · rfl
  · rw [look_rem u q, if_neg (fun e => h3 p hp (by rw [← e]; exact hu))]
    split
    · rw [hm]; exact ⟨_, rfl, remS_owner _ _⟩
    · exact ⟨m, hm, rfl⟩
theorem keep_set {W : List Bs} {S : TreeS} {q : Bs} {n n0 : NodeS} (h1 : q ∉ W) (h0 : lookT q S.l = some n0) (ho : n.owner = n0.owner) : Keep W S { S with l := setT q n S.l } := by
  refine ⟨fun p hp => ?_, fun p hp k hk => ?_, fun p hp u hu m hm => ?_⟩
  · rw [look_set p q, if_neg (fun e => h1 (by rw [← e]; exact hp))]
  · rw [look_set k q]
    split
    · rename_i e; rw [e]; cases lookT q S.l <;> rfl
    · rfl
  · rw [look_set u q]
    split
    · rename_i e
      rw [e, h0] at hm
      injection hm with hm
      rw [h0]
      exact ⟨_, rfl, by rw [← hm]; exact ho⟩
    · exact ⟨m, hm, rfl⟩
theorem place_where {S : TreeS} {o : OpS} (h : (placeT S o).1 = 0) :
    lookT (placeT S o).2 S.l = none ∧ (S.l.length : Int) < S.room ∧ parentP (placeT S o).2 = parentP o.p ∧ ((placeT S o).2 = o.p ∨ ∃ up m, parentP o.p = some up ∧ seqF o.flags = true ∧ lookT up S.l = some m ∧ numberP o.p m.next = some (placeT S o).2) ∧
      ∀ up, parentP o.p = some up → ∃ m, lookT up S.l = some m ∧ m.owner = 0 := by
  have hend : ∀ p, (endT S p).1 = 0 → endT S p = (0, p) ∧ lookT p S.l = none ∧ (S.l.length : Int) < S.room := fun p h => by
    unfold endT at h ⊢
    split at h
    · cases h
    · rename_i h1
      split at h
      · cases h
      · rename_i h2
        rw [if_neg h1, if_neg h2]
        refine ⟨rfl, ?_, by omega⟩
        cases hl : lookT p S.l with
        | none => rfl
        | some _ => rw [hl] at h1; exact absurd rfl h1
  unfold placeT at h ⊢
  cases hup : parentP o.p with
  | none =>
    simp only [hup] at h ⊢
    obtain ⟨e1, e2, e3⟩ := hend _ h
    rw [e1]
    exact ⟨e2, e3, hup, .inl rfl, by simp⟩
  | some up =>
    simp only [hup] at h ⊢
    cases hn : lookT up S.l with
    | none => simp only [hn] at h; exact absurd h (by decide)
    | some n =>
      simp only [hn] at h ⊢
      by_cases how : n.owner ≠ 0
      · rw [if_pos how] at h; exact absurd h (by decide)
      rw [if_neg how] at h ⊢
      have how : n.owner = 0 := Decidable.not_not.1 how
      have hall : ∀ up', some up = some up' → ∃ m, lookT up' S.l = some m ∧ m.owner = 0 := fun up' e => by injection e with e; subst e; exact ⟨n, hn, how⟩
      by_cases hsq : seqF o.flags = true
      · rw [if_pos hsq] at h ⊢
        cases hq : numberP o.p n.next with
        | none => simp only [hq] at h; exact absurd h (by decide)
        | some q =>
          simp only [hq] at h ⊢
          obtain ⟨e1, e2, e3⟩ := hend _ h
          rw [e1]
          exact ⟨e2, e3, (number_parent hq).1.trans hup, .inr ⟨up, n, rfl, hsq, hn, hq⟩, hall⟩
      · rw [if_neg hsq] at h ⊢
        obtain ⟨e1, e2, e3⟩ := hend _ h
        rw [e1]
        exact ⟨e2, e3, hup, .inl rfl, hall⟩
theorem wants_self (o : OpS) : o.p ∈ wantsS o := by
  unfold wantsS
  split
  · simp
  · split <;> simp
theorem wants_up {o : OpS} {up : Bs} (h : parentP o.p = some up) (hk : o.kind = 1) (hs : seqF o.flags = true) : up ∈ wantsS o := by
  unfold wantsS
  rw [h]
  dsimp only
  rw [if_pos (by rw [hk, hs]; rfl)]
  simp
theorem keep_do {K : Nat} {W : List Bs} {S : TreeS} (hB : TreeB K S) {o : OpS} (hf : ∀ p ∈ wantsS o, FarW W p) (sess z : Int) : Keep W S (doT S o sess z).2 := by
  have hs := hf _ (wants_self o)
  obtain ⟨h1, h2, h3⟩ := hs.no
  unfold doT
  split
  · exact .rfl W S
  · split
    · exact .rfl W S
    · split
      · rename_i hk
        unfold createT
        split
        · exact .rfl W S
        · rename_i hz
          obtain ⟨a1, a2, a3, a4, a5⟩ := place_where (S := S) (o := o) (by omega)
          refine keep_lay hB.rise a1 ?_ (by rw [a3]; exact h2)
          rcases a4 with e | ⟨up, m, e1, e2, e3, e4⟩
          · rw [e]; exact h1
          · intro hin
            exact (hf up (wants_up e1 hk e2)).no.2.2 _ hin (by rw [a3]; exact e1)
      · split
        · unfold changeT
          split
          · exact .rfl W S
          · rename_i n hn
            split
            · exact .rfl W S
            · split
              · exact .rfl W S
              · split
                · exact keep_rem hs
                · split
                  · exact keep_set h1 hn rfl
                  · exact .rfl W S
        · exact .rfl W S
theorem keep_steps {W : List Bs} {sess z : Int} : ∀ (l : List OpS) {K : Nat} {S : TreeS}, TreeB K S → (∀ o ∈ l, ∀ p ∈ wantsS o, FarW W p) → Keep W S (stepsT sess z l S).2.1
  | [], _, S, _, _ => .rfl W S
  | o :: l, K, S, hB, hf => by
    have h1 := keep_do hB (hf o k_s) sess z
    unfold stepsT
    split
    · exact h1
    · exact h1.trans (keep_steps l (do_b hB o sess z) fun x hx => hf x (k_n _ hx))
theorem keep_many {K : Nat} {W : List Bs} {S : TreeS} (hB : TreeB K S) {l : List OpS} (hf : ∀ o ∈ l, ∀ p ∈ wantsS o, FarW W p) (sess z : Int) : Keep W S (manyT S sess z l).2.1 := by
  unfold manyT
  split
  · exact .rfl W S
  · split
    · exact .rfl W S
    · split
      · exact .rfl W S
      · exact keep_steps l hB hf
theorem keep_request {K : Nat} {W : List Bs} {S : TreeS} (hB : TreeB K S) {l : List OpS} (hf : ∀ o ∈ l, ∀ p ∈ wantsS o, FarW W p) (sess num z : Int) : Keep W S (requestT S sess num z l).2 := by
  unfold requestT
  split
  · exact .rfl W S
  · exact keep_many hB hf sess z
theorem keep_pur {W : List Bs} : ∀ (l : List Bs) {S : TreeS}, (∀ p ∈ l, FarW W p) → Keep W S (purT l S)
  | [], S, _ => .rfl W S
  | p :: l, S, hf => (keep_rem (hf p k_s)).trans (keep_pur l (S := { S with l := remT p S.l }) fun x hx => hf x (k_n _ hx))
def coreN (n : NodeS) : NodeS := { n with made := 0, changed := 0 }
theorem core_add (n : NodeS) (s : Bs) : coreN (addS n s) = addS (coreN n) s := by unfold addS coreN; dsimp only; split <;> rfl
theorem core_rem (n : NodeS) (s : Bs) : coreN (remS n s) = remS (coreN n) s := by unfold remS coreN; dsimp only; split <;> rfl
theorem core_write {n n' : NodeS} (h : coreN n = coreN n') (z z' : Int) (d : ByteArray) : coreN (writeS n z d) = coreN (writeS n' z' d) := by
  unfold coreN at h
  unfold coreN writeS
  injection h with h1 h2 h3 h4 h5 h6 h7 h8
  dsimp only
  rw [h3, h4, h5, h7, h8]
structure Sim (W : List Bs) (X Y : TreeS) : Prop where
  at_ : ∀ p ∈ W, (lookT p X.l).map coreN = (lookT p Y.l).map coreN
  kid : ∀ p ∈ W, ∀ q, parentP q = some p → (lookT q X.l).isSome = (lookT q Y.l).isSome
  up : ∀ p ∈ W, ∀ u, parentP p = some u → ∀ n, lookT u X.l = some n → ∃ n', lookT u Y.l = some n' ∧ n'.owner = n.owner
theorem Sim.rfl (W : List Bs) (X : TreeS) : Sim W X X := ⟨fun _ _ => _root_.rfl, fun _ _ _ _ => _root_.rfl, fun _ _ _ _ n h => ⟨n, h, _root_.rfl⟩⟩
theorem Sim.keep {W : List Bs} {X Y Y' : TreeS} (h : Sim W X Y) (h2 : Keep W Y Y') : Sim W X Y' :=
  ⟨fun p hp => by rw [h2.at_ p hp]; exact h.at_ p hp, fun p hp q hq => by rw [h2.kid p hp q hq]; exact h.kid p hp q hq, fun p hp u hu n hn => by
    obtain ⟨n1, a1, a2⟩ := h.up p hp u hu n hn
    obtain ⟨n2, b1, b2⟩ := h2.up p hp u hu n1 a1
    exact ⟨n2, b1, b2.trans a2⟩⟩
theorem Sim.node {W : List Bs} {X Y : TreeS} (h : Sim W X Y) {p : Bs} (hp : p ∈ W) {n : NodeS} (hn : lookT p X.l = some n) : ∃ n', lookT p Y.l = some n' ∧ coreN n = coreN n' := by
  have h1 := h.at_ p hp
  rw [hn] at h1
  cases hy : lookT p Y.l with
  | none => rw [hy] at h1; cases h1
  | some n' => rw [hy] at h1; injection h1 with h1; exact ⟨n', _root_.rfl, h1⟩
theorem Sim.none {W : List Bs} {X Y : TreeS} (h : Sim W X Y) {p : Bs} (hp : p ∈ W) (hn : lookT p X.l = none) : lookT p Y.l = none := by
  have h1 := h.at_ p hp
  rw [hn] at h1
  cases hy : lookT p Y.l with
  | none => rfl
  | some n' => rw [hy] at h1; cases h1
theorem sim_lay {W : List Bs} {X Y : TreeS} (h : Sim W X Y) (hx : RiseT X.l) (hy : RiseT Y.l) {q : Bs} (h1 : lookT q X.l = none) (h2 : lookT q Y.l = none) {n n' : NodeS} (hn : coreN n = coreN n') :
    Sim W { X with l := layT q n X.l } { Y with l := layT q n' Y.l } := by
  refine ⟨fun p hp => ?_, fun p hp k hk => ?_, fun p hp u hu m hm => ?_⟩
  · rw [look_lay p q n hx h1, look_lay p q n' hy h2]
    split
    · exact congrArg some hn
    · split
      · have := h.at_ p hp
        rw [Option.map_map, Option.map_map]
        have e : (coreN ∘ fun m => addS m (nameP q)) = (fun m => addS m (nameP q)) ∘ coreN := by funext m; exact core_add m _
        rw [e, ← Option.map_map, ← Option.map_map, this]
      · exact h.at_ p hp
  · rw [look_lay k q n hx h1, look_lay k q n' hy h2]
    split
    · rfl
    · split
      · rw [Option.isSome_map, Option.isSome_map]; exact h.kid p hp k hk
      · exact h.kid p hp k hk
  · have hm : lookT u (layT q n X.l) = some m := hm
    show ∃ n'_1, lookT u (layT q n' Y.l) = some n'_1 ∧ _
    rw [look_lay u q n hx h1] at hm
    rw [look_lay u q n' hy h2]
    split at hm
    · rename_i e
      rw [if_pos e]
      injection hm with hm
      refine ⟨n', rfl, ?_⟩
      rw [← hm]
      exact (congrArg NodeS.owner hn).symm
    · rename_i e
      rw [if_neg e]
      split at hm
      · rename_i e2
        rw [if_pos e2]
        obtain ⟨m0, hm0, hm1⟩ := Option.map_eq_some_iff.1 hm
        obtain ⟨n1, a1, a2⟩ := h.up p hp u hu m0 hm0
        rw [a1]
        exact ⟨_, rfl, by rw [addS_owner, a2, ← hm1, addS_owner]⟩
      · rename_i e2
        rw [if_neg e2]
        exact h.up p hp u hu m hm
theorem sim_rem {W : List Bs} {X Y : TreeS} (h : Sim W X Y) (q : Bs) : Sim W { X with l := remT q X.l } { Y with l := remT q Y.l } := by
  refine ⟨fun p hp => ?_, fun p hp k hk => ?_, fun p hp u hu m hm => ?_⟩
  · rw [look_rem p q, look_rem p q]
    split
    · rfl
    · split
      · have := h.at_ p hp
        rw [Option.map_map, Option.map_map]
        have e : (coreN ∘ fun m => remS m (nameP q)) = (fun m => remS m (nameP q)) ∘ coreN := by funext m; exact core_rem m _
        rw [e, ← Option.map_map, ← Option.map_map, this]
      · exact h.at_ p hp
  · rw [look_rem k q, look_rem k q]
    split
    · rfl
    · split
      · rw [Option.isSome_map, Option.isSome_map]; exact h.kid p hp k hk
      · exact h.kid p hp k hk
  · have hm : lookT u (remT q X.l) = some m := hm
    show ∃ n'_1, lookT u (remT q Y.l) = some n'_1 ∧ _
    rw [look_rem u q] at hm
    rw [look_rem u q]
    split at hm
    · cases hm
    · rename_i e
      rw [if_neg e]
      split at hm
      · rename_i e2
        rw [if_pos e2]
        obtain ⟨m0, hm0, hm1⟩ := Option.map_eq_some_iff.1 hm
        obtain ⟨n1, a1, a2⟩ := h.up p hp u hu m0 hm0
        rw [a1]
        exact ⟨_, rfl, by rw [remS_owner, a2, ← hm1, remS_owner]⟩
      · rename_i e2
        rw [if_neg e2]
        exact h.up p hp u hu m hm
theorem sim_set {W : List Bs} {X Y : TreeS} (h : Sim W X Y) {q : Bs} {n n' m0 m1 : NodeS} (h1 : lookT q X.l = some m0) (h2 : lookT q Y.l = some m1) (hn : coreN n = coreN n') :
    Sim W { X with l := setT q n X.l } { Y with l := setT q n' Y.l } := by
  refine ⟨fun p hp => ?_, fun p hp k hk => ?_, fun p hp u hu m hm => ?_⟩
  · rw [look_set p q, look_set p q]
    split
    · rw [h1, h2]; exact congrArg some hn
    · exact h.at_ p hp
  · rw [look_set k q, look_set k q]
    split
    · rw [h1, h2]; rfl
    · exact h.kid p hp k hk
  · have hm : lookT u (setT q n X.l) = some m := hm
    show ∃ n'_1, lookT u (setT q n' Y.l) = some n'_1 ∧ _
    rw [look_set u q] at hm
    rw [look_set u q]
    split at hm
    · rename_i e
      rw [if_pos e]
      rw [h1] at hm
      rw [h2]
      injection hm with hm
      refine ⟨_, rfl, ?_⟩
      rw [← hm]
      exact (congrArg NodeS.owner hn).symm
    · rename_i e
      rw [if_neg e]
      exact h.up p hp u hu m hm
theorem end_ok {S : TreeS} {p : Bs} (h : lookT p S.l = none) (hl : (S.l.length : Int) < S.room) : endT S p = (0, p) := by
  unfold endT
  rw [if_neg (by rw [h]; decide), if_neg (by omega)]
theorem sim_place {W : List Bs} {X Y : TreeS} (h : Sim W X Y) {o : OpS} (hw : ∀ p ∈ wantsS o, p ∈ W) (hk : o.kind = 1) (h0 : (placeT X o).1 = 0) (hl : (Y.l.length : Int) < Y.room) : placeT Y o = placeT X o ∧ lookT (placeT X o).2 Y.l = none := by
  obtain ⟨a1, -, a3, a4, a5⟩ := place_where h0
  have hp := hw _ (wants_self o)
  have hno : lookT (placeT X o).2 Y.l = none := by
    rcases a4 with e | ⟨up, m, e1, e2, e3, e4⟩
    · rw [e] at a1 ⊢; exact h.none hp a1
    · have := h.kid up (hw _ (wants_up e1 hk e2)) (placeT X o).2 (a3.trans e1)
      rw [a1] at this
      cases hy : lookT (placeT X o).2 Y.l with
      | none => rfl
      | some _ => rw [hy] at this; cases this
  refine ⟨?_, hno⟩
  have hx : placeT X o = (0, (placeT X o).2) := Prod.ext h0 rfl
  rw [hx]
  obtain ⟨qq, hqq⟩ : ∃ q, (placeT X o).2 = q := ⟨_, rfl⟩
  rw [hqq] at hno a4 ⊢
  rcases hpp : parentP o.p with - | up
  · have e : qq = o.p := by
      rcases a4 with e | ⟨up, m, e1, -⟩
      · exact e
      · rw [hpp] at e1; cases e1
    rw [e] at hno ⊢
    unfold placeT
    rw [hpp]
    exact end_ok hno hl
  · obtain ⟨m, b1, b2⟩ := a5 up hpp
    obtain ⟨m', c1, c2⟩ := h.up _ hp up hpp m b1
    have c3 : m'.owner = 0 := c2.trans b2
    by_cases hs : seqF o.flags = true
    · have hup := hw _ (wants_up hpp hk hs)
      obtain ⟨m2, d1, d2⟩ := h.node hup b1
      rw [c1] at d1
      injection d1 with d1
      have hnx : m'.next = m.next := by rw [d1]; exact (congrArg NodeS.next d2).symm
      have hq : numberP o.p m.next = some qq := by
        rcases a4 with e | ⟨up', m3, e1, -, e3, e4⟩
        · -- the number is there: the place is not the path itself
          have hz := h0
          have hee : placeT X o = match numberP o.p m.next with | none => (1, []) | some q => endT X q := by
            unfold placeT
            rw [hpp]
            dsimp only
            rw [b1]
            dsimp only
            rw [if_neg (fun hh => hh b2), if_pos hs]
            rfl
          rw [hee] at hz
          cases hq : numberP o.p m.next with
          | none => rw [hq] at hz; cases hz
          | some q =>
            rw [hq] at hz
            have := end_g hz
            rw [← hqq, hee, hq]
            exact congrArg some this.symm
        · rw [hpp] at e1
          injection e1 with e1
          rw [← e1, b1] at e3
          injection e3 with e3
          rw [e3]; exact e4
      unfold placeT
      rw [hpp]
      dsimp only
      rw [c1]
      dsimp only
      rw [if_neg (fun hh => hh c3), if_pos hs, hnx, hq]
      dsimp only
      exact end_ok hno hl
    · have e : qq = o.p := by
        rcases a4 with e | ⟨up', m3, -, e2, -⟩
        · exact e
        · exact absurd e2 hs
      rw [e] at hno ⊢
      unfold placeT
      rw [hpp]
      dsimp only
      rw [c1]
      dsimp only
      rw [if_neg (fun hh => hh c3), if_neg hs]
      exact end_ok hno hl
theorem sim_do {K K' : Nat} {W : List Bs} {X Y : TreeS} (h : Sim W X Y) (hx : TreeB K X) (hy : TreeB K' Y) {o : OpS} (hw : ∀ p ∈ wantsS o, p ∈ W) {sess z z' : Int} (he : (doT X o sess z).1.err = 0) (hz : 0 ≤ z')
    (hl : o.kind = 1 → (Y.l.length : Int) < Y.room) :
    (doT Y o sess z').1.err = 0 ∧ (doT Y o sess z').1.path = (doT X o sess z).1.path ∧ Sim W (doT X o sess z).2 (doT Y o sess z').2 ∧ ((doT Y o sess z').2.l.length : Int) - Y.l.length = ((doT X o sess z).2.l.length : Int) - X.l.length := by
  have hp := hw _ (wants_self o)
  unfold doT at he ⊢
  by_cases h1 : goodE o ≠ 0
  · rw [if_pos h1] at he; exact absurd he h1
  rw [if_neg h1] at he
  rw [if_neg h1, if_neg h1]
  by_cases h2 : sess < 1 ∨ z < 0
  · rw [if_pos h2] at he; exact absurd he (by show (1 : Int) ≠ 0; decide)
  rw [if_neg h2] at he
  rw [if_neg h2, if_neg (show ¬ (sess < 1 ∨ z' < 0) by omega)]
  by_cases h3 : o.kind = 1
  · rw [if_pos h3] at he
    rw [if_pos h3, if_pos h3]
    unfold createT at he ⊢
    by_cases h4 : (placeT X o).1 ≠ 0
    · rw [if_pos h4] at he; exact absurd he h4
    have h4' : (placeT X o).1 = 0 := by omega
    obtain ⟨b1, b2⟩ := sim_place h hw h3 h4' (hl h3)
    rw [if_neg h4, b1, if_neg h4]
    refine ⟨rfl, rfl, ?_, ?_⟩
    · exact sim_lay h hx.rise hy.rise (place_where h4').1 b2 rfl
    · show ((layT _ _ _).length : Int) - _ = ((layT _ _ _).length : Int) - _
      rw [lay_len, lay_len]
      omega
  rw [if_neg h3] at he
  rw [if_neg h3, if_neg h3]
  by_cases h4 : o.kind = 2 ∨ o.kind = 3 ∨ o.kind = 4
  · rw [if_pos h4] at he
    rw [if_pos h4, if_pos h4]
    unfold changeT at he ⊢
    cases hn : lookT o.p X.l with
    | none => rw [hn] at he; exact absurd he (by show (4 : Int) ≠ 0; decide)
    | some n =>
      obtain ⟨n', c1, c2⟩ := h.node hp hn
      rw [hn] at he
      rw [c1]
      dsimp only at he ⊢
      have hwr : wrongS o n' = wrongS o n := by unfold wrongS; rw [show n'.ver = n.ver from (congrArg NodeS.ver c2).symm]
      have hnm : n'.names = n.names := (congrArg NodeS.names c2).symm
      rw [hwr, hnm]
      by_cases g1 : wrongS o n = true
      · rw [if_pos g1] at he; exact absurd he (by show (6 : Int) ≠ 0; decide)
      rw [if_neg g1] at he
      rw [if_neg g1, if_neg g1]
      by_cases g2 : o.kind = 2 ∧ 0 < n.names.length
      · rw [if_pos g2] at he; exact absurd he (by show (7 : Int) ≠ 0; decide)
      rw [if_neg g2, if_neg g2]
      by_cases g3 : o.kind = 2
      · rw [if_pos g3, if_pos g3]
        refine ⟨rfl, rfl, sim_rem h o.p, ?_⟩
        show ((remT _ _).length : Int) - _ = ((remT _ _).length : Int) - _
        have e1 := rem_len1 hx.rise hn
        have e2 := rem_len1 hy.rise c1
        omega
      rw [if_neg g3, if_neg g3]
      by_cases g4 : o.kind = 3
      · rw [if_pos g4, if_pos g4]
        refine ⟨rfl, rfl, sim_set h hn c1 (core_write c2 _ _ _), ?_⟩
        show ((setT _ _ _).length : Int) - _ = ((setT _ _ _).length : Int) - _
        rw [setT_len, setT_len]
        omega
      rw [if_neg g4, if_neg g4]
      exact ⟨rfl, rfl, h, by dsimp only; omega⟩
  rw [if_neg h4] at he
  rw [if_neg h4, if_neg h4]
  unfold readT at he ⊢
  cases hn : lookT o.p X.l with
  | none => rw [hn] at he; exact absurd he (by show (4 : Int) ≠ 0; decide)
  | some n =>
    obtain ⟨n', c1, c2⟩ := h.node hp hn
    rw [c1]
    exact ⟨rfl, rfl, h, by dsimp only; omega⟩
theorem do_len1 (S : TreeS) (o : OpS) (sess z : Int) : (doT S o sess z).2.l.length ≤ S.l.length + (if o.kind = 1 then 1 else 0) := by
  by_cases hk : o.kind = 1
  · rw [if_pos hk]; exact do_len S o sess z
  · rw [if_neg hk]
    unfold doT
    by_cases h1 : goodE o ≠ 0
    · rw [if_pos h1]; exact Nat.le_refl _
    rw [if_neg h1]
    by_cases h2 : sess < 1 ∨ z < 0
    · rw [if_pos h2]; exact Nat.le_refl _
    rw [if_neg h2, if_neg hk]
    by_cases h4 : o.kind = 2 ∨ o.kind = 3 ∨ o.kind = 4
    · rw [if_pos h4]
      unfold changeT
      split
      · exact Nat.le_refl _
      · split
        · exact Nat.le_refl _
        · split
          · exact Nat.le_refl _
          · split
            · exact rem_len _ _
            · split
              · show (setT _ _ _).length ≤ _; rw [setT_len]; exact Nat.le_refl _
              · exact Nat.le_refl _
    · rw [if_neg h4]; exact Nat.le_refl _
theorem sim_steps {W : List Bs} {sess z z' : Int} (hz : 0 ≤ z') : ∀ (l : List OpS) {K K' : Nat} {X Y : TreeS}, Sim W X Y → TreeB K X → TreeB K' Y → Y.room = X.room → (∀ o ∈ l, ∀ p ∈ wantsS o, p ∈ W) → (stepsT sess z l X).2.2 = 0 →
    (((Y.l.length + createsS l : Nat) : Int) ≤ Y.room ∨ Y.l.length ≤ X.l.length) → (stepsT sess z' l Y).2.2 = 0
  | [], _, _, _, _, _, _, _, _, _, _, _ => rfl
  | o :: l, K, K', X, Y, h, hx, hy, hr, hw, he, hl => by
    have he0 := steps_cons0 he
    have hlen : o.kind = 1 → (Y.l.length : Int) < Y.room := fun hk => by
      rcases hl with hl | hl
      · have : createsS (o :: l) = createsS l + 1 := by
          have := creates_app [o] l
          rw [creates_one, if_pos hk] at this
          have e : [o] ++ l = o :: l := rfl
          rw [e] at this; omega
        omega
      · have hxl : (X.l.length : Int) < X.room := by
          unfold doT at he0
          by_cases h1 : goodE o ≠ 0
          · rw [if_pos h1] at he0; exact absurd he0 h1
          rw [if_neg h1] at he0
          by_cases h2 : sess < 1 ∨ z < 0
          · rw [if_pos h2] at he0; exact absurd he0 (by show (1 : Int) ≠ 0; decide)
          rw [if_neg h2, if_pos hk] at he0
          unfold createT at he0
          by_cases h4 : (placeT X o).1 ≠ 0
          · rw [if_pos h4] at he0; exact absurd he0 h4
          exact (place_where (S := X) (o := o) (by omega)).2.1
        omega
    obtain ⟨a1, -, a2, a3⟩ := sim_do (z := z) h hx hy (hw o k_s) he0 hz hlen
    rw [steps_cons l he0] at he
    rw [steps_cons l a1]
    refine sim_steps hz l a2 (do_b hx o sess z) (do_b hy o sess z') ?_ (fun x hx => hw x (k_n _ hx)) he ?_
    · rw [do_room, do_room]; exact hr
    · rcases hl with hl | hl
      · left
        rw [do_room]
        have hc : createsS (o :: l) = (if o.kind = 1 then 1 else 0) + createsS l := by
          have := creates_app [o] l
          rw [creates_one] at this
          exact this
        have h5 := do_len1 Y o sess z'
        omega
      · right; omega
end Go.Av

namespace Go.Av
open Go.RowKit
def wantsL (ops : List OpS) : List Bs := ops.flatMap wantsS
theorem wants_good {o : OpS} (h : goodP o.p = true) : ∀ p ∈ wantsS o, goodP p = true := by
  intro p hp
  unfold wantsS at hp
  split at hp
  · rw [List.mem_singleton] at hp; rw [hp]; exact h
  · rename_i up hup
    split at hp
    · rcases List.mem_cons.1 hp with hp | hp
      · rw [hp]; exact h
      · rw [List.mem_singleton] at hp; rw [hp]; exact parent_good hup
    · rw [List.mem_singleton] at hp; rw [hp]; exact h
theorem good_of {o : OpS} (h : goodE o = 0) : goodP o.p = true := (formed_ok (goodE_ok h).1).2.2.1
theorem near_self (p : Bs) : nearS p p = true := by unfold nearS; simp
theorem not_blocked {H : HeldL} {who : Int} {p : Bs} (h : blocksS H who p = false) (hg : goodP p = true) : ∀ e ∈ H, e.2 ≠ who → nearS p e.1 = false := by
  intro e he hw
  unfold blocksS at h
  rw [hg, Bool.true_and] at h
  have := List.any_eq_false.1 h e he
  cases hn : nearS p e.1 with
  | false => rfl
  | true => exact absurd (by simp [hw, hn]) this
theorem block_none {H : HeldL} {id : Int} {ops : List OpS} (h : blockAt H id ops = none) : ∀ o ∈ ops, ∀ p ∈ wantsS o, blocksS H id p = false := by
  intro o ho p hp
  have h1 := List.findIdx?_eq_none_iff.1 h o ho
  have h2 := List.any_eq_false.1 h1 p hp
  simpa using h2
theorem set_mem {H : HeldL} {p : Bs} {who : Int} : (p, who) ∈ setH H p who := by
  unfold setH
  by_cases h : (H.any fun e => decide (e.1 = p)) = true
  · rw [if_pos h]
    obtain ⟨e, he, hp⟩ := List.any_eq_true.1 h
    exact List.mem_map.2 ⟨e, he, if_pos (by simpa using hp)⟩
  · rw [if_neg h]; simp
theorem set_keep {H : HeldL} {p : Bs} {who : Int} {e : Bs × Int} (he : e ∈ H) (hne : e.1 ≠ p ∨ e.2 = who) : e ∈ setH H p who := by
  unfold setH
  by_cases h : (H.any fun e => decide (e.1 = p)) = true
  · rw [if_pos h]
    refine List.mem_map.2 ⟨e, he, ?_⟩
    by_cases hp : e.1 = p
    · rw [if_pos hp]
      rcases hne with h1 | h1
      · exact absurd hp h1
      · rw [← h1, ← hp]
    · rw [if_neg hp]
  · rw [if_neg h]
    exact List.mem_append_left _ he
theorem fold_keep {who : Int} {e : Bs × Int} : ∀ (ps : List Bs) {H : HeldL}, e ∈ H → ((∀ p ∈ ps, e.1 ≠ p) ∨ e.2 = who) → e ∈ ps.foldl (fun H p => setH H p who) H
  | [], _, h, _ => h
  | p :: ps, H, h, hne => fold_keep ps (set_keep h (hne.imp (fun g => g p k_s) id)) (hne.imp (fun g q hq => g q (k_n _ hq)) id)
theorem fold_mem {who : Int} : ∀ (ps : List Bs) (H : HeldL), ∀ p ∈ ps, (p, who) ∈ ps.foldl (fun H p => setH H p who) H
  | q :: ps, H, p, hp => by
    rw [List.foldl_cons]
    rcases List.mem_cons.1 hp with rfl | hp
    · exact fold_keep ps set_mem (.inr rfl)
    · exact fold_mem ps _ p hp
theorem wrong_none {H : HeldL} {who : Int} {ps : List Bs} (h : ¬ (wrongH H who ps).isSome = true) : ∀ p ∈ ps, goodP p = true ∧ blocksS H who p = false := by
  unfold wrongH at h
  split at h
  · exact absurd rfl h
  · rename_i h1
    intro p hp
    have a := List.find?_eq_none.1 h1 p hp
    have b := List.find?_eq_none.1 (by cases hq : ps.find? (fun p => blocksS H who p) with | none => rfl | some _ => rw [hq] at h; exact absurd rfl h) p hp
    exact ⟨by simpa using a, by simpa using b⟩
theorem take_keep {H : HeldL} {who : Int} {ps : List Bs} {e : Bs × Int} (he : e ∈ H) : e ∈ takeH H who ps := by
  unfold takeH
  split
  · exact he
  · rename_i h
    refine fold_keep ps he ?_
    by_cases hw : e.2 = who
    · exact .inr hw
    · refine .inl fun p hp e1 => ?_
      obtain ⟨g1, g2⟩ := wrong_none h p hp
      have := not_blocked g2 g1 e he hw
      rw [e1, near_self] at this
      cases this
theorem takeOps_keep {id : Int} {e : Bs × Int} : ∀ (ops : List OpS) {H : HeldL}, e ∈ H → e ∈ takeOps H id ops
  | [], _, h => h
  | _ :: ops, _, h => takeOps_keep ops (take_keep h)
theorem take_own {H : HeldL} {who : Int} {ps : List Bs} (hH : ∀ e ∈ H, e.2 = who) (hg : ∀ p ∈ ps, goodP p = true) : (∀ p ∈ ps, (p, who) ∈ takeH H who ps) := by
  have hw : wrongH H who ps = none := by
    unfold wrongH
    have h1 : ps.find? (fun p => !goodP p) = none := List.find?_eq_none.2 fun p hp => by simp [hg p hp]
    rw [h1]
    refine List.find?_eq_none.2 fun p hp => ?_
    unfold blocksS
    have : (H.any fun e => e.2 != who && nearS p e.1) = false := List.any_eq_false.2 fun e he => by simp [hH e he]
    rw [this]
    simp
  unfold takeH
  rw [if_neg (by rw [hw]; decide)]
  exact fun p hp => fold_mem ps H p hp
theorem takeOps_own {id : Int} : ∀ (ops : List OpS) {H : HeldL}, (∀ e ∈ H, e.2 = id) → (∀ o ∈ ops, goodE o = 0) → ∀ p ∈ wantsL ops, (p, id) ∈ takeOps H id ops
  | o :: ops, H, hH, hg, p, hp => by
    have hgo := wants_good (good_of (hg o k_s))
    have hH' : ∀ e ∈ takeH H id (wantsS o), e.2 = id := fun e he => by
      rcases take_who e he with h | h
      · exact h
      · exact hH e h
    unfold wantsL at hp
    rw [List.flatMap_cons] at hp
    rcases List.mem_append.1 hp with hp | hp
    · exact takeOps_keep ops (take_own hH hgo p hp)
    · exact takeOps_own ops hH' (fun x hx => hg x (k_n _ hx)) p hp
theorem look_wait {W : WaitL} {id : Int} {x : WaitS} (h : lookW W id = some x) : (id, x) ∈ W := by
  unfold lookW at h
  obtain ⟨e, h1, h2⟩ := Option.map_eq_some_iff.1 h
  have h3 := List.find?_some h1
  have h4 : e.1 = id := by simpa using h3
  have h5 := List.mem_of_find?_eq_some h1
  rw [← h4, ← h2]
  exact h5
theorem look_snoc {W : WaitL} {id : Int} {x : WaitS} {e : Int × WaitS} (h : lookW W id = some x) : lookW (W ++ [e]) id = some x := by
  unfold lookW at h ⊢
  obtain ⟨y, h1, h2⟩ := Option.map_eq_some_iff.1 h
  rw [List.find?_append, h1]
  exact congrArg some h2
theorem look_last {W : WaitL} {id : Int} {x : WaitS} (h : hasW W id = false) : lookW (W ++ [(id, x)]) id = some x := by
  unfold lookW
  have : W.find? (fun e => e.1 == id) = none := List.find?_eq_none.2 fun e he => by
    have := List.any_eq_false.1 h e he
    simpa using this
  rw [List.find?_append, this]
  simp
theorem look_del7 {W : WaitL} {id i : Int} (hne : i ≠ id) : lookW (delW W id) i = lookW W i := by
  unfold lookW delW
  rw [List.find?_filter]
  congr 1
  congr 1
  funext e
  by_cases h : e.1 = i
  · simp [h, hne]
  · simp [h]
def costW (e : Int × WaitS) : Nat := if e.2.fails then 0 else createsS e.2.ops
theorem wantedW_cons (e : Int × WaitS) (W : WaitL) : wantedW (e :: W) = costW e + wantedW W := by unfold wantedW costW; rw [List.map_cons, List.sum_cons]
theorem wantedW_snoc (W : WaitL) (e : Int × WaitS) : wantedW (W ++ [e]) = wantedW W + costW e := by
  unfold wantedW costW
  rw [List.map_append, List.sum_append]
  simp
theorem wanted_del (id : Int) : ∀ W : WaitL, wantedW (delW W id) ≤ wantedW W
  | [] => Nat.le_refl _
  | e :: W => by
    have ih := wanted_del id W
    unfold delW at ih ⊢
    rw [List.filter_cons]
    split
    · rw [wantedW_cons, wantedW_cons]; omega
    · rw [wantedW_cons]; omega
theorem wanted_less {id : Int} {x : WaitS} : ∀ {W : WaitL}, lookW W id = some x → wantedW (delW W id) + costW (id, x) ≤ wantedW W
  | [], h => by cases h
  | e :: W, h => by
    by_cases he : e.1 = id
    · have h1 : lookW (e :: W) id = some e.2 := by unfold lookW; rw [List.find?_cons]; simp [he]
      rw [h1] at h
      injection h with h
      have h2 : delW (e :: W) id = delW W id := by unfold delW; rw [List.filter_cons, if_neg (by simp [he])]
      have h3 := wanted_del id W
      rw [h2, wantedW_cons]
      have h4 : costW (id, x) = costW e := by unfold costW; rw [← h]
      omega
    · have hb : (e.1 == id) = false := by simpa using he
      have h1 : lookW (e :: W) id = lookW W id := by unfold lookW; rw [List.find?_cons, hb]
      rw [h1] at h
      have ih := wanted_less h
      have h2 : delW (e :: W) id = e :: delW W id := by unfold delW; rw [List.filter_cons, if_pos (by simp [he])]
      rw [h2, wantedW_cons, wantedW_cons]
      omega
theorem wanted_ge {e : Int × WaitS} : ∀ {W : WaitL}, e ∈ W → costW e ≤ wantedW W
  | y :: W, h => by
    rw [wantedW_cons]
    rcases List.mem_cons.1 h with rfl | h
    · omega
    · have := wanted_ge h; omega
theorem creates_cons (o : OpS) (l : List OpS) : createsS (o :: l) = (if o.kind = 1 then 1 else 0) + createsS l := by
  have := creates_app [o] l
  rw [creates_one] at this
  exact this
theorem steps_add {sess z : Int} : ∀ (l : List OpS) (S : TreeS), (stepsT sess z l S).2.1.l.length ≤ S.l.length + createsS l
  | [], _ => Nat.le_refl _
  | o :: l, S => by
    have h1 := do_len1 S o sess z
    have h2 := steps_add (sess := sess) (z := z) l (doT S o sess z).2
    rw [creates_cons]
    unfold stepsT
    split
    · dsimp only; omega
    · dsimp only; omega
theorem many_add (S : TreeS) (sess z : Int) (l : List OpS) : (manyT S sess z l).2.1.l.length ≤ S.l.length + createsS l := by
  unfold manyT
  split
  · dsimp only; omega
  · split
    · dsimp only; omega
    · split
      · dsimp only; omega
      · exact steps_add l S
theorem request_add (S : TreeS) (sess num z : Int) (l : List OpS) : (requestT S sess num z l).2.l.length ≤ S.l.length + createsS l := by
  unfold requestT
  split
  · dsimp only; omega
  · exact many_add S sess z l
def OwnK (s : Int) (S S' : TreeS) : Prop := ∀ p n, lookT p S'.l = some n → n.owner = s → ∃ n0, lookT p S.l = some n0 ∧ n0.owner = s
theorem OwnK.rfl (s : Int) (S : TreeS) : OwnK s S S := fun _ n h ho => ⟨n, h, ho⟩
theorem OwnK.trans {s : Int} {X Y Z : TreeS} (h : OwnK s X Y) (h2 : OwnK s Y Z) : OwnK s X Z := fun p n hn ho => by
  obtain ⟨m, h3, h4⟩ := h2 p n hn ho
  exact h p m h3 h4
theorem own_do {K : Nat} {S : TreeS} (hB : TreeB K S) (o : OpS) {sess s : Int} (z : Int) (hs : 0 < s) (hne : s ≠ sess) : OwnK s S (doT S o sess z).2 := by
  unfold doT
  split
  · exact .rfl s S
  · split
    · exact .rfl s S
    · split
      · unfold createT
        split
        · exact .rfl s S
        · rename_i hz
          obtain ⟨a1, -⟩ := place_where (S := S) (o := o) (by omega)
          intro p n hn ho
          have hn : lookT p (layT (placeT S o).2 (createN o sess z) S.l) = some n := hn
          rw [look_lay p _ _ hB.rise a1] at hn
          split at hn
          · exfalso
            injection hn with hn
            rw [← hn] at ho
            have ho : (if ephF o.flags then sess else 0) = s := ho
            split at ho <;> omega
          · split at hn
            · obtain ⟨m, h1, h2⟩ := Option.map_eq_some_iff.1 hn
              exact ⟨m, h1, by rw [← ho, ← h2, addS_owner]⟩
            · exact ⟨n, hn, ho⟩
      · split
        · unfold changeT
          split
          · exact .rfl s S
          · rename_i n0 hn0
            split
            · exact .rfl s S
            · split
              · exact .rfl s S
              · split
                · intro p n hn ho
                  have hn : lookT p (remT o.p S.l) = some n := hn
                  rw [look_rem] at hn
                  split at hn
                  · cases hn
                  · split at hn
                    · obtain ⟨m, h1, h2⟩ := Option.map_eq_some_iff.1 hn
                      exact ⟨m, h1, by rw [← ho, ← h2, remS_owner]⟩
                    · exact ⟨n, hn, ho⟩
                · split
                  · intro p n hn ho
                    have hn : lookT p (setT o.p (writeS n0 z o.data) S.l) = some n := hn
                    rw [look_set] at hn
                    split at hn
                    · rename_i e
                      rw [hn0] at hn
                      injection hn with hn
                      rw [e]
                      exact ⟨n0, hn0, by rw [← ho, ← hn]; rfl⟩
                    · exact ⟨n, hn, ho⟩
                  · exact .rfl s S
        · exact .rfl s S
theorem own_steps {sess z s : Int} (hs : 0 < s) (hne : s ≠ sess) : ∀ (l : List OpS) {K : Nat} {S : TreeS}, TreeB K S → OwnK s S (stepsT sess z l S).2.1
  | [], _, S, _ => .rfl s S
  | o :: l, K, S, hB => by
    have h1 := own_do hB o z hs hne
    unfold stepsT
    split
    · exact h1
    · exact h1.trans (own_steps hs hne l (do_b hB o sess z))
theorem own_many {K : Nat} {S : TreeS} (hB : TreeB K S) (l : List OpS) {sess s : Int} (z : Int) (hs : 0 < s) (hne : s ≠ sess) : OwnK s S (manyT S sess z l).2.1 := by
  unfold manyT
  split
  · exact .rfl s S
  · split
    · exact .rfl s S
    · split
      · exact .rfl s S
      · exact own_steps hs hne l hB
theorem own_request {K : Nat} {S : TreeS} (hB : TreeB K S) (l : List OpS) {sess s : Int} (num z : Int) (hs : 0 < s) (hne : s ≠ sess) : OwnK s S (requestT S sess num z l).2 := by
  unfold requestT
  split
  · exact .rfl s S
  · exact own_many hB l z hs hne
theorem own_pur (s : Int) : ∀ (l : List Bs) (S : TreeS), OwnK s S (purT l S)
  | [], S => .rfl s S
  | p :: l, S => by
    refine OwnK.trans (Y := { S with l := remT p S.l }) (fun q n hn ho => ?_) (own_pur s l _)
    have hn : lookT q (remT p S.l) = some n := hn
    rw [look_rem] at hn
    split at hn
    · cases hn
    · split at hn
      · obtain ⟨m, h1, h2⟩ := Option.map_eq_some_iff.1 hn
        exact ⟨m, h1, by rw [← ho, ← h2, remS_owner]⟩
      · exact ⟨n, hn, ho⟩
theorem ownk_of {K K' : Nat} {s : Int} {S S' : TreeS} (h : OwnK s S S') (hB : TreeB K S) (hB' : TreeB K' S') : ∀ p ∈ ofT S' s, p ∈ ofT S s := by
  intro p hp
  obtain ⟨n, h1, h2, h3⟩ := of_mem.1 hp
  obtain ⟨m, h4, h5⟩ := h p n ((look_mem (rise_nodup hB'.rise)).2 h1) h3
  exact of_mem.2 ⟨m, (look_mem (rise_nodup hB.rise)).1 h4, h2, h5⟩
structure Fore (ops : List OpS) (X : TreeS) (S : PartS) : Prop where
  look : lookW S.wait 7 = some ⟨1, ops, false, false⟩
  held : ∀ p ∈ wantsL ops, (p, (7 : Int)) ∈ S.held
  sim : Sim (wantsL ops) X S.t
  room : S.t.room = X.room
  others : ∀ e ∈ S.wait, e.1 ≠ 7 → e.2.close = false → ∀ o ∈ e.2.ops, ∀ p ∈ wantsS o, FarW (wantsL ops) p
  closes : ∀ e ∈ S.wait, e.2.close = true → 0 < e.2.sess ∧ e.2.ops = [] ∧ ∀ p ∈ ofT S.t e.2.sess, FarW (wantsL ops) p
  sess : ∀ e ∈ S.wait, e.2.close = true → ∀ e' ∈ S.wait, e'.2.close = false → e.2.sess ≠ e'.2.sess
  cap : createsS ops = 0 ∨ ((S.t.l.length + wantedW S.wait : Nat) : Int) ≤ S.t.room ∨ (S.t.l.length ≤ X.l.length ∧ ∀ e ∈ S.wait, e.1 ≠ 7 → costW e = 0)
theorem Fore.in_ {ops : List OpS} {X : TreeS} {S : PartS} (h : Fore ops X S) : ((7 : Int), (⟨1, ops, false, false⟩ : WaitS)) ∈ S.wait := look_wait h.look
theorem Fore.want {ops : List OpS} {X : TreeS} {S : PartS} (h : Fore ops X S) : createsS ops ≤ wantedW S.wait := wanted_ge h.in_
theorem busy_no {S : PartS} {id sess : Int} {ops : List OpS} (h : ¬ (busyS S id sess ops).1 ≠ 0) : closingW S.wait sess = false ∧ blockAt S.held id ops = none ∧ ¬ (0 < createsS ops ∧ 0 < wantedW S.wait ∧ S.t.room < wantedW S.wait + S.t.l.length + createsS ops) := by
  unfold busyS at h
  split at h
  · exact absurd (by show (11 : Int) ≠ 0; decide) h
  · split at h
    · exact absurd (by show (12 : Int) ≠ 0; decide) h
    · rename_i h2
      split at h
      · exact absurd (by show (12 : Int) ≠ 0; decide) h
      · rename_i h3
        split at h
        · exact absurd (by show (12 : Int) ≠ 0; decide) h
        · rename_i h4
          exact ⟨by simpa using h2, h3, h4⟩
theorem Fore.far {ops : List OpS} {X : TreeS} {S : PartS} (h : Fore ops X S) {id sess : Int} {l : List OpS} (hid : id ≠ 7) (hb : ¬ (busyS S id sess l).1 ≠ 0) (hg : ∀ o ∈ l, goodE o = 0) : ∀ o ∈ l, ∀ p ∈ wantsS o, FarW (wantsL ops) p := by
  intro o ho p hp q hq
  have h1 := block_none (busy_no hb).2.1 o ho p hp
  exact not_blocked h1 (wants_good (good_of (hg o ho)) p hp) _ (h.held q hq) (fun e => hid e.symm)
theorem closing_no {W : WaitL} {sess : Int} (h : closingW W sess = false) : ∀ e ∈ W, e.2.close = true → e.2.sess ≠ sess := by
  intro e he hc hs
  have := List.any_eq_false.1 h e he
  rw [hc, hs] at this
  simp at this
theorem Fore.local {K : Nat} {ops : List OpS} {X : TreeS} {S : PartS} (h : Fore ops X S) (hB : PartB K S) (sess num : Int) (l : List OpS) : Fore ops X (localS S sess num l).2 := by
  unfold localS
  split
  · exact h
  · rename_i hm
    split
    · exact ⟨h.look, h.held, h.sim, h.room, h.others, h.closes, h.sess, h.cap⟩
    · rename_i hb
      have hg := may_goods (by simpa using hm : mayS sess num l = 0)
      have hf := h.far (by decide) hb hg.2
      obtain ⟨b1, b2, b3⟩ := busy_no hb
      have hr := request_b hB.tree sess num (S.zxid + 1) l
      refine ⟨h.look, h.held, h.sim.keep (keep_request hB.tree hf _ _ _), (request_room ..).trans h.room, h.others, fun e he hc => ?_, h.sess, ?_⟩
      · obtain ⟨c1, c2, c3⟩ := h.closes e he hc
        exact ⟨c1, c2, fun p hp => c3 p (ownk_of (own_request hB.tree l num (S.zxid + 1) c1 (closing_no b1 e he hc)) hB.tree hr p hp)⟩
      · have hlen := request_add S.t sess num (S.zxid + 1) l
        have hw := h.want
        show _ ∨ (((requestT S.t sess num (S.zxid + 1) l).2.l.length + wantedW S.wait : Nat) : Int) ≤ (requestT S.t sess num (S.zxid + 1) l).2.room ∨ ((requestT S.t sess num (S.zxid + 1) l).2.l.length ≤ X.l.length ∧ _)
        rw [request_room]
        by_cases h0 : createsS ops = 0
        · exact .inl h0
        · right
          by_cases hc : createsS l = 0
          · rcases h.cap with h2 | h2 | h2
            · exact absurd h2 h0
            · left; omega
            · right; exact ⟨by omega, h2.2⟩
          · left; omega
theorem Fore.prep {K : Nat} {ops : List OpS} {X : TreeS} {S : PartS} (h : Fore ops X S) (hB : PartB K S) {id : Int} (hid : id ≠ 7) (sess : Int) (l : List OpS) : Fore ops X (prepS S id sess l).2 := by
  unfold prepS
  split
  · exact h
  · split
    · exact h
    · rename_i hm
      split
      · exact h
      · rename_i hb
        have hg := may_goods (by simpa using hm : mayS sess 1 l = 0)
        have hf := h.far hid hb hg.2
        obtain ⟨b1, b2, b3⟩ := busy_no hb
        obtain ⟨f, hff⟩ : ∃ f, (!(manyT S.t sess S.zxid l).2.2) = f := ⟨_, rfl⟩
        rw [hff]
        refine ⟨look_snoc h.look, fun p hp => takeOps_keep l (h.held p hp), h.sim, h.room, fun e he h7 hc => ?_, fun e he hc => ?_, fun e he hc e' he' hc' => ?_, ?_⟩
        · rcases List.mem_append.1 he with he | he
          · exact h.others e he h7 hc
          · rw [List.mem_singleton] at he; rw [he]; exact hf
        · rcases List.mem_append.1 he with he | he
          · exact h.closes e he hc
          · rw [List.mem_singleton] at he; rw [he] at hc; cases hc
        · rcases List.mem_append.1 he with he | he
          · rcases List.mem_append.1 he' with he' | he'
            · exact h.sess e he hc e' he' hc'
            · rw [List.mem_singleton] at he'; rw [he']
              exact closing_no b1 e he hc
          · rw [List.mem_singleton] at he; rw [he] at hc; cases hc
        · have hw := h.want
          have hcost : costW (id, ⟨sess, l, false, f⟩) ≤ createsS l := by unfold costW; dsimp only; split <;> omega
          show _ ∨ ((S.t.l.length + wantedW (S.wait ++ [_]) : Nat) : Int) ≤ S.t.room ∨ (S.t.l.length ≤ X.l.length ∧ ∀ e ∈ S.wait ++ [_], _)
          rw [wantedW_snoc]
          by_cases h0 : createsS ops = 0
          · exact .inl h0
          · right
            by_cases hc : createsS l = 0
            · rcases h.cap with h2 | h2 | h2
              · exact absurd h2 h0
              · left; omega
              · right
                refine ⟨h2.1, fun e he h7 => ?_⟩
                rcases List.mem_append.1 he with he | he
                · exact h2.2 e he h7
                · rw [List.mem_singleton] at he; rw [he]; omega
            · left; omega
theorem Fore.close {K : Nat} {ops : List OpS} {X : TreeS} {S : PartS} (h : Fore ops X S) (hB : PartB K S) {id : Int} (hid : id ≠ 7) (sess : Int) : Fore ops X (closeS S id sess).2 := by
  unfold closeS
  split
  · exact h
  · rename_i hk
    split
    · exact h
    · split
      · exact h
      · rename_i hu
        split
        · exact h
        · rename_i hw
          have hs : 0 < sess := by
            unfold knownS at hk
            simp only [Bool.or_eq_true, decide_eq_true_eq, not_or] at hk
            omega
          have huse : ∀ e ∈ S.wait, e.2.sess ≠ sess := fun e he hh => by
            have hu : usesW S.wait sess = false := by simpa using hu
            have := List.any_eq_false.1 hu e he
            rw [hh] at this
            simp at this
          refine ⟨look_snoc h.look, fun p hp => take_keep (h.held p hp), h.sim, h.room, fun e he h7 hc => ?_, fun e he hc => ?_, fun e he hc e' he' hc' => ?_, ?_⟩
          · rcases List.mem_append.1 he with he | he
            · exact h.others e he h7 hc
            · rw [List.mem_singleton] at he; rw [he] at hc; cases hc
          · rcases List.mem_append.1 he with he | he
            · exact h.closes e he hc
            · rw [List.mem_singleton] at he
              rw [he]
              refine ⟨hs, rfl, fun p hp q hq => ?_⟩
              obtain ⟨g1, g2⟩ := wrong_none hw p hp
              exact not_blocked g2 g1 _ (h.held q hq) (fun e => hid e.symm)
          · rcases List.mem_append.1 he with he | he
            · rcases List.mem_append.1 he' with he' | he'
              · exact h.sess e he hc e' he' hc'
              · rw [List.mem_singleton] at he'; rw [he'] at hc'; cases hc'
            · rcases List.mem_append.1 he' with he' | he'
              · rw [List.mem_singleton] at he; rw [he]; exact (huse e' he').symm
              · rw [List.mem_singleton] at he'; rw [he'] at hc'; cases hc'
          · show _ ∨ ((S.t.l.length + wantedW (S.wait ++ [_]) : Nat) : Int) ≤ S.t.room ∨ (S.t.l.length ≤ X.l.length ∧ ∀ e ∈ S.wait ++ [_], _)
            have hcost : costW (id, ⟨sess, [], true, false⟩) = 0 := rfl
            rw [wantedW_snoc, hcost, Nat.add_zero]
            refine h.cap.imp (fun h => h) (Or.imp (fun h => h) fun h2 => ⟨h2.1, fun e he h7 => ?_⟩)
            rcases List.mem_append.1 he with he | he
            · exact h2.2 e he h7
            · rw [List.mem_singleton] at he; rw [he]; rfl
theorem Fore.decide {K : Nat} {ops : List OpS} {X : TreeS} {S : PartS} (h : Fore ops X S) (hB : PartB K S) {id : Int} (hid : id ≠ 7) (commit : Bool) : Fore ops X (decideS S id commit).2 := by
  have hlk : lookW (delW S.wait id) 7 = some ⟨1, ops, false, false⟩ := (look_del7 (fun e => hid e.symm)).trans h.look
  have hw : ∀ e ∈ delW S.wait id, e ∈ S.wait := fun e he => (List.mem_filter.1 he).1
  have hhd : ∀ p ∈ wantsL ops, (p, (7 : Int)) ∈ freeH S.held id := fun p hp => List.mem_filter.2 ⟨h.held p hp, by simpa using fun e => hid e.symm⟩
  have hoth : ∀ e ∈ delW S.wait id, e.1 ≠ 7 → e.2.close = false → ∀ o ∈ e.2.ops, ∀ p ∈ wantsS o, FarW (wantsL ops) p := fun e he => h.others e (hw e he)
  have hss : ∀ e ∈ delW S.wait id, e.2.close = true → ∀ e' ∈ delW S.wait id, e'.2.close = false → e.2.sess ≠ e'.2.sess := fun e he hc e' he' => h.sess e (hw e he) hc e' (hw e' he')
  unfold decideS
  split
  · exact h
  · rename_i x hx
    have hxm := look_wait hx
    have hless := wanted_less hx
    split
    · refine ⟨hlk, hhd, h.sim, h.room, hoth, fun e he => h.closes e (hw e he), hss, h.cap.imp (fun h => h) (Or.imp (fun h2 => ?_) fun h2 => ⟨h2.1, fun e he => h2.2 e (hw e he)⟩)⟩
      show ((S.t.l.length + wantedW (delW S.wait id) : Nat) : Int) ≤ S.t.room
      omega
    · rename_i hcf
      split
      · rename_i hxc
        obtain ⟨c1, c2, c3⟩ := h.closes _ hxm hxc
        have hl := pur_len (purgeS (ofT S.t x.sess)) S.t
        have hfar : ∀ p ∈ purgeS (ofT S.t x.sess), FarW (wantsL ops) p := fun p hp => c3 p (by
          unfold purgeS at hp
          obtain ⟨d, -, hd⟩ := List.mem_flatMap.1 hp
          exact (List.mem_filter.1 hd).1)
        refine ⟨hlk, hhd, h.sim.keep (keep_pur _ hfar), (pur_room _ _).trans h.room, hoth, fun e he hc => ?_, hss, ?_⟩
        · obtain ⟨d1, d2, d3⟩ := h.closes e (hw e he) hc
          exact ⟨d1, d2, fun p hp => d3 p (ownk_of (own_pur _ _ _) hB.tree (purT_b _ hB.tree) p hp)⟩
        · show _ ∨ (((purT (purgeS (ofT S.t x.sess)) S.t).l.length + wantedW (delW S.wait id) : Nat) : Int) ≤ (purT (purgeS (ofT S.t x.sess)) S.t).room ∨ ((purT (purgeS (ofT S.t x.sess)) S.t).l.length ≤ X.l.length ∧ _)
          rw [pur_room]
          refine h.cap.imp (fun h => h) (Or.imp (fun h2 => by omega) fun h2 => ⟨by omega, fun e he => h2.2 e (hw e he)⟩)
      · rename_i hxc
        have hxc : x.close = false := by simpa using hxc
        have hxf : x.fails = false := by
          cases hxx : x.fails with
          | false => rfl
          | true => rw [hxx] at hcf; simp at hcf
        have hfar := h.others _ hxm hid hxc
        have hcost : costW (id, x) = createsS x.ops := by unfold costW; rw [hxf]; rfl
        have hl := many_add S.t x.sess (S.zxid + 1) x.ops
        refine ⟨hlk, hhd, h.sim.keep (keep_many hB.tree hfar _ _), (many_room ..).trans h.room, hoth, fun e he hc => ?_, hss, ?_⟩
        · obtain ⟨d1, d2, d3⟩ := h.closes e (hw e he) hc
          exact ⟨d1, d2, fun p hp => d3 p (ownk_of (own_many hB.tree x.ops (S.zxid + 1) d1 (h.sess e (hw e he) hc _ hxm hxc)) hB.tree (many_b hB.tree _ _ _) p hp)⟩
        · show _ ∨ (((manyT S.t x.sess (S.zxid + 1) x.ops).2.1.l.length + wantedW (delW S.wait id) : Nat) : Int) ≤ (manyT S.t x.sess (S.zxid + 1) x.ops).2.1.room ∨ ((manyT S.t x.sess (S.zxid + 1) x.ops).2.1.l.length ≤ X.l.length ∧ _)
          rw [many_room]
          refine h.cap.imp (fun h => h) (Or.imp (fun h2 => by omega) fun h2 => ⟨?_, fun e he => h2.2 e (hw e he)⟩)
          have := h2.2 _ hxm hid
          omega
theorem fore_begin {K : Nat} {S : PartS} {ops : List OpS} (hB : PartB K S) (hw : S.wait = []) (hH : S.held = []) (hp : (prepS S 7 1 ops).1.1 = 0) : Fore ops S.t (prepS S 7 1 ops).2 ∧ (stepsT 1 S.zxid ops S.t).2.2 = 0 ∧ (∀ o ∈ ops, goodE o = 0) ∧ ops ≠ [] ∧ ops.length ≤ 16 := by
  unfold prepS at hp ⊢
  by_cases h1 : knownS S 7 1 = true
  · rw [if_pos h1] at hp; exact absurd hp (by show (1 : Int) ≠ 0; decide)
  rw [if_neg h1] at hp ⊢
  by_cases h2 : mayS 1 1 ops ≠ 0
  · rw [if_pos h2] at hp; exact absurd hp h2
  rw [if_neg h2] at hp ⊢
  have hg := may_goods (by simpa using h2 : mayS 1 1 ops = 0)
  by_cases h3 : (busyS S 7 1 ops).1 ≠ 0
  · rw [if_pos h3] at hp; exact absurd hp h3
  rw [if_neg h3] at hp ⊢
  by_cases h4 : (manyT S.t 1 S.zxid ops).2.2 = true
  · rw [if_pos h4] at hp ⊢
    obtain ⟨h5, -⟩ := many_ok h4
    rw [h4, hw, hH]
    refine ⟨⟨look_last rfl, fun p hp => takeOps_own ops (by simp) hg.2 p hp, .rfl _ _, rfl, fun e he h7 => ?_, fun e he hc => ?_, fun e he hc => ?_, .inr (.inr ⟨Nat.le_refl _, fun e he h7 => ?_⟩)⟩, h5, hg.2, ?_, hg.1⟩
    · rw [List.nil_append, List.mem_singleton] at he; rw [he] at h7; exact absurd rfl h7
    · rw [List.nil_append, List.mem_singleton] at he; rw [he] at hc; cases hc
    · rw [List.nil_append, List.mem_singleton] at he; rw [he] at hc; cases hc
    · have he : e ∈ [] ++ [((7 : Int), (⟨1, ops, false, !true⟩ : WaitS))] := he
      rw [List.nil_append, List.mem_singleton] at he; rw [he] at h7; exact absurd rfl h7
    · rintro rfl
      exact h2 (by decide)
  · rw [if_neg h4] at hp
    exact absurd hp (many_no (by simpa using h4)).1
theorem steps_path {sess z : Int} : ∀ (l : List OpS) {K : Nat} {S : TreeS}, TreeB K S → GoodK S → (∀ o ∈ l, goodE o = 0) → (stepsT sess z l S).2.2 = 0 → ∀ r ∈ (stepsT sess z l S).1, r.err = 0 ∧ r.path.data.toList ≠ []
  | [], _, _, _, _, _, _, r, hr => by cases hr
  | o :: l, K, S, hB, hG, hg, h, r, hr => by
    have h0 := steps_cons0 h
    rw [steps_cons l h0] at h hr
    rcases List.mem_cons.1 hr with rfl | hr
    · refine ⟨h0, ?_⟩
      have hne : ∀ p : Bs, goodP p = true → p ≠ [] := fun p hp e => by rw [e] at hp; cases hp
      have hgo := good_of (hg o k_s)
      have hop : o.path.data.toList ≠ [] := hne o.p hgo
      unfold doT at h0 ⊢
      by_cases h1 : goodE o ≠ 0
      · exact absurd (hg o k_s) h1
      rw [if_neg h1] at h0 ⊢
      by_cases h2 : sess < 1 ∨ z < 0
      · rw [if_pos h2] at h0; exact absurd h0 (by show (1 : Int) ≠ 0; decide)
      rw [if_neg h2] at h0 ⊢
      by_cases h3 : o.kind = 1
      · rw [if_pos h3] at h0 ⊢
        unfold createT at h0 ⊢
        by_cases h4 : (placeT S o).1 ≠ 0
        · rw [if_pos h4] at h0; exact absurd h0 h4
        rw [if_neg h4]
        have := place_g hgo (by omega : (placeT S o).1 = 0)
        exact hne _ this
      rw [if_neg h3] at h0 ⊢
      by_cases h4 : o.kind = 2 ∨ o.kind = 3 ∨ o.kind = 4
      · rw [if_pos h4] at h0 ⊢
        unfold changeT at h0 ⊢
        cases hn : lookT o.p S.l with
        | none => rw [hn] at h0; exact absurd h0 (by show (4 : Int) ≠ 0; decide)
        | some n =>
          rw [hn] at h0
          dsimp only at h0 ⊢
          by_cases g1 : wrongS o n = true
          · rw [if_pos g1] at h0; exact absurd h0 (by show (6 : Int) ≠ 0; decide)
          rw [if_neg g1] at h0 ⊢
          by_cases g2 : o.kind = 2 ∧ 0 < n.names.length
          · rw [if_pos g2] at h0; exact absurd h0 (by show (7 : Int) ≠ 0; decide)
          rw [if_neg g2]
          by_cases g3 : o.kind = 2
          · rw [if_pos g3]; exact hop
          rw [if_neg g3]
          by_cases g4 : o.kind = 3
          · rw [if_pos g4]; exact hop
          rw [if_neg g4]; exact hop
      rw [if_neg h4] at h0 ⊢
      unfold readT at h0 ⊢
      cases hn : lookT o.p S.l with
      | none => rw [hn] at h0; exact absurd h0 (by show (4 : Int) ≠ 0; decide)
      | some n => exact hop
    · exact steps_path l (do_b hB o sess z) (do_g hG o sess z) (fun x hx => hg x (k_n _ hx)) h r hr
theorem Fore.done {K K' : Nat} {ops : List OpS} {X : TreeS} {S : PartS} {z : Int} (h : Fore ops X S) (hX : TreeB K X) (hB : PartB K' S) (hz : 0 ≤ S.zxid) (h0 : (stepsT 1 z ops X).2.2 = 0) (hg : ∀ o ∈ ops, goodE o = 0) (hne : ops ≠ []) (h16 : ops.length ≤ 16) :
    (decideS S 7 true).1.2 = 0 ∧ (decideS S 7 true).1.1.length = ops.length ∧ ∀ r ∈ (decideS S 7 true).1.1, r.err = 0 ∧ r.path.data.toList ≠ [] := by
  have hs : (stepsT 1 (S.zxid + 1) ops S.t).2.2 = 0 := by
    refine sim_steps (by omega) ops h.sim hX hB.tree h.room (fun o ho p hp => List.mem_flatMap.2 ⟨o, ho, hp⟩) h0 ?_
    have hw := h.want
    rcases h.cap with h1 | h1 | h1
    · left; have := hB.tree.len; omega
    · left; omega
    · right; exact h1.1
  have hm : manyT S.t 1 (S.zxid + 1) ops = (⟨0, S.zxid + 1, 0, -1, (stepsT 1 (S.zxid + 1) ops S.t).1⟩, (stepsT 1 (S.zxid + 1) ops S.t).2.1, true) := by
    unfold manyT
    rw [if_neg (by omega), if_neg (by intro e; exact hne (List.eq_nil_of_length_eq_zero e)), if_neg (fun hh => hh hs)]
  unfold decideS
  rw [h.look]
  dsimp only
  rw [if_neg (by simp), if_neg (by simp), hm]
  refine ⟨rfl, steps_len ops _ hs, ?_⟩
  exact steps_path ops hB.tree hB.good hg hs
theorem Fore.not {ops : List OpS} {X : TreeS} {S : PartS} (h : Fore ops X S) : (decideS S 7 false).1 = ([], 0) ∧ (decideS S 7 false).2.t = S.t := by
  unfold decideS
  rw [h.look]
  dsimp only
  rw [if_pos (by simp)]
  exact ⟨rfl, rfl⟩
theorem local_w (S : PartS) (sess num : Int) (l : List OpS) : (localS S sess num l).2.wait = S.wait ∧ (localS S sess num l).2.held = S.held := by
  unfold localS
  split
  · exact ⟨rfl, rfl⟩
  · split <;> exact ⟨rfl, rfl⟩
end Go.Av

namespace Go.Proofs.YtbakgoncfggidaaGreatDoor
open Go.RowKit Go.Av
section
variable {w0 w : World} {b t : Nat} {S : TreeS} {P P' : List PRow} {R : List Thing} {rows : List (Value × Bs)}
def OwnPost (w0 : World) (t : Nat) (S : TreeS) (P : List PRow) (R : List Thing) (rows : List (Value × Bs)) (e : Ending) (w' : World) : Prop :=
  ∃ b P', e = .returned (.pointer (some ⟨b, 0, none⟩)) ∧ (∀ r ∈ P, r ∈ P') ∧ Sep w0 w' (ThPool w0 P' :: ThTree t S P' :: ThRt b S P' :: R) rows
def OwnRel (w0 : World) (t b : Nat) (S : TreeS) (P : List PRow) (R : List Thing) (rows : List (Value × Bs)) (k : Nat) (v7 : Value) (w : World) : Prop :=
  ∃ (i : Nat) (P' : List PRow) (xs : List Value) (a : Option Addr) (n c : Nat), i + k = S.l.length ∧ v7 = .int .i64 (i : Int) ∧ (∀ q ∈ P, q ∈ P') ∧ EntL P' (S.l.take i) xs ∧
    Sep w0 w (ThCell b (.cells #[.int .i64 S.room, .slice a n c] 160 (0, 0)) :: ThRow 11 (.slice a n c) xs :: ThPool w0 P' :: ThTree t S P' :: R) rows
set_option maxRecDepth 100000 in
set_option maxHeartbeats 4000000 in
theorem ownt_any (h : Sep w0 w (ThPool w0 P :: ThTree t S P :: R) rows) (room : Int) (hr : room = S.room) (hB : ∀ e ∈ S.l, NodeOk e.2) (hn : S.l.length ≤ 1000) (hk : ∀ e ∈ S.l, e.1.length ≤ 100000) :
    Calls Tryz.prog 31 #[.pointer (some ⟨t, 0, none⟩), .int .i64 room] w (OwnPost w0 t S P R rows) := by
  subst hr
  have HB := Lib.hid hB
  have HN := Lib.hid hn
  have HK := Lib.hid hk
  have HX := Lib.hid h
  clear hB hn hk h
  go_enter Tryz.func31, Tryz.ntmps31
  go_wp2_with (first | refine vL ?_ | refine vM ?_ | (refine vS ?_; clear HX; intro w HX) | (refine vA ?_; clear HX; (first | (have hq := b2; clear hq; intro w b3 HX) | (have hq := b; clear hq; intro w b2 HX) | intro w b HX)) | ((first | (refine sWN ?_; clear HX; intro w mm HX) | (refine sWP ?_; clear HX; intro w av nv cv HX)); simp only [Act.put, k_a, k_b, k_c]))
  refine (paths_any HX.out.up2.up2 (by have := HN.out; omega) HK.out).mono ?_
  rintro e w ⟨v, P', rfl, hP', hv, hS⟩
  obtain ⟨E, hE⟩ := hS.poolGet hv
  obtain ⟨a0, n0, c0, rfl, hl0, hn0, hc0, hne⟩ := ReadRow.some hE
  rw [List.length_map, List.length_map, Nat.mul_one] at hl0
  subst hl0
  clear HX
  have HX := Lib.hid hS
  have HNE := Lib.hid hne
  have HV := Lib.hid hv
  have HPP := Lib.hid hP'
  clear hS hE hne hv hP' hn0 hc0
  go_wp2_with (first | refine vL ?_ | refine vM ?_ | (refine vS ?_; clear HX; intro w HX) | (refine vA ?_; clear HX; (first | (have hq := b2; clear hq; intro w b3 HX) | (have hq := b; clear hq; intro w b2 HX) | intro w b HX)) | ((first | (refine sWN ?_; clear HX; intro w mm HX) | (refine sWP ?_; clear HX; intro w av nv cv HX)); simp only [Act.put, k_a, k_b, k_c]))
  have HST := Lib.hid (show OwnRel w0 t b S P' R rows S.l.length (.int .i64 (0 : Int)) w from ⟨0, P', [], none, 0, 0, by omega, rfl, fun _ h => h, .nil, (HX.out.up2.nilRow 11).up1⟩)
  clear HX
  go_loopg [7] S.l.length (fun k v7 wr => OwnRel w0 t b S P' R rows k v7 wr)
  case atStart => exact HST.out
  case round =>
    rename World => w
    obtain ⟨i, P2, xs, a, n, c, hik, rfl, hP2, hel, hS⟩ := hrel
    have HP2 := Lib.hid hP2
    have HEL := Lib.hid hel
    have HX := Lib.hid hS
    clear hS hP2 hel
    by_cases hlt : i < S.l.length
    case neg =>
      obtain rfl : i = S.l.length := by omega
      clear hlt hik
      go_wp2_with (first | refine vL ?_ | refine vM ?_ | (refine vS ?_; clear HX; intro w HX) | (refine vA ?_; clear HX; (first | (have hq := b2; clear hq; intro w b3 HX) | (have hq := b; clear hq; intro w b2 HX) | intro w b HX)) | ((first | (refine sWN ?_; clear HX; intro w mm HX) | (refine sWP ?_; clear HX; intro w av nv cv HX)); simp only [Act.put, k_a, k_b, k_c]))
      go_ret
      have h1 := HEL.out
      rw [List.take_length] at h1
      exact ⟨b, P2, rfl, fun q hq => HP2.out q (HPP.out q hq), (rt_shut HX.out h1).up2.up2⟩
    case pos =>
      have hmem : S.l[i] ∈ S.l := List.getElem_mem hlt
      have hlook : lookT S.l[i].1 S.l = some S.l[i].2 := (look_mem (tree_rise HX.out.up3)).2 hmem
      obtain ⟨g, off, rfl⟩ := HNE.out (by intro e; rw [List.map_map, List.map_eq_nil_iff] at e; rw [e] at hlt; simp at hlt)
      have HT := Lib.hid (show S.l.take (i + 1) = S.l.take i ++ [S.l[i]] from List.take_succ_eq_append_getElem hlt)
      have hxx : ((S.l.map (·.1)).map sv)[i]? = some (sv S.l[i].1) := by simp [hlt]
      have hok := HB.out _ hmem
      obtain ⟨⟨p, nd⟩, hen⟩ : ∃ en, S.l[i] = en := ⟨_, rfl⟩
      rw [hen] at HT hlook hxx hok
      dsimp only at hlook hxx hok
      obtain ⟨ps, hps⟩ : ∃ ps : ByteArray, ps = ⟨p.toArray⟩ := ⟨_, rfl⟩
      have hpv : sv p = .string ps := by rw [hps]; rfl
      have hpl : ps.data.toList = p := by rw [hps]
      rw [hpv] at hxx
      rw [← hpl] at hlook
      have HXX := Lib.hid hxx
      have HLK := Lib.hid hlook
      have HPV := Lib.hid hpv
      have q0 : decide (i < S.l.length) = true := decide_eq_true hlt
      have q9 : i ≤ 1000 := by have := HN.out; omega
      obtain ⟨E, hE⟩ := HX.out.up2.poolGet (HP2.out _ HV.out)
      have hl := row_load1 (P := Tryz.prog) (ty := 9) (i := i) hE (by kernel_rfl) hxx
      clear hmem hlook hxx hen hps hpv hpl hE
      go_wp2_with (first | refine vL ?_ | refine vM ?_ | (refine vS ?_; clear HX; intro w HX) | (refine vA ?_; clear HX; (first | (have hq := b2; clear hq; intro w b3 HX) | (have hq := b; clear hq; intro w b2 HX) | intro w b HX)) | ((first | (refine sWN ?_; clear HX; intro w mm HX) | (refine sWP ?_; clear HX; intro w av nv cv HX)); simp only [Act.put, k_a, k_b, k_c]) | ((with_reducible apply sx_loadAt hl); (· rfl); (· rfl); simp only [Act.put, k_a, k_b, k_c]))
      refine (treenode_some HX.out.up3.up3 ps nd HLK.out hok).mono ?_
      rintro e w ⟨nv, P3, rfl, hP3, hnv, hS⟩
      obtain ⟨E, hE⟩ := hS.poolGet hnv
      obtain ⟨na, nn, nc, rfl, -⟩ := id hE
      clear HX hl
      have HX := Lib.hid hS
      have HNV := Lib.hid hnv
      have HP3 := Lib.hid hP3
      clear hS hnv hP3 hE
      simp only [NodeS.val, NodeS.cells]
      go_upto_region 7 with (first | refine vL ?_ | refine vM ?_ | (refine vS ?_; clear HX; intro w HX) | (refine vA ?_; clear HX; (first | (have hq := b2; clear hq; intro w b3 HX) | (have hq := b; clear hq; intro w b2 HX) | intro w b HX)) | ((first | (refine sWN ?_; clear HX; intro w mm HX) | (refine sWP ?_; clear HX; intro w av nv cv HX)); simp only [Act.put, k_a, k_b, k_c]))
      refine wp_region_M (fun W => Sep w0 W [thNode b2 nd (.slice na nn nc), ThCell b (.cells #[.int .i64 S.room, .slice a n c] 160 (0, 0)), ThPool w0 P3] rows) 14 (by kernel_rfl) ?_
      have KEEPX : ∀ W, Sep w0 W [thNode b2 nd (.slice na nn nc), ThCell b (.cells #[.int .i64 S.room, .slice a n c] 160 (0, 0)), ThPool w0 P3] rows → Sep w0 W [thNode b2 nd (.slice na nn nc), ThCell b (.cells #[.int .i64 S.room, .slice a n c] 160 (0, 0)), ThPool w0 P3] rows := fun _ h => h
      replace HX := Lib.hid HX.out.drew
      have hl : ∀ W, Sep w0 W [thNode b2 nd (.slice na nn nc), ThCell b (.cells #[.int .i64 S.room, .slice a n c] 160 (0, 0)), ThPool w0 P3] rows → (Instr.loadAt 9 (.pointer (some ⟨g, off + i, none⟩))).run Tryz.prog W = .ok (.string ps) W := fun W hW => by
        obtain ⟨E, hE⟩ := (Sep.up2 hW).poolGet (HP3.out _ (HP2.out _ HV.out))
        exact row_load1 hE (by kernel_rfl) HXX.out
      have HSUB := Lib.hid (show ∀ W A, Sep w0 W (thNode b2 nd (.slice na nn nc) :: ThPool w0 P3 :: ThTree t S P3 :: ThCell b (.cells #[.int .i64 S.room, .slice a n c] 160 (0, 0)) :: A) rows → Sep w0 W [thNode b2 nd (.slice na nn nc), ThCell b (.cells #[.int .i64 S.room, .slice a n c] 160 (0, 0)), ThPool w0 P3] rows from fun W A h => (h.take (A := [_, _, _, _])).pm 4 [0, 3, 1] rfl rfl)
      refine wpAnyM_take (by kernel_rfl) (by intro c a d v w h; cases d <;> exact h) [(0, false), (1, false), (2, false), (3, false), (4, true), (5, false), (6, false), (7, false), (8, true), (9, true)] (fuel := 7) (by kernel_rfl) ?_
      apply Exists.intro; refine ⟨?_, (HSUB.out _ _ HX.out), ?_⟩
      · iterate 10 (refine yE ?_)
        exact rfl
      clear hl
      refine wpAnyM_one (fuel := 6) (i := 10) (by kernel_rfl) (by (simp only [k_i, k_j, k_k]; try rfl)) (fun K hK => ?_)
      go_wp2_with fail
      refine (nd_any HX.out nd _ _ _).mono ?_
      rintro e w ⟨rfl, hx⟩
      clear HX
      have HX := Lib.hid hx
      clear hx
      simp only [NodeS.val, NodeS.cells]
      go_wp2_with fail
      refine hK _ _ (HSUB.out _ _ HX.out) ?_
      clear hK
      refine wpAnyM_take (by kernel_rfl) (by intro c a d v w h; cases d <;> exact h) [(11, false)] (fuel := 5) (by kernel_rfl) ?_
      apply Exists.intro; refine ⟨?_, (HSUB.out _ _ HX.out), ?_⟩
      · iterate 1 (refine yE ?_)
        exact rfl
      refine wpAnyM_one (fuel := 4) (i := 12) (by kernel_rfl) (by (simp only [k_i, k_j, k_k]; try rfl)) (fun K hK => ?_)    -- buildSlice
      go_wp2_with (first | refine vL ?_ | refine vM ?_ | (refine vS ?_; clear HX; intro w HX) | (refine vA ?_; clear HX; (first | (have hq := b2; clear hq; intro w b3 HX) | (have hq := b; clear hq; intro w b2 HX) | intro w b HX)) | ((first | (refine sWN ?_; clear HX; intro w mm HX) | (refine sWP ?_; clear HX; intro w av nv cv HX)); simp only [Act.put, k_a, k_b, k_c]))
      refine hK _ _ (HSUB.out _ _ HX.out.drop) ?_
      clear hK
      have HBD := Lib.hid (show ∀ n, xs.length = n * 11 → n + 1 ≤ 140737488355328 ∧ (n + 1) * 120 ≤ 140737488355328 from fun n hn => by
        have h1 := HEL.out.len
        rw [List.length_take] at h1
        have := HN.out
        omega)
      refine wpAnyM_one (fuel := 3) (i := 13) (by kernel_rfl) (by (simp only [k_i, k_j, k_k]; try rfl)) (fun K hK => ?_)
      go_wp2_with (first | refine vL ?_ | refine vM ?_ | (refine vS ?_; clear HX; intro w HX) | (refine vA ?_; clear HX; (first | (have hq := b2; clear hq; intro w b3 HX) | (have hq := b; clear hq; intro w b2 HX) | intro w b HX)) | ((first | (refine sWN ?_; clear HX; intro w mm HX) | (refine sWP ?_; clear HX; intro w av nv cv HX)); simp only [Act.put, k_a, k_b, k_c]))
      refine hK _ _ (HSUB.out _ _ HX.out.drop.drop) ?_
      clear hK
      refine wpAnyM_of_any _ _ _ _ (by decide) ?_
      refine wpAny_list [14, 15, 16] (fuel := 0) (by kernel_rfl) ?_
      simp only [List.filterMap_cons, List.filterMap_nil, k_i, k_j, k_k]
      go_step
      go_step
      go_step
      go_step
      (with_reducible apply sx_store1 HX)
      · rfl
      · ((conv => lhs; whnf) <;> rfl)
      · rfl
      · rfl
      · kernel_rfl
      · (repeat (first | (with_reducible exact Rep.here) | (with_reducible apply Rep.there)))
      · rfl
      · rfl
      clear HX; intro w HX
      simp only [Act.put, k_a, k_b, k_c, NodeS.cells, OpS.cells, ResS.cells] at HX ⊢
      go_wp2_with (first | refine vL ?_ | refine vM ?_ | (refine vS ?_; clear HX; intro w HX) | (refine vA ?_; clear HX; (first | (have hq := b2; clear hq; intro w b3 HX) | (have hq := b; clear hq; intro w b2 HX) | intro w b HX)) | ((first | (refine sWN ?_; clear HX; intro w mm HX) | (refine sWP ?_; clear HX; intro w av nv cv HX)); simp only [Act.put, k_a, k_b, k_c]))
      go_roundg (S.l.length - (i + 1))
      case rel =>
        refine ⟨i + 1, P3, _, av, nv, cv, by omega, by go_num, fun q hq => HP3.out q (HP2.out q hq), by rw [HT.out]; exact (HEL.out.mono HP3.out).snoc HNV.out, ?_⟩
        rw [HPV.out]
        exact HX.out.pm 6 [5, 0, 3, 4] rfl rfl
      case measure => omega
end
end Go.Proofs.YtbakgoncfggidaaGreatDoor
