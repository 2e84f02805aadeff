/-
  Texts of this claim, laid together.
-/
import Derived.Test.YtcnkifbjlihaoaaGreatDoorMg6
import Derived.Deep.DeepCutAuto
import Derived.Deep.CutBlock
set_option linter.unusedVariables false
set_option linter.unusedSimpArgs false

namespace Go.Av
open Go.RowKit
def yog' (e : Bs × NodeS) : Bs × NodeS := (e.1, yb2' e.2)
def ybt' (l : NoL) : NoL := l.map yog'
def ych' (S : TreeS) : TreeS := ⟨S.room, ybt' S.l⟩
theorem ydm' (p : Bs) : ∀ l : NoL, yai' p (ybt' l) = (yai' p l).map yb2'
 | [] => rfl
 | e :: l => by
  have ih := ydm' p l
  have hc : ybt' (e :: l) = yog' e :: ybt' l := rfl
  rw [hc, ycx', ycx', ih]
  show (if e.1 = p then some (yb2' e.2) else _) = _
  split <;> rfl
theorem yi5' (p : Bs) (n : NodeS) (l : NoL) : ybt' (setT p n l) = setT p (yb2' n) (ybt' l) := by
 unfold ybt' setT
 rw [List.map_map, List.map_map]
 apply List.map_congr_left
 intro e _
 show yog' (if e.1 = p then (e.1, n) else e) = if (yog' e).1 = p then ((yog' e).1, yb2' n) else yog' e
 have : (yog' e).1 = e.1 := rfl
 rw [this]
 split <;> rfl
theorem yrx' (p : Bs) (l : NoL) : ybt' (delT p l) = delT p (ybt' l) := by
 unfold ybt' delT
 rw [List.filter_map]
 rfl
theorem yr3' (p : Bs) (n : NodeS) (l : NoL) : ybt' (insT p n l) = insT p (yb2' n) (ybt' l) := by
 unfold ybt' insT
 rw [List.map_append, List.map_cons, List.takeWhile_map, List.dropWhile_map]
 rfl
theorem yp6' (p : Bs) (f : NodeS → NodeS) (hf : ∀ n, yb2' (f n) = f (yb2' n)) (l : NoL) : ybt' (atUp p f l) = atUp p f (ybt' l) := by
 unfold atUp
 cases yar' p with
 | none => rfl
 | some u =>
  dsimp only
  rw [ydm']
  cases yai' u l with
  | none => rfl
  | some m =>
   show ybt' (setT u (f m) l) = setT u (f (yb2' m)) (ybt' l)
   rw [yi5', hf]
theorem yny' (p : Bs) (n : NodeS) (l : NoL) : ybt' (layT p n l) = layT p (yb2' n) (ybt' l) := by
 unfold layT
 rw [yp6' _ _ (fun n => yp2' n _), yr3']
theorem ynn' (p : Bs) (l : NoL) : ybt' (remT p l) = remT p (ybt' l) := by
 unfold remT
 rw [yp6' _ _ (fun n => ypc' n _), yrx']
theorem ylu' (S : TreeS) (p : Bs) : endT (ych' S) p = endT S p := by
 unfold endT
 show (if (yai' p (ybt' S.l)).isSome = true then _ else if S.room ≤ ((ybt' S.l).length : Nat) then _ else _) = _
 rw [ydm', Option.isSome_map]
 unfold ybt'
 rw [List.length_map]
theorem yq1' (S : TreeS) (o : OpS) : ya2' (ych' S) o = ya2' S o := by
 unfold ya2'
 cases hp : yar' o.p with
 | none => exact ylu' S o.p
 | some u =>
  have hl : yai' u (ych' S).l = (yai' u S.l).map yb2' := ydm' _ _
  dsimp only
  rw [hl]
  cases hn : yai' u S.l with
  | none => rfl
  | some n =>
   have h1 : (yb2' n).owner = n.owner := rfl
   have h2 : (yb2' n).next = n.next := rfl
   dsimp only [Option.map]
   rw [h1, h2]
   split
   ·rfl
   ·split
    ·cases hq : ybz' o.p n.next with
     | none => rfl
     | some q => exact ylu' S q
    ·exact ylu' S o.p
theorem yst' (S : TreeS) (o : OpS) (sess : Int) {z : Int} (hz : 0 ≤ z) : (doT S o sess z).1.err = (doT (ych' S) o sess 0).1.err ∧ ych' (doT S o sess z).2 = ych' (doT (ych' S) o sess 0).2 := by
 have hidem : ych' (ych' S) = ych' S := by
  unfold ych' ybt'
  rw [List.map_map]
  rfl
 unfold doT
 by_cases h1 : yb4' o ≠ 0
 ·rw [if_pos h1, if_pos h1]; exact ⟨rfl, hidem.symm⟩
 rw [if_neg h1, if_neg h1]
 by_cases h2 : sess < 1
 ·rw [if_pos (.inl h2), if_pos (.inl h2)]; exact ⟨rfl, hidem.symm⟩
 rw [if_neg (show ¬ (sess < 1 ∨ z < 0) by omega), if_neg (show ¬ (sess < 1 ∨ (0 : Int) < 0) by omega)]
 by_cases h3 : o.kind = 1
 ·rw [if_pos h3, if_pos h3]
  unfold yb1'
  rw [yq1']
  by_cases h4 : (ya2' S o).1 ≠ 0
  ·rw [if_pos h4, if_pos h4]; exact ⟨rfl, hidem.symm⟩
  rw [if_neg h4, if_neg h4]
  refine ⟨rfl, ?_⟩
  show TreeS.mk S.room (ybt' (layT _ _ S.l)) = TreeS.mk S.room (ybt' (layT _ _ (ybt' S.l)))
  rw [yny', yny']
  have : ybt' (ybt' S.l) = ybt' S.l := congrArg TreeS.l hidem
  rw [this]
  rfl
 rw [if_neg h3, if_neg h3]
 by_cases h4 : o.kind = 2 ∨ o.kind = 3 ∨ o.kind = 4
 ·rw [if_pos h4, if_pos h4]
  unfold ybu'
  have hl : yai' o.p (ych' S).l = (yai' o.p S.l).map yb2' := ydm' _ _
  rw [hl]
  cases hn : yai' o.p S.l with
  | none => exact ⟨rfl, hidem.symm⟩
  | some n =>
   dsimp only [Option.map]
   have hw : ye3' o (yb2' n) = ye3' o n := rfl
   have hm : (yb2' n).names = n.names := rfl
   rw [hw, hm]
   split
   ·exact ⟨rfl, hidem.symm⟩
   ·split
    ·exact ⟨rfl, hidem.symm⟩
    ·split
     ·refine ⟨rfl, ?_⟩
      show TreeS.mk S.room (ybt' (remT _ S.l)) = TreeS.mk S.room (ybt' (remT _ (ybt' S.l)))
      rw [ynn', ynn']
      have : ybt' (ybt' S.l) = ybt' S.l := congrArg TreeS.l hidem
      rw [this]
     ·split
      ·refine ⟨rfl, ?_⟩
       show TreeS.mk S.room (ybt' (setT _ _ S.l)) = TreeS.mk S.room (ybt' (setT _ _ (ybt' S.l)))
       rw [yi5', yi5']
       have : ybt' (ybt' S.l) = ybt' S.l := congrArg TreeS.l hidem
       rw [this]
       rfl
      ·exact ⟨rfl, hidem.symm⟩
 rw [if_neg h4, if_neg h4]
 unfold yh5'
 have hl : yai' o.p (ych' S).l = (yai' o.p S.l).map yb2' := ydm' _ _
 rw [hl]
 cases hn : yai' o.p S.l with
 | none => exact ⟨rfl, hidem.symm⟩
 | some n => exact ⟨rfl, hidem.symm⟩
theorem ywm' {S S' : TreeS} (h : ych' S = ych' S') (o : OpS) (sess : Int) {z z' : Int} (hz : 0 ≤ z) (hz' : 0 ≤ z') : (doT S o sess z).1.err = (doT S' o sess z').1.err ∧ ych' (doT S o sess z).2 = ych' (doT S' o sess z').2 := by
 obtain ⟨a1, a2⟩ := yst' S o sess hz
 obtain ⟨b1, b2⟩ := yst' S' o sess hz'
 rw [a1, a2, b1, b2, h]
 exact ⟨rfl, rfl⟩
theorem yka' {sess z z' : Int} (hz : 0 ≤ z) (hz' : 0 ≤ z') : ∀ (l : List OpS) {S S' : TreeS}, ych' S = ych' S' →
  (yan' sess z l S).2.2 = (yan' sess z' l S').2.2 ∧ (yan' sess z l S).1.length = (yan' sess z' l S').1.length ∧ ych' (yan' sess z l S).2.1 = ych' (yan' sess z' l S').2.1
 | [], _, _, h => ⟨rfl, rfl, h⟩
 | o :: l, S, S', h => by
  obtain ⟨a1, a2⟩ := ywm' h o sess hz hz'
  obtain ⟨b1, b2, b3⟩ := yka' (sess := sess) hz hz' l a2
  unfold yan'
  rw [a1]
  split
  ·exact ⟨rfl, rfl, a2⟩
  ·exact ⟨b1, by rw [List.length_cons, List.length_cons, b2], b3⟩
theorem ys2' {S S' : TreeS} (h : ych' S = ych' S') (sess : Int) {z z' : Int} (hz : 0 ≤ z) (hz' : 0 ≤ z') (l : List OpS) :
  (ybc' S sess z l).2.2 = (ybc' S' sess z' l).2.2 ∧ (ybc' S sess z l).1.err = (ybc' S' sess z' l).1.err ∧ (ybc' S sess z l).1.at_ = (ybc' S' sess z' l).1.at_ ∧ (ybc' S sess z l).1.rs.length = (ybc' S' sess z' l).1.rs.length ∧ ych' (ybc' S sess z l).2.1 = ych' (ybc' S' sess z' l).2.1 := by
 obtain ⟨a1, a2, a3⟩ := yka' (sess := sess) hz hz' l h
 unfold ybc'
 rw [a1, a2]
 split
 ·exact ⟨rfl, rfl, rfl, rfl, h⟩
 ·split
  ·exact ⟨rfl, rfl, rfl, rfl, h⟩
  ·split
   ·exact ⟨rfl, rfl, rfl, rfl, h⟩
   ·exact ⟨rfl, rfl, rfl, a2, a3⟩
theorem yl7' {S S' : TreeS} (h : ych' S = ych' S') (sess num : Int) {z z' : Int} (hz : 0 ≤ z) (hz' : 0 ≤ z') (l : List OpS) :
  (yas' S sess num z l).1.err = (yas' S' sess num z' l).1.err ∧ (yas' S sess num z l).1.at_ = (yas' S' sess num z' l).1.at_ ∧ (yas' S sess num z l).1.rs.length = (yas' S' sess num z' l).1.rs.length ∧ ych' (yas' S sess num z l).2 = ych' (yas' S' sess num z' l).2 := by
 obtain ⟨a1, a2, a3, a4, a5⟩ := ys2' h sess hz hz' l
 unfold yas'
 split
 ·exact ⟨rfl, rfl, rfl, h⟩
 ·exact ⟨a2, a3, a4, a5⟩
theorem ylo' {S S' : TreeS} (h : ych' S = ych' S') : S.l.length = S'.l.length ∧ S.room = S'.room ∧ S.l.map (·.1) = S'.l.map (·.1) := by
 have h1 := congrArg TreeS.l h
 have h2 := congrArg TreeS.room h
 have h2 : S.room = S'.room := h2
 have h1 : ybt' S.l = ybt' S'.l := h1
 refine ⟨?_, h2, ?_⟩
 ·have := congrArg List.length h1
  unfold ybt' at this
  rwa [List.length_map, List.length_map] at this
 ·have := congrArg (List.map (·.1)) h1
  unfold ybt' at this
  rw [List.map_map, List.map_map] at this
  exact this
structure Like (S S' : PartS) : Prop where
 t : ych' S.t = ych' S'.t
 held : S.held = S'.held
 wait : S.wait = S'.wait
 closed : S.closed = S'.closed
theorem ytr' {S S' : PartS} (h : Like S S') (id sess : Int) (l : List OpS) : yct' S id sess l = yct' S' id sess l := by
 obtain ⟨h1, h2, -⟩ := ylo' h.t
 unfold yct'
 rw [h.closed, h.wait, h.held, h1, h2]
theorem yqd' {S S' : PartS} (h : Like S S') (hz : 0 ≤ S.zxid) (hz' : 0 ≤ S'.zxid) (sess num : Int) (l : List OpS) :
  (ybj' S sess num l).1.err = (ybj' S' sess num l).1.err ∧ (ybj' S sess num l).1.at_ = (ybj' S' sess num l).1.at_ ∧ (ybj' S sess num l).1.rs.length = (ybj' S' sess num l).1.rs.length ∧ Like (ybj' S sess num l).2 (ybj' S' sess num l).2 := by
 obtain ⟨a1, a2, a3, a4⟩ := yl7' h.t sess num (show 0 ≤ S.zxid + 1 by omega) (show 0 ≤ S'.zxid + 1 by omega) l
 unfold ybj'
 rw [ytr' h]
 split
 ·exact ⟨rfl, rfl, rfl, h⟩
 ·split
  ·exact ⟨rfl, rfl, rfl, ⟨h.t, h.held, h.wait, h.closed⟩⟩
  ·exact ⟨a1, a2, a3, ⟨a4, h.held, h.wait, h.closed⟩⟩
end Go.Av

namespace Go.Proofs.YtcnkifbjlihaoaaGreatDoor
open Go.RowKit Go.Av
theorem ypb' {sess num : Int} {l : List OpS} (h : mayS sess num l ≠ 0) : getR (putR sess num l) = none := by
 unfold putR
 rw [if_pos h]
 exact yuv'
def locC (id : Int) (ops : List OpS) : CmdS := ⟨1, id, 0, 1, id, ops, [], 0, false⟩
def preC (id : Int) (ops : List OpS) : CmdS := ⟨2, id, 1, 1, id, ops, [], 0, false⟩
def decC (id : Int) (yes : Bool) : CmdS := ⟨4, id, 0, 0, 0, [], [], 0, yes⟩
theorem yk8' (k id : Int) (x : Bs) (h1 : -9223372036854775808 ≤ k ∧ k ≤ 9223372036854775807) (h2 : -9223372036854775808 ≤ id ∧ id ≤ 9223372036854775807) : ykx' ((yak' k ++ yak' id) ++ x) = (k, id, x, false) := by
 unfold ykx'
 rw [List.append_assoc, yc6' k _ false h1.1 h1.2]
 dsimp only
 rw [yc6' id x false h2.1 h2.2]
theorem yu6' {id : Int} (h0 : 0 ≤ id) (h1 : id ≤ 9223372036854775807) (ops : List OpS) : rawC (putC (locC id ops)) =
  (⟨1, id, 0, (ycu' (putR 1 id ops)).1, (ycu' (putR 1 id ops)).2.1, (ycu' (putR 1 id ops)).2.2, [], 0, false⟩, ([], false), (getR (putR 1 id ops)).isNone) := by
 have hp : putC (locC id ops) = (yak' 1 ++ yak' id) ++ ydc' (putR 1 id ops) := by unfold putC; rw [if_pos (show (locC id ops).kind = 1 from rfl)]; rfl
 have ht := yfn' 40000 (putR 1 id ops) [] false (by have := yfl' 1 id ops; omega) (by omega)
 rw [List.append_nil] at ht
 unfold rawC
 rw [hp, yk8' 1 id _ (by omega) (by omega)]
 dsimp only
 rw [if_pos rfl, ht]
theorem yll' {id : Int} (h0 : 1 ≤ id) (h1 : id ≤ 9223372036854775807) {ops : List OpS} (hf : ∀ o ∈ ops, FitO o) : getC (putC (locC id ops)) = if mayS 1 id ops = 0 then some (locC id ops) else none := by
 unfold getC
 rw [yu6' (by omega) h1]
 by_cases hm : mayS 1 id ops = 0
 ·have hg := ypn' hm (by omega) h1 hf
  unfold ycu'
  rw [hg, if_pos hm]
  dsimp only [Option.getD, Option.isNone]
  rw [if_pos ⟨rfl, rfl, rfl⟩]
  rfl
 ·rw [ypb' hm, if_neg hm, if_neg]
  rintro ⟨h, -⟩
  cases h
theorem yvw' {id : Int} (h0 : 0 ≤ id) (h1 : id ≤ 9223372036854775807) (ops : List OpS) : rawC (putC (preC id ops)) =
  (⟨2, id, 1, (ycu' (putR 1 id ops)).1, (ycu' (putR 1 id ops)).2.1, (ycu' (putR 1 id ops)).2.2, [], 0, false⟩, ([], false), (getR (putR 1 id ops)).isNone) := by
 have hp : putC (preC id ops) = (yak' 2 ++ yak' id) ++ (yak' 1 ++ (yak' 0 ++ ydc' (putR 1 id ops))) := by
  unfold putC
  rw [if_neg (show ¬ (preC id ops).kind = 1 from (by decide : ¬ (2 : Int) = 1)), if_pos (show (preC id ops).kind = 2 from rfl)]
  show ((yak' 2 ++ yak' id) ++ yak' 1 ++ shB []) ++ ydc' (putR 1 id ops) = _
  simp only [List.append_assoc]
  rfl
 have ht := yfn' 40000 (putR 1 id ops) [] false (by have := yfl' 1 id ops; omega) (by omega)
 rw [List.append_nil] at ht
 have hs : shR (yak' 0 ++ ydc' (putR 1 id ops), false) = ([], ydc' (putR 1 id ops), false) := by
  unfold shR
  rw [ygj' 4 0 _ false (by omega) (by omega) (by omega)]
  rfl
 unfold rawC
 rw [hp, yk8' 2 id _ (by omega) (by omega)]
 dsimp only
 rw [if_neg (by decide), if_pos rfl, yc6' 1 _ false (by omega) (by omega)]
 dsimp only
 rw [hs]
 dsimp only
 rw [ht]
theorem ypr' {id : Int} (h0 : 1 ≤ id) (h1 : id ≤ 9223372036854775807) {ops : List OpS} (hf : ∀ o ∈ ops, FitO o) : getC (putC (preC id ops)) = if mayS 1 id ops = 0 then some (preC id ops) else none := by
 unfold getC
 rw [yvw' (by omega) h1]
 by_cases hm : mayS 1 id ops = 0
 ·have hg := ypn' hm (by omega) h1 hf
  unfold ycu'
  rw [hg, if_pos hm]
  dsimp only [Option.getD, Option.isNone]
  rw [if_pos ⟨rfl, rfl, rfl⟩]
  rfl
 ·rw [ypb' hm, if_neg hm, if_neg]
  rintro ⟨h, -⟩
  cases h
theorem ypw' {id : Int} (h0 : 0 ≤ id) (h1 : id ≤ 9223372036854775807) (yes : Bool) : getC (putC (decC id yes)) = some (decC id yes) := by
 have hp : putC (decC id yes) = (yak' 4 ++ yak' id) ++ yak' (bitI yes) := by
  unfold putC
  rw [if_neg (show ¬ (decC id yes).kind = 1 from (by decide : ¬ (4 : Int) = 1)), if_neg (show ¬ (decC id yes).kind = 2 from (by decide : ¬ (4 : Int) = 2)), if_neg (show ¬ (decC id yes).kind = 3 from (by decide : ¬ (4 : Int) = 3)), if_pos (show (decC id yes).kind = 4 from rfl)]
  rfl
 have hb : 0 ≤ bitI yes ∧ bitI yes ≤ 1 := by unfold bitI; split <;> omega
 have hc := ygj' 1 (bitI yes) [] false hb.1 hb.2 (by omega)
 rw [List.append_nil] at hc
 have hr : rawC (putC (decC id yes)) = (decC id yes, ([], false), false) := by
  unfold rawC
  rw [hp, yk8' 4 id _ (by omega) (by omega)]
  dsimp only
  rw [if_neg (by decide), if_neg (by decide), if_neg (by decide), if_pos rfl, hc]
  cases yes <;> rfl
 unfold getC
 rw [hr, if_pos ⟨rfl, rfl, rfl⟩]
theorem ys9' {c c' : CmdS} (h : getC (putC c) = some c) (h' : getC (putC c') = some c') (hne : c.kind ≠ c'.kind ∨ c.id ≠ c'.id) : putC c ≠ putC c' := by
 intro e
 rw [e, h'] at h
 injection h with h
 rcases hne with h1 | h1
 ·exact h1 (by rw [h])
 ·exact h1 (by rw [h])
theorem yg7' {b : Bs} {K : List (Bs × OutS)} (h : ∀ e ∈ K, e.1 ≠ b) : yjo' b K = none := by
 unfold yjo'
 have : K.find? (fun e => decide (e.1 = b)) = none := List.find?_eq_none.2 fun e he => by simpa using h e he
 rw [this]
 rfl
theorem yid' {S : ShardS} {id : Int} (h0 : 1 ≤ id) (h1 : id ≤ 9223372036854775807) {ops : List OpS} (hf : ∀ o ∈ ops, FitO o) (hk : ∀ e ∈ S.known, ∃ c, getC (putC c) = some c ∧ e.1 = putC c ∧ (c.kind ≠ 1 ∨ c.id ≠ id)) :
  ybn' S (putC (locC id ops)) = if mayS 1 id ops = 0 then (⟨1, id, (ybj' S.p 1 id ops).1, 0, 0, [], false⟩, { S with p := (ybj' S.p 1 id ops).2, played := S.played + 1, known := S.known ++ [(putC (locC id ops), ⟨1, id, (ybj' S.p 1 id ops).1, 0, 0, [], false⟩)] })
   else (badO, { S with played := S.played + 1 }) := by
 have hg := yll' h0 h1 hf
 unfold ybn'
 by_cases hm : mayS 1 id ops = 0
 ·rw [if_pos hm] at hg
  have hl : yjo' (putC (locC id ops)) S.known = none := yg7' fun e he => by
   obtain ⟨c, c1, c2, c3⟩ := hk e he
   rw [c2]
   exact ys9' c1 hg c3
  rw [hg, if_pos hm]
  dsimp only
  rw [hl]
  dsimp only
  unfold doC
  rw [if_pos (show (locC id ops).kind = 1 from rfl)]
  rfl
 ·rw [if_neg hm] at hg
  rw [hg, if_neg hm]
theorem yv0' {S : ShardS} {id : Int} (h0 : 1 ≤ id) (h1 : id ≤ 9223372036854775807) {ops : List OpS} (hf : ∀ o ∈ ops, FitO o) (hk : ∀ e ∈ S.known, ∃ c, getC (putC c) = some c ∧ e.1 = putC c ∧ (c.kind ≠ 2 ∨ c.id ≠ id)) :
  ybn' S (putC (preC id ops)) = if mayS 1 id ops = 0 then (⟨2, id, yev', (yc8' S.p id 1 ops).1.1, (yc8' S.p id 1 ops).1.2, [], false⟩, { S with p := (yc8' S.p id 1 ops).2, played := S.played + 1, known := S.known ++ [(putC (preC id ops), ⟨2, id, yev', (yc8' S.p id 1 ops).1.1, (yc8' S.p id 1 ops).1.2, [], false⟩)] })
   else (badO, { S with played := S.played + 1 }) := by
 have hg := ypr' h0 h1 hf
 unfold ybn'
 by_cases hm : mayS 1 id ops = 0
 ·rw [if_pos hm] at hg
  have hl : yjo' (putC (preC id ops)) S.known = none := yg7' fun e he => by
   obtain ⟨c, c1, c2, c3⟩ := hk e he
   rw [c2]
   exact ys9' c1 hg c3
  rw [hg, if_pos hm]
  dsimp only
  rw [hl]
  dsimp only
  unfold doC
  rw [if_neg (show ¬ (preC id ops).kind = 1 by show ¬ (2 : Int) = 1; decide), if_pos (show (preC id ops).kind = 2 from rfl)]
  rfl
 ·rw [if_neg hm] at hg
  rw [hg, if_neg hm]
theorem yps' {S : ShardS} {id : Int} (h0 : 0 ≤ id) (h1 : id ≤ 9223372036854775807) (yes : Bool) (hk : ∀ e ∈ S.known, ∃ c, getC (putC c) = some c ∧ e.1 = putC c ∧ (c.kind ≠ 4 ∨ c.id ≠ id)) :
  ybn' S (putC (decC id yes)) = (⟨4, id, yev', (ya7' S.p id yes).1.2, 0, (ya7' S.p id yes).1.1, false⟩, { S with p := (ya7' S.p id yes).2, played := S.played + 1, known := S.known ++ [(putC (decC id yes), ⟨4, id, yev', (ya7' S.p id yes).1.2, 0, (ya7' S.p id yes).1.1, false⟩)] }) := by
 have hg := ypw' h0 h1 yes
 unfold ybn'
 have hl : yjo' (putC (decC id yes)) S.known = none := yg7' fun e he => by
  obtain ⟨c, c1, c2, c3⟩ := hk e he
  rw [c2]
  exact ys9' c1 hg c3
 rw [hg]
 dsimp only
 rw [hl]
 dsimp only
 unfold doC
 rw [if_neg (show ¬ (decC id yes).kind = 1 by show ¬ (4 : Int) = 1; decide), if_neg (show ¬ (decC id yes).kind = 2 by show ¬ (4 : Int) = 2; decide), if_neg (show ¬ (decC id yes).kind = 3 by show ¬ (4 : Int) = 3; decide), if_pos (show (decC id yes).kind = 4 from rfl)]
 rfl
end Go.Proofs.YtcnkifbjlihaoaaGreatDoor

namespace Go.Av
open Go.RowKit
def yhz' (ops : List OpS) : List Bs := ops.flatMap yaw'
theorem yqu' {o : OpS} (h : ybm' o.p = true) : ∀ p ∈ yaw' o, ybm' p = true := by
 intro p hp
 unfold yaw' at hp
 split at hp
 ·rw [List.mem_singleton] at hp; rw [hp]; exact h
 ·rename_i up hup
  split at hp
  ·rcases List.mem_cons.1 hp with hp | hp
   ·rw [hp]; exact h
   ·rw [List.mem_singleton] at hp; rw [hp]; exact yn8' hup
  ·rw [List.mem_singleton] at hp; rw [hp]; exact h
theorem yue' {o : OpS} (h : yb4' o = 0) : ybm' o.p = true := (yc7' (ydk' h).1).2.2.1
theorem ys1' (p : Bs) : ydf' p p = true := by unfold ydf'; simp
theorem yf5' {H : ybx'} {who : Int} {p : Bs} (h : ybo' H who p = false) (hg : ybm' p = true) : ∀ e ∈ H, e.2 ≠ who → ydf' p e.1 = false := by
 intro e he hw
 unfold ybo' at h
 rw [hg, Bool.true_and] at h
 have := List.any_eq_false.1 h e he
 cases hn : ydf' p e.1 with
 | false => rfl
 | true => exact absurd (by simp [hw, hn]) this
theorem yrj' {H : ybx'} {id : Int} {ops : List OpS} (h : ydt' H id ops = none) : ∀ o ∈ ops, ∀ p ∈ yaw' o, ybo' H id p = false := by
 intro o ho p hp
 have h1 := List.findIdx?_eq_none_iff.1 h o ho
 have h2 := List.any_eq_false.1 h1 p hp
 simpa using h2
theorem yvq' {H : ybx'} {p : Bs} {who : Int} {e : Bs × Int} (he : e ∈ H) (hne : e.1 ≠ p ∨ e.2 = who) : e ∈ setH H p who := by
 unfold setH
 by_cases h : (H.any fun e => decide (e.1 = p)) = true
 ·rw [if_pos h]
  refine List.mem_map.2 ⟨e, he, ?_⟩
  by_cases hp : e.1 = p
  ·rw [if_pos hp]
   rcases hne with h1 | h1
   ·exact absurd hp h1
   ·rw [← h1, ← hp]
  ·rw [if_neg hp]
 ·rw [if_neg h]
  exact List.mem_append_left _ he
theorem ymg' {who : Int} {e : Bs × Int} : ∀ (ps : List Bs) {H : ybx'}, e ∈ H → ((∀ p ∈ ps, e.1 ≠ p) ∨ e.2 = who) → e ∈ ps.foldl (fun H p => setH H p who) H
 | [], _, h, _ => h
 | p :: ps, H, h, hne => ymg' ps (yvq' h (hne.imp (fun g => g p k_s) id)) (hne.imp (fun g q hq => g q (k_n _ hq)) id)
theorem ykv' {H : ybx'} {who : Int} {ps : List Bs} (h : ¬ (ydh' H who ps).isSome = true) : ∀ p ∈ ps, ybm' p = true ∧ ybo' H who p = false := by
 unfold ydh' at h
 split at h
 ·exact absurd rfl h
 ·rename_i h1
  intro p hp
  have a := List.find?_eq_none.1 h1 p hp
  have b := List.find?_eq_none.1 (by cases hq : ps.find? (fun p => ybo' H who p) with | none => rfl | some _ => rw [hq] at h; exact absurd rfl h) p hp
  exact ⟨by simpa using a, by simpa using b⟩
theorem yti' {H : ybx'} {who : Int} {ps : List Bs} {e : Bs × Int} (he : e ∈ H) : e ∈ yc9' H who ps := by
 unfold yc9'
 split
 ·exact he
 ·rename_i h
  refine ymg' ps he ?_
  by_cases hw : e.2 = who
  ·exact .inr hw
  ·refine .inl fun p hp e1 => ?_
   obtain ⟨g1, g2⟩ := ykv' h p hp
   have := yf5' g2 g1 e he hw
   rw [e1, ys1'] at this
   cases this
theorem ym2' {W : yeb'} {id : Int} {x : WaitS} (h : ydu' W id = some x) : (id, x) ∈ W := by
 unfold ydu' at h
 obtain ⟨e, h1, h2⟩ := Option.map_eq_some_iff.1 h
 have h3 := List.find?_some h1
 have h4 : e.1 = id := by simpa using h3
 have h5 := List.mem_of_find?_eq_some h1
 rw [← h4, ← h2]
 exact h5
theorem ysr' {W : yeb'} {id : Int} {x : WaitS} {e : Int × WaitS} (h : ydu' W id = some x) : ydu' (W ++ [e]) id = some x := by
 unfold ydu' at h ⊢
 obtain ⟨y, h1, h2⟩ := Option.map_eq_some_iff.1 h
 rw [List.find?_append, h1]
 exact congrArg some h2
theorem ys7' {W : yeb'} {id i : Int} (hne : i ≠ id) : ydu' (delW W id) i = ydu' W i := by
 unfold ydu' delW
 rw [List.find?_filter]
 congr 1
 congr 1
 funext e
 by_cases h : e.1 = i
 ·simp [h, hne]
 ·simp [h]
def yhs' (e : Int × WaitS) : Nat := if e.2.fails then 0 else yao' e.2.ops
theorem ycf' (e : Int × WaitS) (W : yeb') : ya4' (e :: W) = yhs' e + ya4' W := by unfold ya4' yhs'; rw [List.map_cons, List.sum_cons]
theorem ynr' (W : yeb') (e : Int × WaitS) : ya4' (W ++ [e]) = ya4' W + yhs' e := by
 unfold ya4' yhs'
 rw [List.map_append, List.sum_append]
 simp
theorem yj6' (id : Int) : ∀ W : yeb', ya4' (delW W id) ≤ ya4' W
 | [] => Nat.le_refl _
 | e :: W => by
  have ih := yj6' id W
  unfold delW at ih ⊢
  rw [List.filter_cons]
  split
  ·rw [ycf', ycf']; omega
  ·rw [ycf']; omega
theorem yiv' {id : Int} {x : WaitS} : ∀ {W : yeb'}, ydu' W id = some x → ya4' (delW W id) + yhs' (id, x) ≤ ya4' W
 | [], h => by cases h
 | e :: W, h => by
  by_cases he : e.1 = id
  ·have h1 : ydu' (e :: W) id = some e.2 := by unfold ydu'; rw [List.find?_cons]; simp [he]
   rw [h1] at h
   injection h with h
   have h2 : delW (e :: W) id = delW W id := by unfold delW; rw [List.filter_cons, if_neg (by simp [he])]
   have h3 := yj6' id W
   rw [h2, ycf']
   have h4 : yhs' (id, x) = yhs' e := by unfold yhs'; rw [← h]
   omega
  ·have hb : (e.1 == id) = false := by simpa using he
   have h1 : ydu' (e :: W) id = ydu' W id := by unfold ydu'; rw [List.find?_cons, hb]
   rw [h1] at h
   have ih := yiv' h
   have h2 : delW (e :: W) id = e :: delW W id := by unfold delW; rw [List.filter_cons, if_pos (by simp [he])]
   rw [h2, ycf', ycf']
   omega
theorem ymn' {e : Int × WaitS} : ∀ {W : yeb'}, e ∈ W → yhs' e ≤ ya4' W
 | y :: W, h => by
  rw [ycf']
  rcases List.mem_cons.1 h with rfl | h
  ·omega
  ·have := ymn' h; omega
theorem ym8' (o : OpS) (l : List OpS) : yao' (o :: l) = (if o.kind = 1 then 1 else 0) + yao' l := by
 have := yc0' [o] l
 rw [ydp'] at this
 exact this
theorem ym6' {sess z : Int} : ∀ (l : List OpS) (S : TreeS), (yan' sess z l S).2.1.l.length ≤ S.l.length + yao' l
 | [], _ => Nat.le_refl _
 | o :: l, S => by
  have h1 := ytm' S o sess z
  have h2 := ym6' (sess := sess) (z := z) l (doT S o sess z).2
  rw [ym8']
  unfold yan'
  split
  ·dsimp only; omega
  ·dsimp only; omega
theorem yp8' (S : TreeS) (sess z : Int) (l : List OpS) : (ybc' S sess z l).2.1.l.length ≤ S.l.length + yao' l := by
 unfold ybc'
 split
 ·dsimp only; omega
 ·split
  ·dsimp only; omega
  ·split
   ·dsimp only; omega
   ·exact ym6' l S
theorem yov' (S : TreeS) (sess num z : Int) (l : List OpS) : (yas' S sess num z l).2.l.length ≤ S.l.length + yao' l := by
 unfold yas'
 split
 ·dsimp only; omega
 ·exact yp8' S sess z l
def OwnK (s : Int) (S S' : TreeS) : Prop := ∀ p n, yai' p S'.l = some n → n.owner = s → ∃ n0, yai' p S.l = some n0 ∧ n0.owner = s
theorem OwnK.rfl (s : Int) (S : TreeS) : OwnK s S S := fun _ n h ho => ⟨n, h, ho⟩
theorem OwnK.trans {s : Int} {X Y Z : TreeS} (h : OwnK s X Y) (h2 : OwnK s Y Z) : OwnK s X Z := fun p n hn ho => by
 obtain ⟨m, h3, h4⟩ := h2 p n hn ho
 exact h p m h3 h4
theorem yzy' {K : Nat} {S : TreeS} (hB : TreeB K S) (o : OpS) {sess s : Int} (z : Int) (hs : 0 < s) (hne : s ≠ sess) : OwnK s S (doT S o sess z).2 := by
 unfold doT
 split
 ·exact .rfl s S
 ·split
  ·exact .rfl s S
  ·split
   ·unfold yb1'
    split
    ·exact .rfl s S
    ·rename_i hz
     obtain ⟨a1, -⟩ := ydv' (S := S) (o := o) (by omega)
     intro p n hn ho
     have hn : yai' p (layT (ya2' S o).2 (yoi' o sess z) S.l) = some n := hn
     rw [yc1' p _ _ hB.rise a1] at hn
     split at hn
     ·exfalso
      injection hn with hn
      rw [← hn] at ho
      have ho : (if ephF o.flags then sess else 0) = s := ho
      split at ho <;> omega
     ·split at hn
      ·obtain ⟨m, h1, h2⟩ := Option.map_eq_some_iff.1 hn
       exact ⟨m, h1, by rw [← ho, ← h2, yfj']⟩
      ·exact ⟨n, hn, ho⟩
   ·split
    ·unfold ybu'
     split
     ·exact .rfl s S
     ·rename_i n0 hn0
      split
      ·exact .rfl s S
      ·split
       ·exact .rfl s S
       ·split
        ·intro p n hn ho
         have hn : yai' p (remT o.p S.l) = some n := hn
         rw [ycr'] at hn
         split at hn
         ·cases hn
         ·split at hn
          ·obtain ⟨m, h1, h2⟩ := Option.map_eq_some_iff.1 hn
           exact ⟨m, h1, by rw [← ho, ← h2, yen']⟩
          ·exact ⟨n, hn, ho⟩
        ·split
         ·intro p n hn ho
          have hn : yai' p (setT o.p (ycz' n0 z o.data) S.l) = some n := hn
          rw [ycl'] at hn
          split at hn
          ·rename_i e
           rw [hn0] at hn
           injection hn with hn
           rw [e]
           exact ⟨n0, hn0, by rw [← ho, ← hn]; rfl⟩
          ·exact ⟨n, hn, ho⟩
         ·exact .rfl s S
    ·exact .rfl s S
theorem ynt' {sess z s : Int} (hs : 0 < s) (hne : s ≠ sess) : ∀ (l : List OpS) {K : Nat} {S : TreeS}, TreeB K S → OwnK s S (yan' sess z l S).2.1
 | [], _, S, _ => .rfl s S
 | o :: l, K, S, hB => by
  have h1 := yzy' hB o z hs hne
  unfold yan'
  split
  ·exact h1
  ·exact h1.trans (ynt' hs hne l (do_b hB o sess z))
theorem ypp' {K : Nat} {S : TreeS} (hB : TreeB K S) (l : List OpS) {sess s : Int} (z : Int) (hs : 0 < s) (hne : s ≠ sess) : OwnK s S (ybc' S sess z l).2.1 := by
 unfold ybc'
 split
 ·exact .rfl s S
 ·split
  ·exact .rfl s S
  ·split
   ·exact .rfl s S
   ·exact ynt' hs hne l hB
theorem yom' {K : Nat} {S : TreeS} (hB : TreeB K S) (l : List OpS) {sess s : Int} (num z : Int) (hs : 0 < s) (hne : s ≠ sess) : OwnK s S (yas' S sess num z l).2 := by
 unfold yas'
 split
 ·exact .rfl s S
 ·exact ypp' hB l z hs hne
theorem yuj' (s : Int) : ∀ (l : List Bs) (S : TreeS), OwnK s S (purT l S)
 | [], S => .rfl s S
 | p :: l, S => by
  refine OwnK.trans (Y := { S with l := remT p S.l }) (fun q n hn ho => ?_) (yuj' s l _)
  have hn : yai' q (remT p S.l) = some n := hn
  rw [ycr'] at hn
  split at hn
  ·cases hn
  ·split at hn
   ·obtain ⟨m, h1, h2⟩ := Option.map_eq_some_iff.1 hn
    exact ⟨m, h1, by rw [← ho, ← h2, yen']⟩
   ·exact ⟨n, hn, ho⟩
theorem yol' {K K' : Nat} {s : Int} {S S' : TreeS} (h : OwnK s S S') (hB : TreeB K S) (hB' : TreeB K' S') : ∀ p ∈ ofT S' s, p ∈ ofT S s := by
 intro p hp
 obtain ⟨n, h1, h2, h3⟩ := ywx'.1 hp
 obtain ⟨m, h4, h5⟩ := h p n ((ybs' (ybe' hB'.rise)).2 h1) h3
 exact ywx'.2 ⟨m, (ybs' (ybe' hB.rise)).1 h4, h2, h5⟩
structure Fore (ops : List OpS) (X : TreeS) (S : PartS) : Prop where
 look : ydu' S.wait 7 = some ⟨1, ops, false, false⟩
 held : ∀ p ∈ yhz' ops, (p, (7 : Int)) ∈ S.held
 sim : Sim (yhz' ops) X S.t
 room : S.t.room = X.room
 others : ∀ e ∈ S.wait, e.1 ≠ 7 → e.2.close = false → ∀ o ∈ e.2.ops, ∀ p ∈ yaw' o, FarW (yhz' ops) p
 closes : ∀ e ∈ S.wait, e.2.close = true → 0 < e.2.sess ∧ e.2.ops = [] ∧ ∀ p ∈ ofT S.t e.2.sess, FarW (yhz' ops) p
 sess : ∀ e ∈ S.wait, e.2.close = true → ∀ e' ∈ S.wait, e'.2.close = false → e.2.sess ≠ e'.2.sess
 cap : yao' ops = 0 ∨ ((S.t.l.length + ya4' S.wait : Nat) : Int) ≤ S.t.room ∨ (S.t.l.length ≤ X.l.length ∧ ∀ e ∈ S.wait, e.1 ≠ 7 → yhs' e = 0)
theorem Fore.in_ {ops : List OpS} {X : TreeS} {S : PartS} (h : Fore ops X S) : ((7 : Int), (⟨1, ops, false, false⟩ : WaitS)) ∈ S.wait := ym2' h.look
theorem Fore.want {ops : List OpS} {X : TreeS} {S : PartS} (h : Fore ops X S) : yao' ops ≤ ya4' S.wait := ymn' h.in_
theorem yum' {S : PartS} {id sess : Int} {ops : List OpS} (h : ¬ (yct' S id sess ops).1 ≠ 0) : ycs' S.wait sess = false ∧ ydt' S.held id ops = none ∧ ¬ (0 < yao' ops ∧ 0 < ya4' S.wait ∧ S.t.room < ya4' S.wait + S.t.l.length + yao' ops) := by
 unfold yct' at h
 split at h
 ·exact absurd (by show (11 : Int) ≠ 0; decide) h
 ·split at h
  ·exact absurd (by show (12 : Int) ≠ 0; decide) h
  ·rename_i h2
   split at h
   ·exact absurd (by show (12 : Int) ≠ 0; decide) h
   ·rename_i h3
    split at h
    ·exact absurd (by show (12 : Int) ≠ 0; decide) h
    ·rename_i h4
     exact ⟨by simpa using h2, h3, h4⟩
theorem Fore.far {ops : List OpS} {X : TreeS} {S : PartS} (h : Fore ops X S) {id sess : Int} {l : List OpS} (hid : id ≠ 7) (hb : ¬ (yct' S id sess l).1 ≠ 0) (hg : ∀ o ∈ l, yb4' o = 0) : ∀ o ∈ l, ∀ p ∈ yaw' o, FarW (yhz' ops) p := by
 intro o ho p hp q hq
 have h1 := yrj' (yum' hb).2.1 o ho p hp
 exact yf5' h1 (yqu' (yue' (hg o ho)) p hp) _ (h.held q hq) (fun e => hid e.symm)
theorem yqy' {W : yeb'} {sess : Int} (h : ycs' W sess = false) : ∀ e ∈ W, e.2.close = true → e.2.sess ≠ sess := by
 intro e he hc hs
 have := List.any_eq_false.1 h e he
 rw [hc, hs] at this
 simp at this
theorem Fore.local {K : Nat} {ops : List OpS} {X : TreeS} {S : PartS} (h : Fore ops X S) (hB : PartB K S) (sess num : Int) (l : List OpS) : Fore ops X (ybj' S sess num l).2 := by
 unfold ybj'
 split
 ·exact h
 ·rename_i hm
  split
  ·exact ⟨h.look, h.held, h.sim, h.room, h.others, h.closes, h.sess, h.cap⟩
  ·rename_i hb
   have hg := yfa' (by simpa using hm : mayS sess num l = 0)
   have hf := h.far (by decide) hb hg.2
   obtain ⟨b1, b2, b3⟩ := yum' hb
   have hr := ymk' hB.tree sess num (S.zxid + 1) l
   refine ⟨h.look, h.held, h.sim.keep (yno' hB.tree hf _ _ _), (ye5' ..).trans h.room, h.others, fun e he hc => ?_, h.sess, ?_⟩
   ·obtain ⟨c1, c2, c3⟩ := h.closes e he hc
    exact ⟨c1, c2, fun p hp => c3 p (yol' (yom' hB.tree l num (S.zxid + 1) c1 (yqy' b1 e he hc)) hB.tree hr p hp)⟩
   ·have hlen := yov' S.t sess num (S.zxid + 1) l
    have hw := h.want
    show _ ∨ (((yas' S.t sess num (S.zxid + 1) l).2.l.length + ya4' S.wait : Nat) : Int) ≤ (yas' S.t sess num (S.zxid + 1) l).2.room ∨ ((yas' S.t sess num (S.zxid + 1) l).2.l.length ≤ X.l.length ∧ _)
    rw [ye5']
    by_cases h0 : yao' ops = 0
    ·exact .inl h0
    ·right
     by_cases hc : yao' l = 0
     ·rcases h.cap with h2 | h2 | h2
      ·exact absurd h2 h0
      ·left; omega
      ·right; exact ⟨by omega, h2.2⟩
     ·left; omega
theorem Fore.close {K : Nat} {ops : List OpS} {X : TreeS} {S : PartS} (h : Fore ops X S) (hB : PartB K S) {id : Int} (hid : id ≠ 7) (sess : Int) : Fore ops X (ycj' S id sess).2 := by
 unfold ycj'
 split
 ·exact h
 ·rename_i hk
  split
  ·exact h
  ·split
   ·exact h
   ·rename_i hu
    split
    ·exact h
    ·rename_i hw
     have hs : 0 < sess := by
      unfold ycc' at hk
      simp only [Bool.or_eq_true, decide_eq_true_eq, not_or] at hk
      omega
     have huse : ∀ e ∈ S.wait, e.2.sess ≠ sess := fun e he hh => by
      have hu : ymz' S.wait sess = false := by simpa using hu
      have := List.any_eq_false.1 hu e he
      rw [hh] at this
      simp at this
     refine ⟨ysr' h.look, fun p hp => yti' (h.held p hp), h.sim, h.room, fun e he h7 hc => ?_, fun e he hc => ?_, fun e he hc e' he' hc' => ?_, ?_⟩
     ·rcases List.mem_append.1 he with he | he
      ·exact h.others e he h7 hc
      ·rw [List.mem_singleton] at he; rw [he] at hc; cases hc
     ·rcases List.mem_append.1 he with he | he
      ·exact h.closes e he hc
      ·rw [List.mem_singleton] at he
       rw [he]
       refine ⟨hs, rfl, fun p hp q hq => ?_⟩
       obtain ⟨g1, g2⟩ := ykv' hw p hp
       exact yf5' g2 g1 _ (h.held q hq) (fun e => hid e.symm)
     ·rcases List.mem_append.1 he with he | he
      ·rcases List.mem_append.1 he' with he' | he'
       ·exact h.sess e he hc e' he' hc'
       ·rw [List.mem_singleton] at he'; rw [he'] at hc'; cases hc'
      ·rcases List.mem_append.1 he' with he' | he'
       ·rw [List.mem_singleton] at he; rw [he]; exact (huse e' he').symm
       ·rw [List.mem_singleton] at he'; rw [he'] at hc'; cases hc'
     ·show _ ∨ ((S.t.l.length + ya4' (S.wait ++ [_]) : Nat) : Int) ≤ S.t.room ∨ (S.t.l.length ≤ X.l.length ∧ ∀ e ∈ S.wait ++ [_], _)
      have hcost : yhs' (id, ⟨sess, [], true, false⟩) = 0 := rfl
      rw [ynr', hcost, Nat.add_zero]
      refine h.cap.imp (fun h => h) (Or.imp (fun h => h) fun h2 => ⟨h2.1, fun e he h7 => ?_⟩)
      rcases List.mem_append.1 he with he | he
      ·exact h2.2 e he h7
      ·rw [List.mem_singleton] at he; rw [he]; rfl
theorem Fore.decide {K : Nat} {ops : List OpS} {X : TreeS} {S : PartS} (h : Fore ops X S) (hB : PartB K S) {id : Int} (hid : id ≠ 7) (commit : Bool) : Fore ops X (ya7' S id commit).2 := by
 have hlk : ydu' (delW S.wait id) 7 = some ⟨1, ops, false, false⟩ := (ys7' (fun e => hid e.symm)).trans h.look
 have hw : ∀ e ∈ delW S.wait id, e ∈ S.wait := fun e he => (List.mem_filter.1 he).1
 have hhd : ∀ p ∈ yhz' ops, (p, (7 : Int)) ∈ yc4' S.held id := fun p hp => List.mem_filter.2 ⟨h.held p hp, by simpa using fun e => hid e.symm⟩
 have hoth : ∀ e ∈ delW S.wait id, e.1 ≠ 7 → e.2.close = false → ∀ o ∈ e.2.ops, ∀ p ∈ yaw' o, FarW (yhz' ops) p := fun e he => h.others e (hw e he)
 have hss : ∀ e ∈ delW S.wait id, e.2.close = true → ∀ e' ∈ delW S.wait id, e'.2.close = false → e.2.sess ≠ e'.2.sess := fun e he hc e' he' => h.sess e (hw e he) hc e' (hw e' he')
 unfold ya7'
 split
 ·exact h
 ·rename_i x hx
  have hxm := ym2' hx
  have hless := yiv' hx
  split
  ·refine ⟨hlk, hhd, h.sim, h.room, hoth, fun e he => h.closes e (hw e he), hss, h.cap.imp (fun h => h) (Or.imp (fun h2 => ?_) fun h2 => ⟨h2.1, fun e he => h2.2 e (hw e he)⟩)⟩
   show ((S.t.l.length + ya4' (delW S.wait id) : Nat) : Int) ≤ S.t.room
   omega
  ·rename_i hcf
   split
   ·rename_i hxc
    obtain ⟨c1, c2, c3⟩ := h.closes _ hxm hxc
    have hl := ysz' (yek' (ofT S.t x.sess)) S.t
    have hfar : ∀ p ∈ yek' (ofT S.t x.sess), FarW (yhz' ops) p := fun p hp => c3 p (by
     unfold yek' at hp
     obtain ⟨d, -, hd⟩ := List.mem_flatMap.1 hp
     exact (List.mem_filter.1 hd).1)
    refine ⟨hlk, hhd, h.sim.keep (yph' _ hfar), (yib' _ _).trans h.room, hoth, fun e he hc => ?_, hss, ?_⟩
    ·obtain ⟨d1, d2, d3⟩ := h.closes e (hw e he) hc
     exact ⟨d1, d2, fun p hp => d3 p (yol' (yuj' _ _ _) hB.tree (yo8' _ hB.tree) p hp)⟩
    ·show _ ∨ (((purT (yek' (ofT S.t x.sess)) S.t).l.length + ya4' (delW S.wait id) : Nat) : Int) ≤ (purT (yek' (ofT S.t x.sess)) S.t).room ∨ ((purT (yek' (ofT S.t x.sess)) S.t).l.length ≤ X.l.length ∧ _)
     rw [yib']
     refine h.cap.imp (fun h => h) (Or.imp (fun h2 => by omega) fun h2 => ⟨by omega, fun e he => h2.2 e (hw e he)⟩)
   ·rename_i hxc
    have hxc : x.close = false := by simpa using hxc
    have hxf : x.fails = false := by
     cases hxx : x.fails with
     | false => rfl
     | true => rw [hxx] at hcf; simp at hcf
    have hfar := h.others _ hxm hid hxc
    have hcost : yhs' (id, x) = yao' x.ops := by unfold yhs'; rw [hxf]; rfl
    have hl := yp8' S.t x.sess (S.zxid + 1) x.ops
    refine ⟨hlk, hhd, h.sim.keep (yni' hB.tree hfar _ _), (yg6' ..).trans h.room, hoth, fun e he hc => ?_, hss, ?_⟩
    ·obtain ⟨d1, d2, d3⟩ := h.closes e (hw e he) hc
     exact ⟨d1, d2, fun p hp => d3 p (yol' (ypp' hB.tree x.ops (S.zxid + 1) d1 (h.sess e (hw e he) hc _ hxm hxc)) hB.tree (ysn' hB.tree _ _ _) p hp)⟩
    ·show _ ∨ (((ybc' S.t x.sess (S.zxid + 1) x.ops).2.1.l.length + ya4' (delW S.wait id) : Nat) : Int) ≤ (ybc' S.t x.sess (S.zxid + 1) x.ops).2.1.room ∨ ((ybc' S.t x.sess (S.zxid + 1) x.ops).2.1.l.length ≤ X.l.length ∧ _)
     rw [yg6']
     refine h.cap.imp (fun h => h) (Or.imp (fun h2 => by omega) fun h2 => ⟨?_, fun e he => h2.2 e (hw e he)⟩)
     have := h2.2 _ hxm hid
     omega
theorem ykb' {sess z : Int} : ∀ (l : List OpS) {K : Nat} {S : TreeS}, TreeB K S → ydj' S → (∀ o ∈ l, yb4' o = 0) → (yan' sess z l S).2.2 = 0 → ∀ r ∈ (yan' sess z l S).1, r.err = 0 ∧ r.path.data.toList ≠ []
 | [], _, _, _, _, _, _, r, hr => by cases hr
 | o :: l, K, S, hB, hG, hg, h, r, hr => by
  have h0 := yi0' h
  rw [yhc' l h0] at h hr
  rcases List.mem_cons.1 hr with rfl | hr
  ·refine ⟨h0, ?_⟩
   have hne : ∀ p : Bs, ybm' p = true → p ≠ [] := fun p hp e => by rw [e] at hp; cases hp
   have hgo := yue' (hg o k_s)
   have hop : o.path.data.toList ≠ [] := hne o.p hgo
   unfold doT at h0 ⊢
   by_cases h1 : yb4' o ≠ 0
   ·exact absurd (hg o k_s) h1
   rw [if_neg h1] at h0 ⊢
   by_cases h2 : sess < 1 ∨ z < 0
   ·rw [if_pos h2] at h0; exact absurd h0 (by show (1 : Int) ≠ 0; decide)
   rw [if_neg h2] at h0 ⊢
   by_cases h3 : o.kind = 1
   ·rw [if_pos h3] at h0 ⊢
    unfold yb1' at h0 ⊢
    by_cases h4 : (ya2' S o).1 ≠ 0
    ·rw [if_pos h4] at h0; exact absurd h0 h4
    rw [if_neg h4]
    have := yr8' hgo (by omega : (ya2' S o).1 = 0)
    exact hne _ this
   rw [if_neg h3] at h0 ⊢
   by_cases h4 : o.kind = 2 ∨ o.kind = 3 ∨ o.kind = 4
   ·rw [if_pos h4] at h0 ⊢
    unfold ybu' at h0 ⊢
    cases hn : yai' o.p S.l with
    | none => rw [hn] at h0; exact absurd h0 (by show (4 : Int) ≠ 0; decide)
    | some n =>
     rw [hn] at h0
     dsimp only at h0 ⊢
     by_cases g1 : ye3' o n = true
     ·rw [if_pos g1] at h0; exact absurd h0 (by show (6 : Int) ≠ 0; decide)
     rw [if_neg g1] at h0 ⊢
     by_cases g2 : o.kind = 2 ∧ 0 < n.names.length
     ·rw [if_pos g2] at h0; exact absurd h0 (by show (7 : Int) ≠ 0; decide)
     rw [if_neg g2]
     by_cases g3 : o.kind = 2
     ·rw [if_pos g3]; exact hop
     rw [if_neg g3]
     by_cases g4 : o.kind = 3
     ·rw [if_pos g4]; exact hop
     rw [if_neg g4]; exact hop
   rw [if_neg h4] at h0 ⊢
   unfold yh5' at h0 ⊢
   cases hn : yai' o.p S.l with
   | none => rw [hn] at h0; exact absurd h0 (by show (4 : Int) ≠ 0; decide)
   | some n => exact hop
  ·exact ykb' l (do_b hB o sess z) (do_g hG o sess z) (fun x hx => hg x (k_n _ hx)) h r hr
theorem Fore.done {K K' : Nat} {ops : List OpS} {X : TreeS} {S : PartS} {z : Int} (h : Fore ops X S) (hX : TreeB K X) (hB : PartB K' S) (hz : 0 ≤ S.zxid) (h0 : (yan' 1 z ops X).2.2 = 0) (hg : ∀ o ∈ ops, yb4' o = 0) (hne : ops ≠ []) (h16 : ops.length ≤ 16) :
  (ya7' S 7 true).1.2 = 0 ∧ (ya7' S 7 true).1.1.length = ops.length ∧ ∀ r ∈ (ya7' S 7 true).1.1, r.err = 0 ∧ r.path.data.toList ≠ [] := by
 have hs : (yan' 1 (S.zxid + 1) ops S.t).2.2 = 0 := by
  refine ynd' (by omega) ops h.sim hX hB.tree h.room (fun o ho p hp => List.mem_flatMap.2 ⟨o, ho, hp⟩) h0 ?_
  have hw := h.want
  rcases h.cap with h1 | h1 | h1
  ·left; have := hB.tree.len; omega
  ·left; omega
  ·right; exact h1.1
 have hm : ybc' S.t 1 (S.zxid + 1) ops = (⟨0, S.zxid + 1, 0, -1, (yan' 1 (S.zxid + 1) ops S.t).1⟩, (yan' 1 (S.zxid + 1) ops S.t).2.1, true) := by
  unfold ybc'
  rw [if_neg (by omega), if_neg (by intro e; exact hne (List.eq_nil_of_length_eq_zero e)), if_neg (fun hh => hh hs)]
 unfold ya7'
 rw [h.look]
 dsimp only
 rw [if_neg (by simp), if_neg (by simp), hm]
 refine ⟨rfl, ygt' ops _ hs, ?_⟩
 exact ykb' ops hB.tree hB.good hg hs
theorem Fore.not {ops : List OpS} {X : TreeS} {S : PartS} (h : Fore ops X S) : (ya7' S 7 false).1 = ([], 0) ∧ (ya7' S 7 false).2.t = S.t := by
 unfold ya7'
 rw [h.look]
 dsimp only
 rw [if_pos (by simp)]
 exact ⟨rfl, rfl⟩
end Go.Av

namespace Go.Av
open Go.RowKit
def ynp' (rs : List ResS) : Prop := rs.length ≤ 16 ∧ ∀ r ∈ rs, r.names.length ≤ 100000
theorem ybg' : ynp' [] := ⟨by simp, by simp⟩
theorem ywc' {K : Nat} {S : TreeS} (h : TreeB K S) (o : OpS) (sess zxid : Int) : (doT S o sess zxid).1.names.length ≤ K := by
 unfold doT
 split
 ·simp [yb3']
 ·split
  ·simp [yb3']
  ·split
   ·unfold yb1'
    split <;> simp [yb3']
   ·split
    ·unfold ybu'
     split
     ·simp [yb3']
     ·split
      ·simp [yb3']
      ·split
       ·simp [yb3']
       ·split
        ·simp
        ·split <;> simp
    ·unfold yh5'
     split
     ·simp [yb3']
     ·rename_i n hn
      have h1 : ∃ e ∈ S.l, e.2 = n := by
       unfold yai' at hn
       obtain ⟨e, he, rfl⟩ := Option.map_eq_some_iff.1 hn
       exact ⟨e, List.mem_of_find?_eq_some he, rfl⟩
      obtain ⟨e, he, rfl⟩ := h1
      have := (h.nodes e he).few
      dsimp only
      split
      ·exact this
      ·simp
theorem yis' {sess zxid : Int} : ∀ (l : List OpS) {K : Nat} {S : TreeS}, TreeB K S → ∀ r ∈ (yan' sess zxid l S).1, r.names.length ≤ K + l.length
 | [], _, _, _, r, hr => by cases hr
 | o :: l, K, S, h, r, hr => by
  unfold yan' at hr
  split at hr
  ·cases hr
  ·rcases List.mem_cons.1 hr with rfl | hr
   ·have := ywc' h o sess zxid
    omega
   ·have := yis' l (do_b h o sess zxid) r hr
    rw [List.length_cons]
    omega
theorem yfp' (num e at_ n : Int) : ynp' (yel' num e at_ n).rs := by
 unfold yel'
 dsimp only
 split
 ·exact ybg'
 ·refine ⟨by rw [ykm']; omega, fun r hr => ?_⟩
  unfold yfw' at hr
  obtain ⟨i, -, rfl⟩ := List.mem_map.1 hr
  simp [yb3']
theorem yo9' {K : Nat} {S : TreeS} (h : TreeB K S) (hK : K ≤ 90000) (sess zxid : Int) (ops : List OpS) : ynp' (ybc' S sess zxid ops).1.rs := by
 unfold ybc'
 split
 ·exact yfp' ..
 ·split
  ·exact yfp' ..
  ·split
   ·exact yfp' ..
   ·rename_i h1 h2 h3
    have h4 := ygt' (sess := sess) (zxid := zxid) ops S (by omega)
    refine ⟨by show (yan' sess zxid ops S).1.length ≤ 16; omega, fun r hr => ?_⟩
    have := yis' ops h r hr
    omega
theorem ys8' {K : Nat} {S : PartS} (h : PartB K S) (hK : K ≤ 1000) (sess num : Int) (ops : List OpS) : ynp' (ybj' S sess num ops).1.rs := by
 unfold ybj'
 split
 ·exact yfp' ..
 ·split
  ·dsimp only
   exact yfp' ..
  ·unfold yas'
   dsimp only
   split
   ·exact yfp' ..
   ·exact yo9' h.tree (by omega) ..
theorem yrb' {K : Nat} {S : PartS} (h : PartB K S) (hK : K ≤ 1000) (id : Int) (yes : Bool) : ynp' (ya7' S id yes).1.1 := by
 unfold ya7'
 split
 ·exact ybg'
 ·split
  ·exact ybg'
  ·split
   ·exact ybg'
   ·exact yo9' h.tree (by omega) ..
end Go.Av
namespace Go.Proofs.YtcnkifbjlihaoaaGreatDoor
open Go.RowKit Go.Av
def ytf' (o : OutS) : Prop := ynp' o.reply.rs ∧ ynp' o.rs
theorem yzg' : ytf' badO := ⟨ybg', ybg'⟩
theorem yt3' (S : CoS) (id : Int) (l : List Int) : (yhx' S id l).2.length ≤ S.length + 1 := by
 unfold yhx'
 split
 ·exact Nat.le_succ _
 ·split
  ·exact Nat.le_succ _
  ·simp
theorem ylw' (id : Int) (φ : EntS → EntS) (S : CoS) : (putS id φ S).length = S.length := by unfold putS; rw [List.length_map]
theorem yv2' (S : CoS) (id k : Int) (ok : Bool) : (ynf' S id k ok).2.length = S.length := by
 unfold ynf'
 split
 ·rfl
 ·split
  ·rfl
  ·exact ylw' ..
theorem ywg' (S : CoS) (id k : Int) : (ym5' S id k).2.length = S.length := by
 unfold ym5'
 split
 ·rfl
 ·split
  ·rfl
  ·split
   ·rfl
   ·exact ylw' ..
theorem ytg' (S : CoS) (id : Int) : (yfv' S id).2.2.length = S.length := by
 unfold yfv'
 split
 ·rfl
 ·exact ylw' ..
structure ShB (K : Nat) (S : ShardS) : Prop where
 p : PartC K S.p
 c : S.c.length ≤ K
 known : ∀ e ∈ S.known, ytf' e.2
 played : 0 ≤ S.played ∧ S.played ≤ K
theorem yn0' (room : Int) (h : 1 ≤ room ∧ room ≤ 500) : ShB 0 (ye1' room) := ⟨yz1' room h, by simp [ye1'], by simp [ye1'], by simp [ye1']⟩
theorem y0b' {K : Nat} {S : ShardS} (hp : PartC K S.p) (hc : S.c.length ≤ K) (hK : K ≤ 1000) (c : CmdS) : ytf' (doC S c).1 ∧ PartC (K + 1) (doC S c).2.p ∧ (doC S c).2.c.length ≤ K + 1 ∧ (doC S c).2.known = S.known ∧ (doC S c).2.played = S.played := by
 have hp1 : PartC (K + 1) S.p := hp.mono (Nat.le_succ _)
 unfold doC
 split
 ·exact ⟨⟨ys8' hp.b hK .., ybg'⟩, yyf' hp .., Nat.le_succ_of_le hc, rfl, rfl⟩
 split
 ·exact ⟨⟨ybg', ybg'⟩, yz6' hp .., Nat.le_succ_of_le hc, rfl, rfl⟩
 split
 ·exact ⟨⟨ybg', ybg'⟩, yyq' hp .., Nat.le_succ_of_le hc, rfl, rfl⟩
 split
 ·exact ⟨⟨ybg', yrb' hp.b hK ..⟩, yv1' hp .., Nat.le_succ_of_le hc, rfl, rfl⟩
 split
 ·exact ⟨⟨ybg', ybg'⟩, hp1, by have := yt3' S.c c.id c.shards; dsimp only; omega, rfl, rfl⟩
 split
 ·exact ⟨⟨ybg', ybg'⟩, hp1, by have := yv2' S.c c.id c.shard c.yes; dsimp only; omega, rfl, rfl⟩
 split
 ·exact ⟨⟨ybg', ybg'⟩, hp1, by have := ywg' S.c c.id c.shard; dsimp only; omega, rfl, rfl⟩
 ·exact ⟨⟨ybg', ybg'⟩, hp1, by have := ytg' S.c c.id; dsimp only; omega, rfl, rfl⟩
theorem yje' {b : Bs} {K : List (Bs × OutS)} {o : OutS} (h : yjo' b K = some o) : (b, o) ∈ K := by
 unfold yjo' at h
 obtain ⟨e, he, rfl⟩ := Option.map_eq_some_iff.1 h
 have h1 := List.find?_some he
 have h2 : e.1 = b := of_decide_eq_true h1
 rw [← h2]
 exact List.mem_of_find?_eq_some he
theorem yiu' {K : Nat} {S : ShardS} (h : ShB K S) (hK : K ≤ 1000) (b : Bs) : ytf' (ybn' S b).1 ∧ ShB (K + 1) (ybn' S b).2 := by
 have h0 : ShB (K + 1) { S with played := S.played + 1 } := ⟨h.p.mono (Nat.le_succ _), Nat.le_succ_of_le h.c, h.known, by have := h.played; dsimp only; omega⟩
 unfold ybn'
 split
 ·exact ⟨yzg', h0⟩
 ·rename_i c hc
  split
  ·rename_i o ho
   exact ⟨h.known _ (yje' ho), h0⟩
  ·obtain ⟨a1, a2, a3, a4, a5⟩ := y0b' (S := { S with played := S.played + 1 }) h.p h.c hK c
   refine ⟨a1, ⟨a2, a3, fun e he => ?_, ?_⟩⟩
   ·rcases List.mem_append.1 he with he | he
    ·exact h.known e he
    ·rw [List.mem_singleton] at he
     rw [he]
     exact a1
   ·show 0 ≤ (doC { S with played := S.played + 1 } c).2.played ∧ _
    rw [a5]
    exact h0.played
theorem yr0' {b : Bs} {c : CmdS} (h : getC b = some c) : 1 ≤ c.kind ∧ c.kind ≤ 8 := by
 unfold getC at h
 split at h
 ·rename_i hc
  injection h with h
  subst h
  obtain ⟨h1, h2, h3⟩ := hc
  by_cases hk : 1 ≤ (rawC b).1.kind ∧ (rawC b).1.kind ≤ 8
  ·exact hk
  ·exfalso
   have hp : putC (rawC b).1 = [] := by
    unfold putC
    rw [if_neg (by omega), if_neg (by omega), if_neg (by omega), if_neg (by omega), if_neg (by omega), if_neg (by omega), if_neg (by omega), if_neg (by omega)]
   rw [hp] at h3
   subst h3
   revert h2
   decide
 ·cases h
def ywy' (l : List Bs) (S : ShardS) : ShardS := l.foldl (fun S b => (ybn' S b).2) S
theorem yo5' : ∀ (l : List Bs) {K : Nat} {S : ShardS}, ShB K S → K + l.length ≤ 1000 → ShB (K + l.length) (ywy' l S)
 | [], _, _, h, _ => h
 | b :: l, K, S, h, hK => by
  rw [List.length_cons] at hK ⊢
  have := yo5' l (yiu' h (by omega) b).2 (by omega)
  rw [show K + 1 + l.length = K + (l.length + 1) by omega] at this
  exact this
theorem ykd' : ∀ (l : List Bs) (b : Bs) (S : ShardS), yco' (l ++ [b]) S = ((yco' l S).1 ++ [(ybn' (yco' l S).2 b).1], (ybn' (yco' l S).2 b).2)
 | [], b, S => rfl
 | a :: l, b, S => by
  have ih := ykd' l b (ybn' S a).2
  show ((ybn' S a).1 :: (yco' (l ++ [b]) (ybn' S a).2).1, (yco' (l ++ [b]) (ybn' S a).2).2) = _
  rw [ih]
  rfl
theorem ype' : ∀ (l : List Bs) (S : ShardS), (yco' l S).2 = ywy' l S
 | [], S => rfl
 | a :: l, S => ype' l (ybn' S a).2
theorem ykl' : ∀ (l : List Bs) (S : ShardS), (yco' l S).1.length = l.length
 | [], S => rfl
 | a :: l, S => by
  show (_ :: (yco' l (ybn' S a).2).1).length = _
  rw [List.length_cons, List.length_cons, ykl' l]
end Go.Proofs.YtcnkifbjlihaoaaGreatDoor

namespace Go.Proofs.YtcnkifbjlihaoaaGreatDoor
open Go.RowKit Go.Av
def cmdV (c : CmdS) (vo vs : Value) : Array Value := #[.int .i64 c.kind, .int .i64 c.id, .int .i64 c.sess, .int .i64 c.rs, .int .i64 c.rn, vo, vs, .int .i64 c.shard, .bool c.yes]
section
variable {w0 w : World} {P P' : List PRow} {R : List Thing} {rows : List (Value × Bs)}
set_option maxRecDepth 100000 in
set_option maxHeartbeats 8000000 in
theorem yed' (h : Sep w0 w (yab' w0 P :: R) rows) (hd : DoorN w0) (c : CmdS) (vo vs : Value) (hvo : (5, vo, c.ops.flatMap OpS.cells) ∈ P) (hvs : (1, vs, c.shards.map ivn) ∈ P) (hp : ∀ o ∈ c.ops, o.path.size ≤ 100000) (hs : c.shards.length ≤ 1000) :
  Calls Tryz.prog 41 #[.agg (cmdV c vo vs)] w (yja' w0 (putC c) (yab' w0 P :: R) rows) := by
 obtain ⟨E, hE⟩ := h.poolGet hvo
 obtain ⟨oa, on, oc, rfl, -⟩ := _root_.id hE
 obtain ⟨E, hE⟩ := h.poolGet hvs
 obtain ⟨sa, sn, sc, rfl, -⟩ := _root_.id hE
 have HV := Lib.hid (show _ ∧ _ ∧ _ ∧ _ from ⟨hvo, hvs, hp, hs⟩)
 have HX := Lib.hid h
 clear h hE hvo hvs hp hs
 obtain ⟨k0, id, sess, rs, rn, ops, shards, shard, yes⟩ := c
 unfold cmdV
 dsimp only at HV ⊢
 by_cases h1 : k0 = 1
 ·subst h1
  obtain ⟨bs, hbs⟩ : ∃ bs, putR rs rn ops = bs := ⟨_, rfl⟩
  have HB := Lib.hid (show _ ∧ _ from ⟨hbs, (by rw [← hbs]; exact yfl' rs rn ops : bs.length ≤ 19864)⟩)
  clear hbs
  go_enter Tryz.func41, Tryz.ntmps41
  go_wp2_with (first | refine u0 ?_ | (refine uS ?_; clear HX; intro w HX) | (refine uA ?_; clear HX; (first | (have hq := b2; clear hq; intro w b3 HX) | (have hq := b; clear hq; intro w b2 HX) | intro w b HX)))
  refine (ye4' (l := []) (xs := [1, id]) (n := 2) ((HX.out.newCell _).nilRow 1) rfl (by omega) (by simp)).mono ?_
  rintro e w ⟨v3, rfl, hx⟩
  rw [show ([] : Bs) ++ [1, id].flatMap yak' = yak' 1 ++ yak' id by simp] at hx
  replace HX := Lib.hid hx
  clear hx
  go_wp2_with (first | refine u0 ?_ | (refine uS ?_; clear HX; intro w HX) | (refine uA ?_; clear HX; (first | (have hq := b2; clear hq; intro w b3 HX) | (have hq := b; clear hq; intro w b2 HX) | intro w b HX)))
  refine (ymu' HX.out.up2 hd rs rn ops _ HV.out.1 HV.out.2.2.1).mono ?_
  rw [HB.out.1]
  rintro e w ⟨v4, rfl, hx⟩
  replace HX := Lib.hid hx
  clear hx
  go_wp2_with (first | refine u0 ?_ | (refine uS ?_; clear HX; intro w HX) | (refine uA ?_; clear HX; (first | (have hq := b2; clear hq; intro w b3 HX) | (have hq := b; clear hq; intro w b2 HX) | intro w b HX)) | (refine yw0' HX Tryz.underlying71 Tryz.underlying5 Tryz.underlying9 rfl rfl ?_; simp only [Act.put, k_a, k_b, k_c]))
  have hz : (⟨bs.toArray⟩ : ByteArray).size = bs.length := by show bs.toArray.size = _; simp
  refine (ylk' HX.out.up2 ⟨bs.toArray⟩ (by simp [yaz']) (by have := HB.out.2; omega)).mono ?_
  rintro e w ⟨v5, rfl, hx⟩
  replace HX := Lib.hid hx
  clear hx
  clear hz
  go_wp2_with (first | refine u0 ?_ | (refine uS ?_; clear HX; intro w HX) | (refine uA ?_; clear HX; (first | (have hq := b2; clear hq; intro w b3 HX) | (have hq := b; clear hq; intro w b2 HX) | intro w b HX)))
  go_ret
  refine ⟨v5, rfl, ?_⟩
  unfold putC
  rw [if_pos rfl]
  dsimp only
  rw [HB.out.1]
  exact HX.out.pm 4 [0, 2] rfl rfl
 have HLB := Lib.hid (show ∀ x : Int, (yak' k0 ++ yak' id).length = 16 from fun _ => by rw [List.length_append, yaz', yaz'])
 by_cases h2 : k0 = 2
 ·subst h2
  obtain ⟨bs, hbs⟩ : ∃ bs, putR sess id ops = bs := ⟨_, rfl⟩
  have HB := Lib.hid (show _ ∧ _ from ⟨hbs, (by rw [← hbs]; exact yfl' sess id ops : bs.length ≤ 19864)⟩)
  clear hbs h1 HLB
  go_enter Tryz.func41, Tryz.ntmps41
  go_wp2_with (first | refine u0 ?_ | (refine uS ?_; clear HX; intro w HX) | (refine uA ?_; clear HX; (first | (have hq := b2; clear hq; intro w b3 HX) | (have hq := b; clear hq; intro w b2 HX) | intro w b HX)))
  refine (ye4' (l := []) (xs := [2, id]) (n := 2) ((HX.out.newCell _).nilRow 1) rfl (by omega) (by simp)).mono ?_
  rintro e w ⟨v3, rfl, hx⟩
  rw [show ([] : Bs) ++ [2, id].flatMap yak' = yak' 2 ++ yak' id by simp] at hx
  replace HX := Lib.hid hx
  clear hx
  go_wp2_with (first | refine u0 ?_ | (refine uS ?_; clear HX; intro w HX) | (refine uA ?_; clear HX; (first | (have hq := b2; clear hq; intro w b3 HX) | (have hq := b; clear hq; intro w b2 HX) | intro w b HX)))
  refine rM (fun W => (∃ Ts, Sep w0 W (yac' b (.cells #[.int .i64 2, .int .i64 id, .int .i64 sess, .int .i64 rs, .int .i64 rn, .slice oa on oc, .slice sa sn sc, .int .i64 shard, .bool yes] 70 (0, 0)) :: yac' b2 (.cells #[.int .i64 sess, .int .i64 id, .slice oa on oc] 42 (0, 0)) :: Ts) rows)) 11 ?_
  intro KEEPX
  replace HX := Lib.hid HX.out.drew
  have hl : ∀ V, (∃ Ts, Sep w0 V (yac' b (.cells #[.int .i64 2, .int .i64 id, .int .i64 sess, .int .i64 rs, .int .i64 rn, .slice oa on oc, .slice sa sn sc, .int .i64 shard, .bool yes] 70 (0, 0)) :: yac' b2 (.cells #[.int .i64 sess, .int .i64 id, .slice oa on oc] 42 (0, 0)) :: Ts) rows) → (Instr.loadAt 2 (.pointer (some ⟨b, 2, none⟩))).run Tryz.prog V = .ok (.int .i64 sess) V := by
   rintro V ⟨Ts, hV⟩
   exact yae' (by kernel_rfl) (yaa' hV.blk 2 rfl)
  have hl2 : ∀ V, (∃ Ts, Sep w0 V (yac' b (.cells #[.int .i64 2, .int .i64 id, .int .i64 sess, .int .i64 rs, .int .i64 rn, .slice oa on oc, .slice sa sn sc, .int .i64 shard, .bool yes] 70 (0, 0)) :: yac' b2 (.cells #[.int .i64 sess, .int .i64 id, .slice oa on oc] 42 (0, 0)) :: Ts) rows) → (Instr.loadAt 68 (.pointer (some ⟨b, 6, none⟩))).run Tryz.prog V = .ok (.slice sa sn sc) V := by
   rintro V ⟨Ts, hV⟩
   exact yae' (by kernel_rfl) (yaa' hV.blk 6 rfl)
  have hl3 : ∀ V, (∃ Ts, Sep w0 V (yac' b (.cells #[.int .i64 2, .int .i64 id, .int .i64 sess, .int .i64 rs, .int .i64 rn, .slice oa on oc, .slice sa sn sc, .int .i64 shard, .bool yes] 70 (0, 0)) :: yac' b2 (.cells #[.int .i64 sess, .int .i64 id, .slice oa on oc] 42 (0, 0)) :: Ts) rows) → (Instr.loadAt 42 (.pointer (some ⟨b2, 0, none⟩))).run Tryz.prog V = .ok (.agg #[.int .i64 sess, .int .i64 id, .slice oa on oc]) V := by
   rintro V ⟨Ts, hV⟩
   exact ya1' sn_req.1 hV.up1.blk (Nat.le_refl 3)
  refine rT [(0, false), (1, false), (2, true), (4, false), (5, true), (7, true)] 6 ?_
  apply Exists.intro; refine ⟨?_, ⟨_, HX.out.up2⟩, ?_⟩
  ·iterate 6 (refine xE ?_)
   exact rfl
  clear hl hl2 hl3
  refine r1 5 3 fun K hK => ?_
  go_wp2_with fail
  refine (yjd' HX.out.up1 sess (by simp [yaz'])).mono ?_
  rintro e w ⟨v4, rfl, hx⟩
  replace HX := Lib.hid hx
  clear hx
  go_wp2_with fail
  refine hK _ _ ⟨_, HX.out.up1.up2⟩ ?_
  clear hK
  refine r1 4 6 fun K hK => ?_
  go_wp2_with fail
  refine (yhm' v4 _ (HX.out.up3.up1) _ shards HV.out.2.1 (by simp [yaz']) HV.out.2.2.2).mono ?_
  rintro e w ⟨v5, rfl, hx⟩
  replace HX := Lib.hid hx
  clear hx
  go_wp2_with fail
  refine hK _ _ ⟨_, HX.out.up2.up3⟩ ?_
  clear hK
  refine r1 3 8 fun K hK => ?_
  go_wp2_with fail
  refine (ymu' HX.out.up1 hd sess id ops _ HV.out.1 HV.out.2.2.1).mono ?_
  rw [HB.out.1]
  rintro e w ⟨v6, rfl, hx⟩
  replace HX := Lib.hid hx
  clear hx
  go_wp2_with fail
  refine hK _ _ ⟨_, HX.out.up3.up4⟩ ?_
  clear hK
  refine r1 2 9 fun K hK => ?_
  go_wp2_with (first | refine u0 ?_ | (refine uS ?_; clear HX; intro w HX) | (refine uA ?_; clear HX; (first | (have hq := b2; clear hq; intro w b3 HX) | (have hq := b; clear hq; intro w b2 HX) | intro w b HX)) | (refine yw0' HX Tryz.underlying71 Tryz.underlying5 Tryz.underlying9 rfl rfl ?_; simp only [Act.put, k_a, k_b, k_c]))
  refine hK _ _ ⟨_, HX.out.up3.up4⟩ ?_
  clear hK
  refine r1 1 10 fun K hK => ?_
  go_wp2_with fail
  have hz : (⟨bs.toArray⟩ : ByteArray).size = bs.length := by show bs.toArray.size = _; simp
  refine (ylk' HX.out.up2 ⟨bs.toArray⟩ (by have := HV.out.2.2.2; unfold shB; simp only [List.length_append, yaz', ygg']; omega) (by have := HB.out.2; omega)).mono ?_
  rintro e w ⟨v7, rfl, hx⟩
  replace HX := Lib.hid hx
  clear hx
  clear hz
  go_wp2_with fail
  refine hK _ _ ⟨_, HX.out.up3.up4⟩ ?_
  clear hK
  refine rL [11] 0 ?_
  simp only [List.filterMap_cons, List.filterMap_nil, k_i, k_j, k_k]
  go_wp2_with (first | refine u0 ?_ | (refine uS ?_; clear HX; intro w HX) | (refine uA ?_; clear HX; (first | (have hq := b2; clear hq; intro w b3 HX) | (have hq := b; clear hq; intro w b2 HX) | intro w b HX)))
  go_ret
  refine ⟨v7, rfl, ?_⟩
  unfold putC
  dsimp only
  rw [if_neg (show ¬ (2 : Int) = 1 by decide), if_pos rfl, HB.out.1]
  exact HX.out.pm 5 [0, 2] rfl rfl
 by_cases h3 : k0 = 3
 ·subst h3
  clear h1 h2 HLB
  go_enter Tryz.func41, Tryz.ntmps41
  go_wp2_with (first | refine u0 ?_ | (refine uS ?_; clear HX; intro w HX) | (refine uA ?_; clear HX; (first | (have hq := b2; clear hq; intro w b3 HX) | (have hq := b; clear hq; intro w b2 HX) | intro w b HX)))
  refine (ye4' (l := []) (xs := [3, id]) (n := 2) ((HX.out.newCell _).nilRow 1) rfl (by omega) (by simp)).mono ?_
  rintro e w ⟨v3, rfl, hx⟩
  rw [show ([] : Bs) ++ [3, id].flatMap yak' = yak' 3 ++ yak' id by simp] at hx
  replace HX := Lib.hid hx
  clear hx
  go_wp2_with (first | refine u0 ?_ | (refine uS ?_; clear HX; intro w HX) | (refine uA ?_; clear HX; (first | (have hq := b2; clear hq; intro w b3 HX) | (have hq := b; clear hq; intro w b2 HX) | intro w b HX)))
  refine rM (fun W => (∃ Ts, Sep w0 W (yac' b (.cells #[.int .i64 3, .int .i64 id, .int .i64 sess, .int .i64 rs, .int .i64 rn, .slice oa on oc, .slice sa sn sc, .int .i64 shard, .bool yes] 70 (0, 0)) :: Ts) rows)) 7 ?_
  intro KEEPX
  replace HX := Lib.hid HX.out.drew
  have hl : ∀ V, (∃ Ts, Sep w0 V (yac' b (.cells #[.int .i64 3, .int .i64 id, .int .i64 sess, .int .i64 rs, .int .i64 rn, .slice oa on oc, .slice sa sn sc, .int .i64 shard, .bool yes] 70 (0, 0)) :: Ts) rows) → (Instr.loadAt 2 (.pointer (some ⟨b, 2, none⟩))).run Tryz.prog V = .ok (.int .i64 sess) V := by
   rintro V ⟨Ts, hV⟩
   exact yae' (by kernel_rfl) (yaa' hV.blk 2 rfl)
  have hl2 : ∀ V, (∃ Ts, Sep w0 V (yac' b (.cells #[.int .i64 3, .int .i64 id, .int .i64 sess, .int .i64 rs, .int .i64 rn, .slice oa on oc, .slice sa sn sc, .int .i64 shard, .bool yes] 70 (0, 0)) :: Ts) rows) → (Instr.loadAt 68 (.pointer (some ⟨b, 6, none⟩))).run Tryz.prog V = .ok (.slice sa sn sc) V := by
   rintro V ⟨Ts, hV⟩
   exact yae' (by kernel_rfl) (yaa' hV.blk 6 rfl)
  refine rT [(0, false), (1, false), (2, true), (4, false), (5, true)] 3 ?_
  apply Exists.intro; refine ⟨?_, ⟨_, HX.out.up1⟩, ?_⟩
  ·iterate 5 (refine xE ?_)
   exact rfl
  clear hl hl2
  refine r1 2 3 fun K hK => ?_
  go_wp2_with fail
  refine (yjd' HX.out sess (by simp [yaz'])).mono ?_
  rintro e w ⟨v4, rfl, hx⟩
  replace HX := Lib.hid hx
  clear hx
  go_wp2_with fail
  refine hK _ _ ⟨_, HX.out.up1⟩ ?_
  clear hK
  refine r1 1 6 fun K hK => ?_
  go_wp2_with fail
  refine (yhm' v4 _ HX.out.up2.up1 _ shards HV.out.2.1 (by simp [yaz']) HV.out.2.2.2).mono ?_
  rintro e w ⟨v5, rfl, hx⟩
  replace HX := Lib.hid hx
  clear hx
  go_wp2_with fail
  refine hK _ _ ⟨_, HX.out.up2⟩ ?_
  clear hK
  refine rL [7] 0 ?_
  simp only [List.filterMap_cons, List.filterMap_nil, k_i, k_j, k_k]
  go_wp2_with (first | refine u0 ?_ | (refine uS ?_; clear HX; intro w HX) | (refine uA ?_; clear HX; (first | (have hq := b2; clear hq; intro w b3 HX) | (have hq := b; clear hq; intro w b2 HX) | intro w b HX)))
  go_ret
  refine ⟨v5, rfl, ?_⟩
  unfold putC
  dsimp only
  rw [if_neg (show ¬ (3 : Int) = 1 by decide), if_neg (show ¬ (3 : Int) = 2 by decide), if_pos rfl]
  exact HX.out.pm 3 [0, 1] rfl rfl
 by_cases h4 : k0 = 4
 ·subst h4
  clear h1 h2 h3 HLB
  go_enter Tryz.func41, Tryz.ntmps41
  go_wp2_with (first | refine u0 ?_ | (refine uS ?_; clear HX; intro w HX) | (refine uA ?_; clear HX; (first | (have hq := b2; clear hq; intro w b3 HX) | (have hq := b; clear hq; intro w b2 HX) | intro w b HX)))
  refine (ye4' (l := []) (xs := [4, id]) (n := 2) ((HX.out.newCell _).nilRow 1) rfl (by omega) (by simp)).mono ?_
  rintro e w ⟨v3, rfl, hx⟩
  rw [show ([] : Bs) ++ [4, id].flatMap yak' = yak' 4 ++ yak' id by simp] at hx
  replace HX := Lib.hid hx
  clear hx
  go_wp2_with (first | refine u0 ?_ | (refine uS ?_; clear HX; intro w HX) | (refine uA ?_; clear HX; (first | (have hq := b2; clear hq; intro w b3 HX) | (have hq := b; clear hq; intro w b2 HX) | intro w b HX)))
  refine (yrr' yes _).mono ?_
  rintro e w1 ⟨rfl, rfl⟩
  go_wp2_with (first | refine u0 ?_ | (refine uS ?_; clear HX; intro w HX) | (refine uA ?_; clear HX; (first | (have hq := b2; clear hq; intro w b3 HX) | (have hq := b; clear hq; intro w b2 HX) | intro w b HX)))
  refine (yjd' HX.out (bitI yes) (by simp [yaz'])).mono ?_
  rintro e w ⟨v5, rfl, hx⟩
  replace HX := Lib.hid hx
  clear hx
  go_wp2_with (first | refine u0 ?_ | (refine uS ?_; clear HX; intro w HX) | (refine uA ?_; clear HX; (first | (have hq := b2; clear hq; intro w b3 HX) | (have hq := b; clear hq; intro w b2 HX) | intro w b HX)))
  go_ret
  refine ⟨v5, rfl, ?_⟩
  unfold putC
  dsimp only
  rw [if_neg (show ¬ (4 : Int) = 1 by decide), if_neg (show ¬ (4 : Int) = 2 by decide), if_neg (show ¬ (4 : Int) = 3 by decide), if_pos rfl]
  exact HX.out.pm 3 [0, 2] rfl rfl
 by_cases h5 : k0 = 5
 ·subst h5
  clear h1 h2 h3 h4 HLB
  go_enter Tryz.func41, Tryz.ntmps41
  go_wp2_with (first | refine u0 ?_ | (refine uS ?_; clear HX; intro w HX) | (refine uA ?_; clear HX; (first | (have hq := b2; clear hq; intro w b3 HX) | (have hq := b; clear hq; intro w b2 HX) | intro w b HX)))
  refine (ye4' (l := []) (xs := [5, id]) (n := 2) ((HX.out.newCell _).nilRow 1) rfl (by omega) (by simp)).mono ?_
  rintro e w ⟨v3, rfl, hx⟩
  rw [show ([] : Bs) ++ [5, id].flatMap yak' = yak' 5 ++ yak' id by simp] at hx
  replace HX := Lib.hid hx
  clear hx
  go_wp2_with (first | refine u0 ?_ | (refine uS ?_; clear HX; intro w HX) | (refine uA ?_; clear HX; (first | (have hq := b2; clear hq; intro w b3 HX) | (have hq := b; clear hq; intro w b2 HX) | intro w b HX)))
  refine (yhm' v3 _ HX.out.up2.up1 _ shards HV.out.2.1 (by simp [yaz']) HV.out.2.2.2).mono ?_
  rintro e w ⟨v5, rfl, hx⟩
  replace HX := Lib.hid hx
  clear hx
  go_wp2_with (first | refine u0 ?_ | (refine uS ?_; clear HX; intro w HX) | (refine uA ?_; clear HX; (first | (have hq := b2; clear hq; intro w b3 HX) | (have hq := b; clear hq; intro w b2 HX) | intro w b HX)))
  go_ret
  refine ⟨v5, rfl, ?_⟩
  unfold putC
  dsimp only
  rw [if_neg (show ¬ (5 : Int) = 1 by decide), if_neg (show ¬ (5 : Int) = 2 by decide), if_neg (show ¬ (5 : Int) = 3 by decide), if_neg (show ¬ (5 : Int) = 4 by decide), if_pos rfl]
  exact HX.out.pm 3 [0, 1] rfl rfl
 by_cases h6 : k0 = 6
 ·subst h6
  clear h1 h2 h3 h4 h5 HLB
  go_enter Tryz.func41, Tryz.ntmps41
  go_wp2_with (first | refine u0 ?_ | (refine uS ?_; clear HX; intro w HX) | (refine uA ?_; clear HX; (first | (have hq := b2; clear hq; intro w b3 HX) | (have hq := b; clear hq; intro w b2 HX) | intro w b HX)))
  refine (ye4' (l := []) (xs := [6, id]) (n := 2) ((HX.out.newCell _).nilRow 1) rfl (by omega) (by simp)).mono ?_
  rintro e w ⟨v3, rfl, hx⟩
  rw [show ([] : Bs) ++ [6, id].flatMap yak' = yak' 6 ++ yak' id by simp] at hx
  replace HX := Lib.hid hx
  clear hx
  go_wp2_with (first | refine u0 ?_ | (refine uS ?_; clear HX; intro w HX) | (refine uA ?_; clear HX; (first | (have hq := b2; clear hq; intro w b3 HX) | (have hq := b; clear hq; intro w b2 HX) | intro w b HX)))
  refine rM (fun W => (∃ Ts, Sep w0 W (yac' b (.cells #[.int .i64 6, .int .i64 id, .int .i64 sess, .int .i64 rs, .int .i64 rn, .slice oa on oc, .slice sa sn sc, .int .i64 shard, .bool yes] 70 (0, 0)) :: Ts) rows)) 8 ?_
  intro KEEPX
  replace HX := Lib.hid HX.out.drew
  have hl : ∀ V, (∃ Ts, Sep w0 V (yac' b (.cells #[.int .i64 6, .int .i64 id, .int .i64 sess, .int .i64 rs, .int .i64 rn, .slice oa on oc, .slice sa sn sc, .int .i64 shard, .bool yes] 70 (0, 0)) :: Ts) rows) → (Instr.loadAt 3 (.pointer (some ⟨b, 7, none⟩))).run Tryz.prog V = .ok (.int .i64 shard) V := by
   rintro V ⟨Ts, hV⟩
   exact yae' (by kernel_rfl) (yaa' hV.blk 7 rfl)
  have hl2 : ∀ V, (∃ Ts, Sep w0 V (yac' b (.cells #[.int .i64 6, .int .i64 id, .int .i64 sess, .int .i64 rs, .int .i64 rn, .slice oa on oc, .slice sa sn sc, .int .i64 shard, .bool yes] 70 (0, 0)) :: Ts) rows) → (Instr.loadAt 4 (.pointer (some ⟨b, 8, none⟩))).run Tryz.prog V = .ok (.bool yes) V := by
   rintro V ⟨Ts, hV⟩
   exact yae' (by kernel_rfl) (yaa' hV.blk 8 rfl)
  refine rT [(0, false), (1, false), (2, true), (3, false), (4, true)] 4 ?_
  apply Exists.intro; refine ⟨?_, ⟨_, HX.out.up1⟩, ?_⟩
  ·iterate 5 (refine xE ?_)
   exact rfl
  clear hl hl2
  refine r1 3 5 fun K hK => ?_
  go_wp2_with fail
  refine (yrr' yes _).mono ?_
  rintro e w1 ⟨rfl, rfl⟩
  go_wp2_with fail
  refine hK _ _ ⟨_, HX.out.up1⟩ ?_
  clear hK
  refine r1 2 6 fun K hK => ?_
  go_wp2_with (first | refine u0 ?_ | (refine uS ?_; clear HX; intro w HX) | (refine uA ?_; clear HX; (first | (have hq := b2; clear hq; intro w b3 HX) | (have hq := b; clear hq; intro w b2 HX) | intro w b HX)))
  have hx : Sep w0 (w.alloc (.cells #[.int .i64 shard, .int .i64 (bitI yes)] 2 (0, 0))).drew (yac' w.heap.size (.cells #[.int .i64 shard, .int .i64 (bitI yes)] 2 (0, 0)) :: _) rows := HX.out.newCell (.cells #[.int .i64 shard, .int .i64 (bitI yes)] 2 (0, 0))
  generalize w.heap.size = cb at hx ⊢
  generalize (w.alloc (.cells #[.int .i64 shard, .int .i64 (bitI yes)] 2 (0, 0))).drew = w4 at hx ⊢
  replace HX := Lib.hid hx
  clear hx
  refine hK _ _ ⟨_, HX.out.up2⟩ ?_
  clear hK
  refine r1 1 7 fun K hK => ?_
  go_wp2_with fail
  refine (ye4' (xs := [shard, bitI yes]) (n := 2) HX.out.up1 rfl (by omega) (by simp [yaz'])).mono ?_
  rintro e w ⟨v5, rfl, hx⟩
  replace HX := Lib.hid hx
  clear hx
  go_wp2_with fail
  refine hK _ _ ⟨_, HX.out.up1⟩ ?_
  clear hK
  refine rL [8] 0 ?_
  simp only [List.filterMap_cons, List.filterMap_nil, k_i, k_j, k_k]
  go_wp2_with (first | refine u0 ?_ | (refine uS ?_; clear HX; intro w HX) | (refine uA ?_; clear HX; (first | (have hq := b2; clear hq; intro w b3 HX) | (have hq := b; clear hq; intro w b2 HX) | intro w b HX)))
  go_ret
  refine ⟨v5, rfl, ?_⟩
  unfold putC
  dsimp only
  rw [if_neg (show ¬ (6 : Int) = 1 by decide), if_neg (show ¬ (6 : Int) = 2 by decide), if_neg (show ¬ (6 : Int) = 3 by decide), if_neg (show ¬ (6 : Int) = 4 by decide), if_neg (show ¬ (6 : Int) = 5 by decide), if_pos rfl, show yak' 6 ++ yak' id ++ yak' shard ++ yak' (bitI yes) = yak' 6 ++ yak' id ++ [shard, bitI yes].flatMap yak' by simp]
  exact HX.out.pm 3 [0, 2] rfl rfl
 by_cases h7 : k0 = 7
 ·subst h7
  clear h1 h2 h3 h4 h5 h6 HLB
  go_enter Tryz.func41, Tryz.ntmps41
  go_wp2_with (first | refine u0 ?_ | (refine uS ?_; clear HX; intro w HX) | (refine uA ?_; clear HX; (first | (have hq := b2; clear hq; intro w b3 HX) | (have hq := b; clear hq; intro w b2 HX) | intro w b HX)))
  refine (ye4' (l := []) (xs := [7, id]) (n := 2) ((HX.out.newCell _).nilRow 1) rfl (by omega) (by simp)).mono ?_
  rintro e w ⟨v3, rfl, hx⟩
  rw [show ([] : Bs) ++ [7, id].flatMap yak' = yak' 7 ++ yak' id by simp] at hx
  replace HX := Lib.hid hx
  clear hx
  go_wp2_with (first | refine u0 ?_ | (refine uS ?_; clear HX; intro w HX) | (refine uA ?_; clear HX; (first | (have hq := b2; clear hq; intro w b3 HX) | (have hq := b; clear hq; intro w b2 HX) | intro w b HX)))
  refine (yjd' HX.out shard (by simp [yaz'])).mono ?_
  rintro e w ⟨v5, rfl, hx⟩
  replace HX := Lib.hid hx
  clear hx
  go_wp2_with (first | refine u0 ?_ | (refine uS ?_; clear HX; intro w HX) | (refine uA ?_; clear HX; (first | (have hq := b2; clear hq; intro w b3 HX) | (have hq := b; clear hq; intro w b2 HX) | intro w b HX)))
  go_ret
  refine ⟨v5, rfl, ?_⟩
  unfold putC
  dsimp only
  rw [if_neg (show ¬ (7 : Int) = 1 by decide), if_neg (show ¬ (7 : Int) = 2 by decide), if_neg (show ¬ (7 : Int) = 3 by decide), if_neg (show ¬ (7 : Int) = 4 by decide), if_neg (show ¬ (7 : Int) = 5 by decide), if_neg (show ¬ (7 : Int) = 6 by decide), if_pos rfl]
  exact HX.out.pm 3 [0, 2] rfl rfl
 by_cases h8 : k0 = 8
 ·subst h8
  clear h1 h2 h3 h4 h5 h6 h7 HLB
  go_enter Tryz.func41, Tryz.ntmps41
  go_wp2_with (first | refine u0 ?_ | (refine uS ?_; clear HX; intro w HX) | (refine uA ?_; clear HX; (first | (have hq := b2; clear hq; intro w b3 HX) | (have hq := b; clear hq; intro w b2 HX) | intro w b HX)))
  refine (ye4' (l := []) (xs := [8, id]) (n := 2) ((HX.out.newCell _).nilRow 1) rfl (by omega) (by simp)).mono ?_
  rintro e w ⟨v3, rfl, hx⟩
  rw [show ([] : Bs) ++ [8, id].flatMap yak' = yak' 8 ++ yak' id by simp] at hx
  replace HX := Lib.hid hx
  clear hx
  go_wp2_with (first | refine u0 ?_ | (refine uS ?_; clear HX; intro w HX) | (refine uA ?_; clear HX; (first | (have hq := b2; clear hq; intro w b3 HX) | (have hq := b; clear hq; intro w b2 HX) | intro w b HX)))
  go_ret
  refine ⟨v3, rfl, ?_⟩
  unfold putC
  dsimp only
  rw [if_neg (show ¬ (8 : Int) = 1 by decide), if_neg (show ¬ (8 : Int) = 2 by decide), if_neg (show ¬ (8 : Int) = 3 by decide), if_neg (show ¬ (8 : Int) = 4 by decide), if_neg (show ¬ (8 : Int) = 5 by decide), if_neg (show ¬ (8 : Int) = 6 by decide), if_neg (show ¬ (8 : Int) = 7 by decide), if_pos rfl]
  exact HX.out.pm 3 [0, 2] rfl rfl
 have q1 : (k0 == 1) = false := by rw [beq_eq_false_iff_ne]; exact h1
 have q2 : (k0 == 2) = false := by rw [beq_eq_false_iff_ne]; exact h2
 have q3 : (k0 == 3) = false := by rw [beq_eq_false_iff_ne]; exact h3
 have q4 : (k0 == 4) = false := by rw [beq_eq_false_iff_ne]; exact h4
 have q5 : (k0 == 5) = false := by rw [beq_eq_false_iff_ne]; exact h5
 have q6 : (k0 == 6) = false := by rw [beq_eq_false_iff_ne]; exact h6
 have q7 : (k0 == 7) = false := by rw [beq_eq_false_iff_ne]; exact h7
 have q8 : (k0 == 8) = false := by rw [beq_eq_false_iff_ne]; exact h8
 have HNO := Lib.hid (show putC ⟨k0, id, sess, rs, rn, ops, shards, shard, yes⟩ = [] by unfold putC; dsimp only; rw [if_neg h1, if_neg h2, if_neg h3, if_neg h4, if_neg h5, if_neg h6, if_neg h7, if_neg h8])
 clear h1 h2 h3 h4 h5 h6 h7 h8 HLB
 go_enter Tryz.func41, Tryz.ntmps41
 go_wp2_with (first | refine u0 ?_ | (refine uS ?_; clear HX; intro w HX) | (refine uA ?_; clear HX; (first | (have hq := b2; clear hq; intro w b3 HX) | (have hq := b; clear hq; intro w b2 HX) | intro w b HX)))
 refine (ye4' (l := []) (xs := [k0, id]) (n := 2) ((HX.out.newCell _).nilRow 1) rfl (by omega) (by simp)).mono ?_
 rintro e w ⟨v3, rfl, hx⟩
 rw [show ([] : Bs) ++ [k0, id].flatMap yak' = yak' k0 ++ yak' id by simp] at hx
 replace HX := Lib.hid hx
 clear hx
 go_wp2_with (first | refine u0 ?_ | (refine uS ?_; clear HX; intro w HX) | (refine uA ?_; clear HX; (first | (have hq := b2; clear hq; intro w b3 HX) | (have hq := b; clear hq; intro w b2 HX) | intro w b HX)))
 go_ret
 refine ⟨_, rfl, ?_⟩
 rw [HNO.out]
 exact (HX.out.pm 3 [2] rfl rfl).nilRow 1
end
end Go.Proofs.YtcnkifbjlihaoaaGreatDoor

namespace Go.Proofs.YtcnkifbjlihaoaaGreatDoor
open Go.RowKit Go.Av
theorem yh2' {w W : World} (h : W.heap = w.heap) (a : Addr) : W.cell? a = w.cell? a := by unfold World.cell?; rw [h]
theorem yvr' {l1 l2 : Bs} {p : Nat} (h : l1.take p = l2.take p) (h1 : p < l1.length) (h2 : p < l2.length) (he : l1[p] = l2[p]) : l1.take (p + 1) = l2.take (p + 1) := by
 rw [List.take_succ_eq_append_getElem h1, List.take_succ_eq_append_getElem h2, h, he]
set_option maxRecDepth 100000 in
set_option maxHeartbeats 1000000 in
theorem yyu' (v1 v2 : Value) (l1 l2 : Bs) (E1 E2 : List Nat) (w : World) (h1 : ReadRow w 1 v1 (l1.map bv) E1) (h2 : ReadRow w 1 v2 (l2.map bv) E2) :
  Calls Tryz.prog 108 #[v1, v2] w fun e w' => e = .returned (.bool (decide (l1 = l2))) ∧ Upd w w' [] [] := by
 obtain ⟨a1, n1, c1, rfl, -⟩ := id h1
 obtain ⟨hn1, hnc1, hcm1, hcell1⟩ := ycw' h1
 obtain ⟨a2, n2, c2, rfl, -⟩ := id h2
 obtain ⟨hn2, hnc2, hcm2, hcell2⟩ := ycw' h2
 rw [List.length_map] at hn1 hn2
 subst hn1
 subst hn2
 unfold maxLen at hcm1 hcm2
 have HC1 := Lib.hid hcell1
 have HC2 := Lib.hid hcell2
 clear hcell1 hcell2 h1 h2
 by_cases hll : l1.length = l2.length
 case neg =>
  have hb : ((l1.length : Int) != (l2.length : Int)) = true := by simp; omega
  have HD := Lib.hid (show decide (l1 = l2) = false by simp; intro e; exact hll (by rw [e]))
  clear hll
  go_enter Tryz.func108, Tryz.ntmps108
  go_wp2_with fail
  go_ret
  rw [HD.out]
  exact ⟨rfl, Upd.refl _ _⟩
 have hb : ((l1.length : Int) != (l2.length : Int)) = false := by simp; omega
 have HLL := Lib.hid hll
 clear hll
 go_enter Tryz.func108, Tryz.ntmps108
 go_wp2_with fail
 go_loopg [5, 13] l1.length (fun k _ i wr => ∃ p : Nat, p ≤ l1.length ∧ k = l1.length - p ∧ i = .int .i64 (p : Int) ∧ l1.take p = l2.take p ∧ wr.heap = w.heap ∧ Upd w wr [] [])
 case atStart => exact ⟨0, Nat.zero_le _, rfl, rfl, rfl, rfl, Upd.refl _ _⟩
 case round =>
  obtain ⟨p, hp, hk, hv, ht, hh, hu⟩ := hrel
  subst hv
  by_cases hlt : p < l1.length
  ·have hlt2 : p < l2.length := by rw [← HLL.out]; exact hlt
   obtain ⟨x1, rfl, hs1, hx1⟩ := HC1.out (by omega)
   obtain ⟨x2, rfl, hs2, hx2⟩ := HC2.out (by omega)
   have k1 := fun (W : World) (hW : W.heap = wr.heap) => (yh2' (hW.trans hh) _).trans (hx1 p (bv l1[p]) (by rw [List.getElem?_map, List.getElem?_eq_getElem hlt]; rfl))
   have k2 := fun (W : World) (hW : W.heap = wr.heap) => (yh2' (hW.trans hh) _).trans (hx2 p (bv l2[p]) (by rw [List.getElem?_map, List.getElem?_eq_getElem hlt2]; rfl))
   obtain ⟨u1, hu1⟩ : ∃ u, l1[p] = u := ⟨_, rfl⟩
   obtain ⟨u2, hu2⟩ : ∃ u, l2[p] = u := ⟨_, rfl⟩
   rw [hu1] at k1
   rw [hu2] at k2
   unfold bv at k1 k2
   have HT := Lib.hid (show _ ∧ _ ∧ _ ∧ _ ∧ _ from ⟨ht, hu1, hu2, hh, hu⟩)
   clear hx1 hx2 ht hu1 hu2 hh hu
   obtain ⟨b, hbb⟩ : ∃ b, ((u1.toNat : Int) != (u2.toNat : Int)) = b := ⟨_, rfl⟩
   have HB := Lib.hid hbb
   go_wp2_with fail
   refine yaq' (fun W => W.heap = wr.heap) 9 (by kernel_rfl) ?_
   refine rT [(0, false), (1, false), (2, false), (3, true), (4, false), (5, false), (6, false), (7, true), (8, false)] 0 ?_
   apply Exists.intro; refine ⟨?_, rfl, ?_⟩
   ·iterate 9 ((first | (apply yci'; (· (simp only [k_i, k_j, k_k]; try rfl)); (· rfl)) | ((first | apply ya3' | apply yav'); (· (simp only [k_i, k_j, k_k]; try rfl)); (· rfl); (· (intros; go_simp; try with_reducible rfl)))); (· (simp only [Act.put, k_a, k_b, k_c]; try rfl)))
    exact rfl
   refine yaf' (by kernel_rfl) ?_ _
   cases b with
   | true =>
    have hne : u1 ≠ u2 := by rintro rfl; have := HB.out; simp at this
    have HNE := Lib.hid hne
    clear hne
    go_wp2_with fail
    go_ret
    obtain ⟨ht, hu1, hu2, hh, hu⟩ := HT.out
    refine ⟨?_, hu.drew⟩
    have : decide (l1 = l2) = false := by
     simp
     intro e
     subst e
     exact HNE.out (hu1.symm.trans hu2)
    rw [this]
    rfl
   | false =>
    have heq : u1 = u2 := by have := HB.out; simp at this; exact UInt8.toNat_inj.1 (by omega)
    have HEQ := Lib.hid heq
    clear heq
    go_wp2_with fail
    go_roundg (l1.length - (p + 1))
    case rel =>
     obtain ⟨ht, hu1, hu2, hh, hu⟩ := HT.out
     exact ⟨p + 1, by omega, rfl, by go_num, yvr' ht hlt hlt2 (by rw [hu1, hu2, HEQ.out]), hh, hu.drew⟩
    case measure => omega
  ·obtain rfl : p = l1.length := by omega
   have HU := Lib.hid (show _ ∧ _ from ⟨ht, hu⟩)
   clear ht hu hh
   go_wp2_with fail
   go_ret
   obtain ⟨ht, hu⟩ := HU.out
   rw [List.take_length, HLL.out, List.take_length] at ht
   exact ⟨by simp [ht], hu⟩
theorem yx9' {w0 w : World} {P : List PRow} {R : List Thing} {rows : List (Value × Bs)} (h : Sep w0 w (yab' w0 P :: R) rows) {v1 v2 : Value} {l1 l2 : Bs} (h1 : (1, v1, l1.map bv) ∈ P) (h2 : (1, v2, l2.map bv) ∈ P) :
  Calls Tryz.prog 108 #[v1, v2] w fun e w' => e = .returned (.bool (decide (l1 = l2))) ∧ Sep w0 w' (yab' w0 P :: R) rows := by
 obtain ⟨E1, e1⟩ := h.poolGet h1
 obtain ⟨E2, e2⟩ := h.poolGet h2
 exact (yyu' v1 v2 l1 l2 E1 E2 w e1 e2).mono fun e w' hh => ⟨hh.1, h.keep hh.2⟩
end Go.Proofs.YtcnkifbjlihaoaaGreatDoor

namespace Go.Proofs.YtcnkifbjlihaoaaGreatDoor
open Go.RowKit Go.Av
section
variable {w0 w : World} {P P' : List PRow} {R : List Thing} {rows : List (Value × Bs)}
def yrh' : CmdS := ⟨0, 0, 0, 0, 0, [], [], 0, false⟩
def ywj' (w0 : World) (o : Option CmdS) (P : List PRow) (R : List Thing) (rows : List (Value × Bs)) (e : Ending) (w' : World) : Prop :=
 ∃ vo vs P', e = .returned (.tuple #[.agg (cmdV (o.getD yrh') vo vs), .int .i64 (if o.isSome then 0 else 3)]) ∧ (∀ z ∈ P, z ∈ P') ∧ (5, vo, (o.getD yrh').ops.flatMap OpS.cells) ∈ P' ∧ (1, vs, (o.getD yrh').shards.map ivn) ∈ P' ∧ Sep w0 w' (yab' w0 P' :: R) rows
theorem yex' (t : Bs) : ∀ o ∈ (ycu' t).2.2, o.path.size ≤ 100000 := by
 unfold ycu' getR
 intro o ho
 split at ho
 ·have := yhl' _ _ o ho
  omega
 ·cases ho
theorem yon' (d : Rd) : (shR d).1.length ≤ 1000 := by
 have h := yiz' (most := 4) (by omega) d
 unfold shR
 rw [yk6']
 omega
theorem yax' {K : Nat} {v : Value} {xs : List Value} (h : Sep w0 w (yab' w0 P :: R) rows) (hv : (K, v, xs) ∈ P) : ∃ a n c, v = .slice a n c := by
 obtain ⟨E, hE⟩ := h.poolGet hv
 obtain ⟨a, n, c, e, -⟩ := hE
 exact ⟨a, n, c, e⟩
def yza' (w0 : World) (l : Bs) (r b b2 b3 : Nat) (P : List PRow) (R : List Thing) (rows : List (Value × Bs)) (W : World) : Prop :=
 ∃ (c : CmdS) (d : Rd) (bad : Bool) (vo vs : Value) (P' : List PRow), rawC l = (c, d, bad) ∧ (∀ z ∈ P, z ∈ P') ∧ (5, vo, c.ops.flatMap OpS.cells) ∈ P' ∧ (1, vs, c.shards.map ivn) ∈ P' ∧ (∀ o ∈ c.ops, o.path.size ≤ 100000) ∧ c.shards.length ≤ 1000 ∧
  Sep w0 W (yd1' r d :: yac' b2 (.cells #[.pointer (some ⟨r, 0, none⟩), .bool bad] 180 (0, 0)) :: yab' w0 P' :: yac' b3 (.cells (cmdV c vo vs) 70 (0, 0)) :: yac' b (.cells (cmdV yrh' (.slice none 0 0) (.slice none 0 0)) 70 (0, 0)) :: R) rows
set_option maxRecDepth 100000 in
set_option maxHeartbeats 8000000 in
theorem yta' (h : Sep w0 w (yab' w0 P :: R) rows) (hd : DoorN w0) (v : Value) (l : Bs) (hv : (1, v, l.map bv) ∈ P) (hl : l.length ≤ 1000000) :
  Calls Tryz.prog 39 #[v] w (ywj' w0 (getC l) P R rows) := by
 have HV := Lib.hid (show _ ∧ _ from ⟨hv, hl⟩)
 have HX := Lib.hid ((h.poolNil 5).poolNil 1)
 obtain ⟨o, ho⟩ : ∃ o, getC l = o := ⟨_, rfl⟩
 rw [ho]
 have HO := Lib.hid ho
 clear h hv hl ho
 obtain ⟨⟨k0, d1⟩, h1⟩ : ∃ x, i64R (l, false) = x := ⟨_, rfl⟩
 obtain ⟨⟨id, d2⟩, h2⟩ : ∃ x, i64R d1 = x := ⟨_, rfl⟩
 have HD := Lib.hid (show ykx' l = (k0, id, d2) by unfold ykx'; rw [h1]; dsimp only; rw [h2])
 have H1 := Lib.hid h1
 have H2 := Lib.hid h2
 clear h1 h2
 go_enter Tryz.func39, Tryz.ntmps39
 go_wp2_with (first | refine u0 ?_ | (refine uS ?_; clear HX; intro w HX) | (refine uA ?_; clear HX; (first | (have hq := b3; clear hq; intro w b4 HX) | (have hq := b2; clear hq; intro w b3 HX) | (have hq := b; clear hq; intro w b2 HX) | intro w b HX)))
 refine (yl9' HX.out.up1 v l (k_n _ (k_n _ HV.out.1)) HV.out.2).mono ?_
 rintro e w ⟨r, rfl, hx⟩
 replace HX := Lib.hid hx
 clear hx
 go_wp2_with (first | refine u0 ?_ | (refine uS ?_; clear HX; intro w HX) | (refine uA ?_; clear HX; (first | (have hq := b3; clear hq; intro w b4 HX) | (have hq := b2; clear hq; intro w b3 HX) | (have hq := b; clear hq; intro w b2 HX) | intro w b HX)))
 refine (ycg' HX.out.up1).mono ?_
 rw [H1.out]
 rintro e w ⟨rfl, hx⟩
 replace HX := Lib.hid hx
 clear hx
 go_wp2_with (first | refine u0 ?_ | (refine uS ?_; clear HX; intro w HX) | (refine uA ?_; clear HX; (first | (have hq := b3; clear hq; intro w b4 HX) | (have hq := b2; clear hq; intro w b3 HX) | (have hq := b; clear hq; intro w b2 HX) | intro w b HX)))
 refine (ycg' HX.out.up1).mono ?_
 rw [H2.out]
 rintro e w ⟨rfl, hx⟩
 replace HX := Lib.hid hx
 clear hx
 go_upto_block 0 with (first | refine u0 ?_ | (refine uS ?_; clear HX; intro w HX) | (refine uA ?_; clear HX; (first | (have hq := b3; clear hq; intro w b4 HX) | (have hq := b2; clear hq; intro w b3 HX) | (have hq := b; clear hq; intro w b2 HX) | intro w b HX)))
 go_cut [] (fun W => yza' w0 l r b b2 b3 P R rows W)
 case first =>
  by_cases g1 : k0 = 1
  ·subst g1
   go_wp2_with (first | refine u0 ?_ | (refine uS ?_; clear HX; intro w HX) | (refine uA ?_; clear HX; (first | (have hq := b3; clear hq; intro w b4 HX) | (have hq := b2; clear hq; intro w b3 HX) | (have hq := b; clear hq; intro w b2 HX) | intro w b HX)))
   refine (ykj' HX.out.up3.up3.up2 hd).mono ?_
   rintro e w ⟨vo, P3, rfl, hP3, hvo, hx⟩
   replace HX := Lib.hid hx
   clear hx
   obtain ⟨va, vn, vc, rfl⟩ := yax' HX.out.up2 hvo
   have HP := Lib.hid (show _ ∧ _ from ⟨hP3, hvo⟩)
   clear hP3 hvo
   go_wp2_with (first | refine u0 ?_ | (refine uS ?_; clear HX; intro w HX) | (refine uA ?_; clear HX; (first | (have hq := b3; clear hq; intro w b4 HX) | (have hq := b2; clear hq; intro w b3 HX) | (have hq := b; clear hq; intro w b2 HX) | intro w b HX)))
   go_meet
   refine ⟨⟨1, id, 0, (ycu' (ybq' 40000 d2).1).1, (ycu' (ybq' 40000 d2).1).2.1, (ycu' (ybq' 40000 d2).1).2.2, [], 0, false⟩, _, _, _, .slice none 0 0, _, ?_, fun z hz => HP.out.1 _ ((fun z hz => k_n _ (k_n _ hz)) z hz), HP.out.2, HP.out.1 _ k_s, yex' _, by simp, HX.out⟩
   unfold rawC
   rw [HD.out]
   dsimp only
   rw [if_pos rfl, Bool.false_or]
  by_cases g2 : k0 = 2
  ·subst g2
   clear g1
   obtain ⟨⟨se, d3⟩, h3⟩ : ∃ x, i64R d2 = x := ⟨_, rfl⟩
   obtain ⟨⟨sl, d4⟩, h4⟩ : ∃ x, shR d3 = x := ⟨_, rfl⟩
   have hsl := yon' d3
   rw [h4] at hsl
   have H34 := Lib.hid (show _ ∧ _ ∧ _ from ⟨h3, h4, hsl⟩)
   clear h3 h4 hsl
   go_wp2_with (first | refine u0 ?_ | (refine uS ?_; clear HX; intro w HX) | (refine uA ?_; clear HX; (first | (have hq := b3; clear hq; intro w b4 HX) | (have hq := b2; clear hq; intro w b3 HX) | (have hq := b; clear hq; intro w b2 HX) | intro w b HX)))
   refine (ycg' HX.out).mono ?_
   rw [H34.out.1]
   rintro e w ⟨rfl, hx⟩
   replace HX := Lib.hid hx
   clear hx
   go_wp2_with (first | refine u0 ?_ | (refine uS ?_; clear HX; intro w HX) | (refine uA ?_; clear HX; (first | (have hq := b3; clear hq; intro w b4 HX) | (have hq := b2; clear hq; intro w b3 HX) | (have hq := b; clear hq; intro w b2 HX) | intro w b HX)))
   refine (yff' HX.out.up3.up3.up2).mono ?_
   rw [H34.out.2.1]
   rintro e w ⟨vs, P2, rfl, hP2, hvs, hx⟩
   replace HX := Lib.hid hx
   clear hx
   obtain ⟨sa, sn, sc, rfl⟩ := yax' HX.out.up2 hvs
   have HQ := Lib.hid (show _ ∧ _ from ⟨hP2, hvs⟩)
   clear hP2 hvs
   go_wp2_with (first | refine u0 ?_ | (refine uS ?_; clear HX; intro w HX) | (refine uA ?_; clear HX; (first | (have hq := b3; clear hq; intro w b4 HX) | (have hq := b2; clear hq; intro w b3 HX) | (have hq := b; clear hq; intro w b2 HX) | intro w b HX)))
   refine (ykj' HX.out hd).mono ?_
   rintro e w ⟨vo, P3, rfl, hP3, hvo, hx⟩
   replace HX := Lib.hid hx
   clear hx
   obtain ⟨va, vn, vc, rfl⟩ := yax' HX.out.up2 hvo
   have HP := Lib.hid (show _ ∧ _ from ⟨hP3, hvo⟩)
   clear hP3 hvo
   go_wp2_with (first | refine u0 ?_ | (refine uS ?_; clear HX; intro w HX) | (refine uA ?_; clear HX; (first | (have hq := b3; clear hq; intro w b4 HX) | (have hq := b2; clear hq; intro w b3 HX) | (have hq := b; clear hq; intro w b2 HX) | intro w b HX)))
   go_meet
   refine ⟨⟨2, id, se, (ycu' (ybq' 40000 d4).1).1, (ycu' (ybq' 40000 d4).1).2.1, (ycu' (ybq' 40000 d4).1).2.2, sl, 0, false⟩, _, _, _, .slice sa sn sc, _, ?_, fun z hz => HP.out.1 _ (HQ.out.1 _ ((fun z hz => k_n _ (k_n _ hz)) z hz)), HP.out.2, HP.out.1 _ HQ.out.2, yex' _, H34.out.2.2, HX.out⟩
   unfold rawC
   rw [HD.out]
   dsimp only
   rw [if_neg (by decide), if_pos rfl, H34.out.1]
   dsimp only
   rw [H34.out.2.1, Bool.false_or]
  by_cases g3 : k0 = 3
  ·subst g3
   clear g1 g2
   obtain ⟨⟨se, d3⟩, h3⟩ : ∃ x, i64R d2 = x := ⟨_, rfl⟩
   obtain ⟨⟨sl, d4⟩, h4⟩ : ∃ x, shR d3 = x := ⟨_, rfl⟩
   have hsl := yon' d3
   rw [h4] at hsl
   have H34 := Lib.hid (show _ ∧ _ ∧ _ from ⟨h3, h4, hsl⟩)
   clear h3 h4 hsl
   go_wp2_with (first | refine u0 ?_ | (refine uS ?_; clear HX; intro w HX) | (refine uA ?_; clear HX; (first | (have hq := b3; clear hq; intro w b4 HX) | (have hq := b2; clear hq; intro w b3 HX) | (have hq := b; clear hq; intro w b2 HX) | intro w b HX)))
   refine (ycg' HX.out).mono ?_
   rw [H34.out.1]
   rintro e w ⟨rfl, hx⟩
   replace HX := Lib.hid hx
   clear hx
   go_wp2_with (first | refine u0 ?_ | (refine uS ?_; clear HX; intro w HX) | (refine uA ?_; clear HX; (first | (have hq := b3; clear hq; intro w b4 HX) | (have hq := b2; clear hq; intro w b3 HX) | (have hq := b; clear hq; intro w b2 HX) | intro w b HX)))
   refine (yff' HX.out.up3.up3.up2).mono ?_
   rw [H34.out.2.1]
   rintro e w ⟨vs, P2, rfl, hP2, hvs, hx⟩
   replace HX := Lib.hid hx
   clear hx
   obtain ⟨sa, sn, sc, rfl⟩ := yax' HX.out.up2 hvs
   have HQ := Lib.hid (show _ ∧ _ from ⟨hP2, hvs⟩)
   clear hP2 hvs
   go_wp2_with (first | refine u0 ?_ | (refine uS ?_; clear HX; intro w HX) | (refine uA ?_; clear HX; (first | (have hq := b3; clear hq; intro w b4 HX) | (have hq := b2; clear hq; intro w b3 HX) | (have hq := b; clear hq; intro w b2 HX) | intro w b HX)))
   go_meet
   refine ⟨⟨3, id, se, 0, 0, [], sl, 0, false⟩, d4, false, .slice none 0 0, .slice sa sn sc, _, ?_, fun z hz => HQ.out.1 _ ((fun z hz => k_n _ (k_n _ hz)) z hz), HQ.out.1 _ (k_n _ k_s), HQ.out.2, by simp, H34.out.2.2, HX.out⟩
   unfold rawC
   rw [HD.out]
   dsimp only
   rw [if_neg (by decide), if_neg (by decide), if_pos rfl, H34.out.1]
   dsimp only
   rw [H34.out.2.1]
  by_cases g4 : k0 = 4
  ·subst g4
   clear g1 g2 g3
   go_wp2_with (first | refine u0 ?_ | (refine uS ?_; clear HX; intro w HX) | (refine uA ?_; clear HX; (first | (have hq := b3; clear hq; intro w b4 HX) | (have hq := b2; clear hq; intro w b3 HX) | (have hq := b; clear hq; intro w b2 HX) | intro w b HX)))
   refine (ymf' HX.out.up2.up1).mono ?_
   rintro e w ⟨rfl, hx⟩
   replace HX := Lib.hid hx
   clear hx
   go_wp2_with (first | refine u0 ?_ | (refine uS ?_; clear HX; intro w HX) | (refine uA ?_; clear HX; (first | (have hq := b3; clear hq; intro w b4 HX) | (have hq := b2; clear hq; intro w b3 HX) | (have hq := b; clear hq; intro w b2 HX) | intro w b HX)))
   go_meet
   refine ⟨⟨4, id, 0, 0, 0, [], [], 0, (cntR 1 d2).1 == 1⟩, _, false, .slice none 0 0, .slice none 0 0, _, ?_, fun z hz => k_n _ (k_n _ hz), k_n _ k_s, k_s, by simp, by simp, HX.out.pm 5 [0, 1, 3, 2, 4] rfl rfl⟩
   unfold rawC
   rw [HD.out]
   dsimp only
   rw [if_neg (by decide), if_neg (by decide), if_neg (by decide), if_pos rfl]
  by_cases g5 : k0 = 5
  ·subst g5
   clear g1 g2 g3 g4
   obtain ⟨⟨sl, d4⟩, h4⟩ : ∃ x, shR d2 = x := ⟨_, rfl⟩
   have hsl := yon' d2
   rw [h4] at hsl
   have H34 := Lib.hid (show _ ∧ _ from ⟨h4, hsl⟩)
   clear h4 hsl
   go_wp2_with (first | refine u0 ?_ | (refine uS ?_; clear HX; intro w HX) | (refine uA ?_; clear HX; (first | (have hq := b3; clear hq; intro w b4 HX) | (have hq := b2; clear hq; intro w b3 HX) | (have hq := b; clear hq; intro w b2 HX) | intro w b HX)))
   refine (yff' HX.out.up3.up3.up2).mono ?_
   rw [H34.out.1]
   rintro e w ⟨vs, P2, rfl, hP2, hvs, hx⟩
   replace HX := Lib.hid hx
   clear hx
   obtain ⟨sa, sn, sc, rfl⟩ := yax' HX.out.up2 hvs
   have HQ := Lib.hid (show _ ∧ _ from ⟨hP2, hvs⟩)
   clear hP2 hvs
   go_wp2_with (first | refine u0 ?_ | (refine uS ?_; clear HX; intro w HX) | (refine uA ?_; clear HX; (first | (have hq := b3; clear hq; intro w b4 HX) | (have hq := b2; clear hq; intro w b3 HX) | (have hq := b; clear hq; intro w b2 HX) | intro w b HX)))
   go_meet
   refine ⟨⟨5, id, 0, 0, 0, [], sl, 0, false⟩, d4, false, .slice none 0 0, .slice sa sn sc, _, ?_, fun z hz => HQ.out.1 _ ((fun z hz => k_n _ (k_n _ hz)) z hz), HQ.out.1 _ (k_n _ k_s), HQ.out.2, by simp, H34.out.2, HX.out⟩
   unfold rawC
   rw [HD.out]
   dsimp only
   rw [if_neg (by decide), if_neg (by decide), if_neg (by decide), if_neg (by decide), if_pos rfl]
   rw [H34.out.1]
  by_cases g6 : k0 = 6
  ·subst g6
   clear g1 g2 g3 g4 g5
   go_wp2_with (first | refine u0 ?_ | (refine uS ?_; clear HX; intro w HX) | (refine uA ?_; clear HX; (first | (have hq := b3; clear hq; intro w b4 HX) | (have hq := b2; clear hq; intro w b3 HX) | (have hq := b; clear hq; intro w b2 HX) | intro w b HX)))
   refine (ycp' HX.out 3 (by omega)).mono ?_
   rintro e w ⟨rfl, hx⟩
   replace HX := Lib.hid hx
   clear hx
   go_wp2_with (first | refine u0 ?_ | (refine uS ?_; clear HX; intro w HX) | (refine uA ?_; clear HX; (first | (have hq := b3; clear hq; intro w b4 HX) | (have hq := b2; clear hq; intro w b3 HX) | (have hq := b; clear hq; intro w b2 HX) | intro w b HX)))
   refine (ymf' HX.out.up2.up1).mono ?_
   rintro e w ⟨rfl, hx⟩
   replace HX := Lib.hid hx
   clear hx
   go_wp2_with (first | refine u0 ?_ | (refine uS ?_; clear HX; intro w HX) | (refine uA ?_; clear HX; (first | (have hq := b3; clear hq; intro w b4 HX) | (have hq := b2; clear hq; intro w b3 HX) | (have hq := b; clear hq; intro w b2 HX) | intro w b HX)))
   go_meet
   refine ⟨⟨6, id, 0, 0, 0, [], [], (cntR 3 d2).1, (cntR 1 (cntR 3 d2).2).1 == 1⟩, _, false, .slice none 0 0, .slice none 0 0, _, ?_, fun z hz => k_n _ (k_n _ hz), k_n _ k_s, k_s, by simp, by simp, HX.out.pm 5 [0, 1, 3, 2, 4] rfl rfl⟩
   unfold rawC
   rw [HD.out]
   dsimp only
   rw [if_neg (by decide), if_neg (by decide), if_neg (by decide), if_neg (by decide), if_neg (by decide), if_pos rfl]
  by_cases g7 : k0 = 7
  ·subst g7
   clear g1 g2 g3 g4 g5 g6
   go_wp2_with (first | refine u0 ?_ | (refine uS ?_; clear HX; intro w HX) | (refine uA ?_; clear HX; (first | (have hq := b3; clear hq; intro w b4 HX) | (have hq := b2; clear hq; intro w b3 HX) | (have hq := b; clear hq; intro w b2 HX) | intro w b HX)))
   refine (ycp' HX.out 3 (by omega)).mono ?_
   rintro e w ⟨rfl, hx⟩
   replace HX := Lib.hid hx
   clear hx
   go_wp2_with (first | refine u0 ?_ | (refine uS ?_; clear HX; intro w HX) | (refine uA ?_; clear HX; (first | (have hq := b3; clear hq; intro w b4 HX) | (have hq := b2; clear hq; intro w b3 HX) | (have hq := b; clear hq; intro w b2 HX) | intro w b HX)))
   go_meet
   refine ⟨⟨7, id, 0, 0, 0, [], [], (cntR 3 d2).1, false⟩, _, false, .slice none 0 0, .slice none 0 0, _, ?_, fun z hz => k_n _ (k_n _ hz), k_n _ k_s, k_s, by simp, by simp, HX.out.pm 5 [0, 2, 3, 1, 4] rfl rfl⟩
   unfold rawC
   rw [HD.out]
   dsimp only
   rw [if_neg (by decide), if_neg (by decide), if_neg (by decide), if_neg (by decide), if_neg (by decide), if_neg (by decide), if_pos rfl]
  have f1 : (k0 == 1) = false := by rw [beq_eq_false_iff_ne]; exact g1
  have f2 : (k0 == 2) = false := by rw [beq_eq_false_iff_ne]; exact g2
  have f3 : (k0 == 3) = false := by rw [beq_eq_false_iff_ne]; exact g3
  have f4 : (k0 == 4) = false := by rw [beq_eq_false_iff_ne]; exact g4
  have f5 : (k0 == 5) = false := by rw [beq_eq_false_iff_ne]; exact g5
  have f6 : (k0 == 6) = false := by rw [beq_eq_false_iff_ne]; exact g6
  have f7 : (k0 == 7) = false := by rw [beq_eq_false_iff_ne]; exact g7
  have HG := Lib.hid (show _ ∧ _ ∧ _ ∧ _ ∧ _ ∧ _ ∧ _ from ⟨g1, g2, g3, g4, g5, g6, g7⟩)
  clear g1 g2 g3 g4 g5 g6 g7
  go_wp2_with (first | refine u0 ?_ | (refine uS ?_; clear HX; intro w HX) | (refine uA ?_; clear HX; (first | (have hq := b3; clear hq; intro w b4 HX) | (have hq := b2; clear hq; intro w b3 HX) | (have hq := b; clear hq; intro w b2 HX) | intro w b HX)))
  go_meet
  refine ⟨⟨k0, id, 0, 0, 0, [], [], 0, false⟩, _, false, .slice none 0 0, .slice none 0 0, _, ?_, fun z hz => k_n _ (k_n _ hz), k_n _ k_s, k_s, by simp, by simp, HX.out.pm 5 [0, 2, 3, 1, 4] rfl rfl⟩
  unfold rawC
  rw [HD.out]
  dsimp only
  obtain ⟨g1, g2, g3, g4, g5, g6, g7⟩ := HG.out
  rw [if_neg g1, if_neg g2, if_neg g3, if_neg g4, if_neg g5, if_neg g6, if_neg g7]
 case rest =>
  obtain ⟨⟨k, i2, se, rs, rn, ops, shs, sd, ys⟩, d, bad, vo, vs, P', hr, hPP, hvo, hvs, hpa, hsh, hS⟩ := hcut
  obtain ⟨va, vn, vc, rfl⟩ := yax' hS.up2 hvo
  obtain ⟨sa, sn, sc, rfl⟩ := yax' hS.up2 hvs
  have HR := Lib.hid hr
  have HPP := Lib.hid (show _ ∧ _ ∧ _ ∧ _ ∧ _ from ⟨hPP, hvo, hvs, hpa, hsh⟩)
  clear HX hr hPP hvo hvs hpa hsh
  rename World => w
  have HX := Lib.hid hS.up2
  clear hS
  have HS := Lib.hid (fun (q : PRow) (h : q ∈ P') => h)
  unfold cmdV yrh' at HX
  dsimp only at HX HPP
  cases bad with
  | true =>
   obtain rfl : o = none := by
    rw [← HO.out]
    unfold getC
    rw [HR.out, if_neg]
    rintro ⟨h1, h2, h3⟩
    cases h1
   go_wp2_with (first | refine u0 ?_ | (refine uS ?_; clear HX; intro w HX) | (refine uA ?_; clear HX; (first | (have hq := b3; clear hq; intro w b4 HX) | (have hq := b2; clear hq; intro w b3 HX) | (have hq := b; clear hq; intro w b2 HX) | intro w b HX)))
   refine ydx' HX rfl rfl (by (repeat (first | (with_reducible exact k_s) | (with_reducible apply k_m)))) (by kernel_rfl) ?_
   exact ⟨.slice none 0 0, .slice none 0 0, _, rfl, fun z hz => k_n _ (k_n _ (HS.out _ (HPP.out.1 z hz))), k_n _ k_s, k_s, (HX.out.cut1.cut1.cut1.cut1.poolNil 5).poolNil 1⟩
  | false =>
   go_wp2_with (first | refine u0 ?_ | (refine uS ?_; clear HX; intro w HX) | (refine uA ?_; clear HX; (first | (have hq := b3; clear hq; intro w b4 HX) | (have hq := b2; clear hq; intro w b3 HX) | (have hq := b; clear hq; intro w b2 HX) | intro w b HX)))
   refine (yjv' HX.out.up1).mono ?_
   obtain ⟨ze, hze⟩ : ∃ z, endR d = z := ⟨_, rfl⟩
   have hze2 : (!d.2 && d.1.isEmpty) = ze := hze
   rw [hze2]
   rintro e w2 ⟨rfl, rfl⟩
   clear hze2
   have HZ := Lib.hid hze
   clear hze
   cases ze with
   | false =>
    obtain rfl : o = none := by
     rw [← HO.out]
     unfold getC
     rw [HR.out, if_neg]
     rintro ⟨h1, h2, h3⟩
     (rw [HZ.out] at h2; cases h2)
    go_wp2_with (first | refine u0 ?_ | (refine uS ?_; clear HX; intro w HX) | (refine uA ?_; clear HX; (first | (have hq := b3; clear hq; intro w b4 HX) | (have hq := b2; clear hq; intro w b3 HX) | (have hq := b; clear hq; intro w b2 HX) | intro w b HX)))
    refine ydx' HX rfl rfl (by (repeat (first | (with_reducible exact k_s) | (with_reducible apply k_m)))) (by kernel_rfl) ?_
    exact ⟨.slice none 0 0, .slice none 0 0, _, rfl, fun z hz => k_n _ (k_n _ (HS.out _ (HPP.out.1 z hz))), k_n _ k_s, k_s, (HX.out.cut1.cut1.cut1.cut1.poolNil 5).poolNil 1⟩
   | true =>
    go_wp2_with (first | refine u0 ?_ | (refine uS ?_; clear HX; intro w HX) | (refine uA ?_; clear HX; (first | (have hq := b3; clear hq; intro w b4 HX) | (have hq := b2; clear hq; intro w b3 HX) | (have hq := b; clear hq; intro w b2 HX) | intro w b HX)))
    refine (yed' HX.out hd ⟨k, i2, se, rs, rn, ops, shs, sd, ys⟩ (.slice va vn vc) (.slice sa sn sc) HPP.out.2.1 HPP.out.2.2.1 HPP.out.2.2.2.1 HPP.out.2.2.2.2).mono ?_
    rintro e w ⟨v4, rfl, hx⟩
    have hx := hx.poolRow
    replace HX := Lib.hid hx
    clear hx
    go_wp2_with (first | refine u0 ?_ | (refine uS ?_; clear HX; intro w HX) | (refine uA ?_; clear HX; (first | (have hq := b3; clear hq; intro w b4 HX) | (have hq := b2; clear hq; intro w b3 HX) | (have hq := b; clear hq; intro w b2 HX) | intro w b HX)))
    refine (yx9' HX.out k_s (k_n _ (HPP.out.1 _ HV.out.1))).mono ?_
    obtain ⟨q, hq⟩ : ∃ q, decide (putC ⟨k, i2, se, rs, rn, ops, shs, sd, ys⟩ = l) = q := ⟨_, rfl⟩
    rw [hq]
    rintro e w ⟨rfl, hx⟩
    replace HX := Lib.hid hx
    clear hx
    have HQ := Lib.hid hq
    clear hq HS
    have HS := Lib.hid (fun (q : PRow) (h : q ∈ P') => List.mem_cons_of_mem (1, v4, (putC ⟨k, i2, se, rs, rn, ops, shs, sd, ys⟩).map bv) h)
    cases q with
    | false =>
     obtain rfl : o = none := by
      rw [← HO.out]
      unfold getC
      rw [HR.out, if_neg]
      rintro ⟨h1, h2, h3⟩
      exact of_decide_eq_false HQ.out h3
     go_wp2_with (first | refine u0 ?_ | (refine uS ?_; clear HX; intro w HX) | (refine uA ?_; clear HX; (first | (have hq := b3; clear hq; intro w b4 HX) | (have hq := b2; clear hq; intro w b3 HX) | (have hq := b; clear hq; intro w b2 HX) | intro w b HX)))
     refine ydx' HX rfl rfl (by (repeat (first | (with_reducible exact k_s) | (with_reducible apply k_m)))) (by kernel_rfl) ?_
     exact ⟨.slice none 0 0, .slice none 0 0, _, rfl, fun z hz => k_n _ (k_n _ (HS.out _ (HPP.out.1 z hz))), k_n _ k_s, k_s, (HX.out.cut1.cut1.cut1.cut1.poolNil 5).poolNil 1⟩
    | true =>
     obtain rfl : o = some ⟨k, i2, se, rs, rn, ops, shs, sd, ys⟩ := by
      rw [← HO.out]
      unfold getC
      rw [HR.out, if_pos ⟨rfl, HZ.out, of_decide_eq_true HQ.out⟩]
     go_wp2_with (first | refine u0 ?_ | (refine uS ?_; clear HX; intro w HX) | (refine uA ?_; clear HX; (first | (have hq := b3; clear hq; intro w b4 HX) | (have hq := b2; clear hq; intro w b3 HX) | (have hq := b; clear hq; intro w b2 HX) | intro w b HX)))
     refine ydx' HX rfl rfl (by (repeat (first | (with_reducible exact k_s) | (with_reducible apply k_m)))) (by kernel_rfl) ?_
     exact ⟨.slice va vn vc, .slice sa sn sc, _, rfl, fun z hz => HS.out _ (HPP.out.1 z hz), HS.out _ HPP.out.2.1, HS.out _ HPP.out.2.2.1, HX.out.cut1.cut1.cut1.cut1⟩
end
end Go.Proofs.YtcnkifbjlihaoaaGreatDoor

namespace Go.Proofs.YtcnkifbjlihaoaaGreatDoor
open Go.RowKit Go.Av
section
variable {w0 w : World} {b : Nat} {S : TreeS} {P P' : List PRow} {R : List Thing} {rows : List (Value × Bs)}
end
end Go.Proofs.YtcnkifbjlihaoaaGreatDoor

namespace Go.Proofs.YtcnkifbjlihaoaaGreatDoor
open Go.RowKit Go.Av
section
variable {w0 w : World} {b : Nat} {S : TreeS} {P P' : List PRow} {R : List Thing} {rows : List (Value × Bs)}
end
end Go.Proofs.YtcnkifbjlihaoaaGreatDoor

namespace Go.Proofs.YtcnkifbjlihaoaaGreatDoor
open Go.RowKit Go.Av
section
variable {w0 w : World} {P P' : List PRow} {R : List Thing} {rows : List (Value × Bs)}
theorem sn_act : StructN Tryz.prog 37 5 := ⟨by kernel_rfl⟩
theorem z_rreply : yd0' Tryz.prog 37 #[.int .i64 0, .int .i64 0, .int .i64 0, .int .i64 0, .slice none 0 0] := by unfold yd0'; kernel_rfl
end
end Go.Proofs.YtcnkifbjlihaoaaGreatDoor

namespace Go.Proofs.YtcnkifbjlihaoaaGreatDoor
open Go.RowKit Go.Av
section
variable {w0 w : World} {P P' : List PRow} {R : List Thing} {rows : List (Value × Bs)}
theorem yb7' {l : List OpS} (h : yh6' l = false) : l.length ≤ 20 ∧ ∀ o ∈ l, o.path.size ≤ 300 := by
 unfold yh6' at h
 rw [Bool.or_eq_false_iff] at h
 refine ⟨by have := of_decide_eq_false h.1; omega, fun o ho => ?_⟩
 have := List.any_eq_false.1 h.2 o ho
 simp at this
 omega
end
end Go.Proofs.YtcnkifbjlihaoaaGreatDoor

namespace Go.Proofs.YtcnkifbjlihaoaaGreatDoor
open Go.RowKit Go.Av
section
variable {w0 w : World} {P P' : List PRow} {R : List Thing} {rows : List (Value × Bs)}
end
end Go.Proofs.YtcnkifbjlihaoaaGreatDoor

namespace Go.Proofs.YtcnkifbjlihaoaaGreatDoor
open Go.RowKit Go.Av
theorem sn_x6 : StructN Tryz.prog 93 11 := ⟨by kernel_rfl⟩
theorem z_x6 : yd0' Tryz.prog 93 #[.int .i64 0, .int .i64 0, .int .i64 0, .int .i64 0, .int .i64 0, .int .i64 0, .slice none 0 0, .int .i64 0, .int .i64 0, .slice none 0 0, .bool false] := by unfold yd0'; kernel_rfl
section
variable {w0 w : World} {P P' : List PRow} {R : List Thing} {rows : List (Value × Bs)}
def outV (o : OutS) (v1 v2 : Value) : Array Value := #[.int .i64 o.kind, .int .i64 o.id, .int .i64 o.reply.num, .int .i64 o.reply.zxid, .int .i64 o.reply.err, .int .i64 o.reply.at_, v1, .int .i64 o.err, .int .i64 o.at_, v2, .bool o.yes]
def RsIn (P : List PRow) (rs : List ResS) (v : Value) : Prop := ∃ xs, ResL P rs xs ∧ (11, v, xs) ∈ P
theorem RsIn.mono {P P' : List PRow} {rs : List ResS} {v : Value} (h : RsIn P rs v) (hP : ∀ q ∈ P, q ∈ P') : RsIn P' rs v := by
 obtain ⟨xs, h1, h2⟩ := h
 exact ⟨xs, h1.mono hP, hP _ h2⟩
def OutIn (P : List PRow) (o : OutS) (v1 v2 : Value) : Prop := RsIn P o.reply.rs v1 ∧ RsIn P o.rs v2
theorem OutIn.mono {P P' : List PRow} {o : OutS} {v1 v2 : Value} (h : OutIn P o v1 v2) (hP : ∀ q ∈ P, q ∈ P') : OutIn P' o v1 v2 := ⟨h.1.mono hP, h.2.mono hP⟩
theorem yqa' (h : Sep w0 w (yab' w0 P :: R) rows) (v : Value) (b : List Bs) (hv : (1, v, b.map sv) ∈ P) (hn : b.length ≤ 1000000) :
  Calls Tryz.prog 183 #[v] w fun e w' => ∃ v', e = .returned v' ∧ Sep w0 w' (yab' w0 ((1, v', b.map sv) :: P) :: R) rows := by
 obtain ⟨E, hE⟩ := h.poolGet hv
 refine (yej' v b E w hE (by omega)).mono ?_
 rintro e w' ⟨v', D, rfl, ho, hu⟩
 exact ⟨v', rfl, h.poolAdd ho hu⟩
def yz0' (w0 : World) (rs : List ResS) (P : List PRow) (R : List Thing) (rows : List (Value × Bs)) (e : Ending) (w' : World) : Prop :=
 ∃ v P', e = .returned v ∧ (∀ q ∈ P, q ∈ P') ∧ RsIn P' rs v ∧ Sep w0 w' (yab' w0 P' :: R) rows
def yz4' (w0 : World) (rs : List ResS) (P : List PRow) (R : List Thing) (rows : List (Value × Bs)) (k : Nat) (v3 v8 : Value) (w : World) : Prop :=
 ∃ (i : Nat) (ys : List Value) (a : Option Addr) (n c : Nat) (P' : List PRow), i + k = rs.length ∧ v3 = .slice a n c ∧ v8 = .int .i64 (i : Int) ∧ (∀ q ∈ P, q ∈ P') ∧ ResL P' (rs.take i) ys ∧ Sep w0 w (yah' 11 (.slice a n c) ys :: yab' w0 P' :: R) rows
set_option maxRecDepth 100000 in
set_option maxHeartbeats 4000000 in
theorem yjm' (h : Sep w0 w (yab' w0 P :: R) rows) (rs : List ResS) (v : Value) (hv : RsIn P rs v) (hok : ynp' rs) :
  Calls Tryz.prog 201 #[v] w (yz0' w0 rs P R rows) := by
 obtain ⟨xs, hr, hm⟩ := hv
 obtain ⟨E, hE⟩ := h.poolGet hm
 obtain ⟨a0, n0, c0, rfl, hl0, -, -, hne⟩ := ReadRow.some hE
 rw [hr.len] at hl0
 obtain rfl : rs.length = n0 := by omega
 have HV := Lib.hid (show _ ∧ _ ∧ _ from ⟨hr, hm, hok⟩)
 have HNE := Lib.hid hne
 have HX := Lib.hid h
 clear h hE hl0 hne hr hm hok
 go_enter Tryz.func201, Tryz.ntmps201
 go_wp2_with (first | refine u0 ?_ | (refine uS ?_; clear HX; intro w HX) | (refine uA ?_; clear HX; (first | (have hq := b; clear hq; intro w b2 HX) | intro w b HX)) | (refine uP ?_; clear HX; intro w av nv cv HX))
 have HST := Lib.hid (show yz4' w0 rs P R rows rs.length (.slice none 0 0) (.int .i64 (0 : Int)) w from ⟨0, [], none, 0, 0, P, by simp, rfl, rfl, fun q hq => hq, .nil, HX.out.nilRow 11⟩)
 clear HX
 go_loopg [3, 5, 8] rs.length (fun k v3 _ v8 wr => yz4' w0 rs P R rows k v3 v8 wr)
 case atStart => exact HST.out
 case round =>
  rename World => w
  obtain ⟨i, ys, a, n, c, P', hik, rfl, rfl, hP', hrl, hS⟩ := hrel
  have HRL := Lib.hid (show _ ∧ _ from ⟨hP', hrl⟩)
  have HX := Lib.hid hS
  clear hP' hrl hS HST
  by_cases hlt : i < rs.length
  case neg =>
   obtain rfl : i = rs.length := by omega
   rw [List.take_length] at HRL
   clear hlt hik
   go_wp2_with (first | refine u0 ?_ | (refine uS ?_; clear HX; intro w HX) | (refine uA ?_; clear HX; (first | (have hq := b; clear hq; intro w b2 HX) | intro w b HX)) | (refine uP ?_; clear HX; intro w av nv cv HX))
   go_ret
   exact ⟨_, _, rfl, fun q hq => k_n _ (HRL.out.1 q hq), ⟨ys, HRL.out.2.mono (fun q hq => k_n _ hq), k_s⟩, HX.out.poolRow⟩
  case pos =>
   obtain ⟨nv, m1, k1⟩ := HV.out.1.at hlt
   obtain ⟨g, off, rfl⟩ := HNE.out (by intro e; have e : xs = [] := e; have := k1 0 _ rfl; rw [e] at this; cases this)
   have htk : rs.take (i + 1) = rs.take i ++ [rs[i]] := List.take_succ_eq_append_getElem hlt
   have hfew := HV.out.2.2.2 _ (List.getElem_mem hlt)
   obtain ⟨r, hr⟩ : ∃ r, rs[i] = r := ⟨_, rfl⟩
   rw [hr] at m1 k1 htk hfew
   obtain ⟨E, hE⟩ := HX.out.up1.poolGet (HRL.out.1 _ HV.out.2.1)
   have hl := yur' (P := Tryz.prog) (ty := 115) (f := 0) hE sn_res rfl (by simp [ResS.cells]) k1
   obtain ⟨E2, hE2⟩ := HX.out.up1.poolGet (HRL.out.1 _ m1)
   obtain ⟨na, nn, nc, rfl, -⟩ := _root_.id hE2
   have HLN := Lib.hid (show ys.length = i * 11 by have := HRL.out.2.len; rw [List.length_take, Nat.min_eq_left (by omega)] at this; exact this)
   have HBD := Lib.hid (show ∀ n, ys.length = n * 11 → n + 1 ≤ 140737488355328 ∧ (n + 1) * 120 ≤ 140737488355328 from fun n hn => by
    have := HLN.out
    have := HV.out.2.2.1
    omega)
   have HK := Lib.hid (show _ ∧ _ ∧ _ from ⟨m1, htk, hfew⟩)
   have q0 : decide (i < rs.length) = true := decide_eq_true hlt
   have q9 : i ≤ 16 := by have := HV.out.2.2.1; omega
   clear hE hE2 k1 m1 htk hfew hr
   go_wp2_with (first | refine u0 ?_ | (refine uS ?_; clear HX; intro w HX) | (refine uA ?_; clear HX; (first | (have hq := b; clear hq; intro w b2 HX) | intro w b HX)) | (refine uP ?_; clear HX; intro w av nv cv HX) | ((with_reducible apply yay' hl); (· rfl); (· rfl); simp only [Act.put, k_a, k_b, k_c]))
   refine (yqa' HX.out.up2 _ r.names (HRL.out.1 _ HK.out.1) (by have := HK.out.2.2; omega)).mono ?_
   rintro e w ⟨v4, rfl, hx⟩
   obtain ⟨E3, hE3⟩ := hx.poolGet k_s
   obtain ⟨ma, mn, mc, rfl, -⟩ := _root_.id hE3
   clear hE3 hl
   replace HX := Lib.hid hx
   clear hx
   go_wp2_with (first | refine u0 ?_ | (refine uS ?_; clear HX; intro w HX) | (refine uA ?_; clear HX; (first | (have hq := b; clear hq; intro w b2 HX) | intro w b HX)) | (refine uP ?_; clear HX; intro w av nv cv HX))
   go_roundg (rs.length - (i + 1))
   case rel =>
    refine ⟨i + 1, _, av, nv, cv, (1, .slice ma mn mc, r.names.map sv) :: P', by omega, rfl, by go_num, fun q hq => k_n _ (HRL.out.1 q hq), ?_, HX.out.pm 4 [0, 2] rfl rfl⟩
    rw [HK.out.2.1]
    exact (HRL.out.2.mono (fun q hq => k_n _ hq)).snoc k_s
   case measure => omega
def y0c' (w0 : World) (o : OutS) (P : List PRow) (R : List Thing) (rows : List (Value × Bs)) (e : Ending) (w' : World) : Prop :=
 ∃ v1 v2 P', e = .returned (.agg (outV o v1 v2)) ∧ (∀ q ∈ P, q ∈ P') ∧ OutIn P' o v1 v2 ∧ Sep w0 w' (yab' w0 P' :: R) rows
theorem ycb' {rs : List ResS} {v : Value} (h : Sep w0 w (yab' w0 P :: R) rows) (hv : RsIn P rs v) : ∃ a n c, v = .slice a n c := by
 obtain ⟨xs, -, hm⟩ := hv
 exact yax' h hm
set_option maxRecDepth 100000 in
set_option maxHeartbeats 4000000 in
theorem yh1' (h : Sep w0 w (yab' w0 P :: R) rows) (o : OutS) (v1 v2 : Value) (hin : OutIn P o v1 v2) (hok : ytf' o) :
  Calls Tryz.prog 169 #[.agg (outV o v1 v2)] w (y0c' w0 o P R rows) := by
 obtain ⟨a1, n1, c1, rfl⟩ := ycb' h hin.1
 obtain ⟨a2, n2, c2, rfl⟩ := ycb' h hin.2
 have HV := Lib.hid (show _ ∧ _ from ⟨hin, hok⟩)
 have HX := Lib.hid h
 obtain ⟨kind, id, ⟨num, zxid, err, at_, rs1⟩, e2, at2, rs2, yes⟩ := o
 clear h hin hok
 unfold outV
 dsimp only at HV ⊢
 go_enter Tryz.func169, Tryz.ntmps169
 go_wp2_with (first | refine u0 ?_ | (refine uS ?_; clear HX; intro w HX) | (refine uA ?_; clear HX; (first | (have hq := b; clear hq; intro w b2 HX) | intro w b HX)))
 refine (yjm' HX.out.up2 rs2 _ HV.out.1.2 HV.out.2.2).mono ?_
 rintro e w ⟨v9, P9, rfl, hP9, hv9, hx⟩
 replace HX := Lib.hid hx
 clear hx
 obtain ⟨ra, rn, rc, rfl⟩ := ycb' HX.out hv9
 have H2 := Lib.hid (show _ ∧ _ from ⟨hP9, hv9⟩)
 clear hP9 hv9
 go_wp2_with (first | refine u0 ?_ | (refine uS ?_; clear HX; intro w HX) | (refine uA ?_; clear HX; (first | (have hq := b; clear hq; intro w b2 HX) | intro w b HX)))
 refine (yjm' HX.out rs1 _ (HV.out.1.1.mono H2.out.1) HV.out.2.1).mono ?_
 rintro e w ⟨v9, P8, rfl, hP8, hv8, hx⟩
 replace HX := Lib.hid hx
 clear hx
 obtain ⟨sa, sn, sc, rfl⟩ := ycb' HX.out hv8
 have H1 := Lib.hid (show _ ∧ _ from ⟨hP8, hv8⟩)
 clear hP8 hv8
 go_wp2_with (first | refine u0 ?_ | (refine uS ?_; clear HX; intro w HX) | (refine uA ?_; clear HX; (first | (have hq := b; clear hq; intro w b2 HX) | intro w b HX)))
 refine ybb' HX rfl rfl (by (repeat (first | (with_reducible exact k_s) | (with_reducible apply k_m)))) (by kernel_rfl) ?_
 exact ⟨_, _, _, rfl, fun q hq => H1.out.1 q (H2.out.1 q hq), ⟨H1.out.2, H2.out.2.mono H1.out.1⟩, HX.out.cut1.cut1⟩
end
end Go.Proofs.YtcnkifbjlihaoaaGreatDoor

namespace Go.Proofs.YtcnkifbjlihaoaaGreatDoor
open Go.RowKit Go.Av
section
variable {w0 w : World} {P P' : List PRow} {R : List Thing} {rows : List (Value × Bs)}
theorem yx6' (l : List OpS) : ∀ u ∈ l.flatMap OpS.cells, u.oneCell' = true := by
 intro u hu
 obtain ⟨o, -, ho⟩ := List.mem_flatMap.1 hu
 simp only [OpS.cells, List.mem_cons, List.not_mem_nil, or_false] at ho
 rcases ho with rfl | rfl | rfl | rfl | rfl <;> rfl
def yxv' (w0 : World) (P : List PRow) (R : List Thing) (rows : List (Value × Bs)) (l : List OpS) (e : Ending) (w' : World) : Prop :=
 ∃ v, e = .returned v ∧ Sep w0 w' (yah' 5 v (l.flatMap OpS.cells) :: yab' w0 P :: R) rows
set_option maxRecDepth 100000 in
set_option maxHeartbeats 4000000 in
theorem yfe' (h : Sep w0 w (yab' w0 P :: R) rows) (l : List OpS) (v : Value) (hv : (5, v, l.flatMap OpS.cells) ∈ P) (hn : l.length ≤ 1000) (h0 : l ≠ []) :
  Calls Tryz.prog 73 #[v] w (yxv' w0 P R rows l) := by
 obtain ⟨E, hE⟩ := h.poolGet hv
 obtain ⟨a, n, c, rfl, hl0, -, -, hne⟩ := ReadRow.some hE
 rw [yat' yag'] at hl0
 obtain rfl : l.length = n := by omega
 obtain ⟨g, off, rfl⟩ := hne (by intro e; have := congrArg List.length e; rw [yat' yag'] at this; simp only [List.length_nil] at this; exact h0 (List.eq_nil_of_length_eq_zero (by omega)))
 have hnil := fun (W : World) (a : Option Addr) (n c n' c' : Nat) => Lib.run_eql_slice_nil (P := Tryz.prog) W 30 89 a n c n' c' Tryz.underlying30
 have HV := Lib.hid hv
 have HONE := Lib.hid (yx6' l)
 have HLEN := Lib.hid (show (l.flatMap OpS.cells).length = l.length * 5 from yat' yag' ..)
 have HX := Lib.hid h
 clear h hv hE hne hl0 h0
 go_enter Tryz.func73, Tryz.ntmps73
 go_wp2_with (first | refine u0 ?_ | (refine uS ?_; clear HX; intro w HX) | (refine uA ?_; clear HX; (first | (have hq := b; clear hq; intro w b2 HX) | intro w b HX)) | (refine yyn' HX sl_op ?_; clear HX; intro w b3 HX; simp only [Act.put, k_a, k_b, k_c]) | ((with_reducible apply yyz' HX); (· exact sl_op); (· rfl); (· rfl); (· (repeat (first | (with_reducible exact Rem.here) | (with_reducible apply Rem.there)))); (· (repeat (first | (with_reducible exact k_s) | (with_reducible apply k_m)))); (· exact HV.out); (· exact HONE.out); (· (intro n m hn2 hm; have := HLEN.out; simp only [List.length_nil] at hn2; omega)); clear HX; intro w av nv cv HX; simp only [Act.put, k_a, k_b, k_c]))
 go_ret
 refine ⟨_, rfl, ?_⟩
 have h1 := HX.out
 rw [List.nil_append] at h1
 exact h1
end
end Go.Proofs.YtcnkifbjlihaoaaGreatDoor

namespace Go.Av
theorem yqh' {S : PartS} {id sess : Int} {ops : List OpS} (h : ycc' S id sess = true) : yc8' S id sess ops = ((1, -1), S) := by unfold yc8'; rw [if_pos h]
theorem yu9' {S : PartS} {id sess : Int} {ops : List OpS} (h : ycc' S id sess = false) (h1 : mayS sess 1 ops ≠ 0) : yc8' S id sess ops = ((mayS sess 1 ops, -1), S) := by unfold yc8'; rw [if_neg (by rw [h]; exact Bool.false_ne_true), if_pos h1]
theorem yrm' {S : PartS} {id sess : Int} {ops : List OpS} (h : ycc' S id sess = false) (h1 : mayS sess 1 ops = 0) (h2 : (yct' S id sess ops).1 ≠ 0) : yc8' S id sess ops = (yct' S id sess ops, S) := by unfold yc8'; rw [if_neg (by rw [h]; exact Bool.false_ne_true), if_neg (fun hh => hh h1), if_pos h2]
theorem ynj' {S : PartS} {id sess : Int} {ops : List OpS} (h : ycc' S id sess = false) (h1 : mayS sess 1 ops = 0) (h2 : (yct' S id sess ops).1 = 0) : yc8' S id sess ops =
 (if (ybc' S.t sess S.zxid ops).2.2 = true then (0, -1) else ((ybc' S.t sess S.zxid ops).1.err, (ybc' S.t sess S.zxid ops).1.at_),
  { S with held := ya5' S.held id ops, wait := S.wait ++ [(id, ⟨sess, ops, false, !(ybc' S.t sess S.zxid ops).2.2⟩)] }) := by
 unfold yc8'; rw [if_neg (by rw [h]; exact Bool.false_ne_true), if_neg (fun hh => hh h1), if_neg (fun hh => hh h2)]
theorem yvf' {sess num : Int} {l : List OpS} (h : mayS sess num l = 0) : l ≠ [] := by
 rintro rfl
 unfold mayS at h
 rw [if_pos (show sess < 1 ∨ num < 1 ∨ ([] : List OpS).length = 0 from .inr (.inr rfl))] at h
 exact absurd h (by decide)
end Go.Av
namespace Go.Proofs.YtcnkifbjlihaoaaGreatDoor
open Go.RowKit Go.Av
section
variable {w0 w : World} {b : Nat} {S : PartS} {P P' : List PRow} {R : List Thing} {rows : List (Value × Bs)}
def PrpP (w0 : World) (b : Nat) (P : List PRow) (R : List Thing) (rows : List (Value × Bs)) (m : (Int × Int) × PartS) (e : Ending) (w' : World) : Prop :=
 ∃ P', e = .returned (.tuple #[.int .i64 m.1.1, .int .i64 m.1.2]) ∧ (∀ q ∈ P, q ∈ P') ∧ Sep w0 w' (yab' w0 P' :: ybp' b m.2 P' :: R) rows
def yjw' (w0 : World) (b b2 : Nat) (rc : Array Value) (id : Int) (ops : List OpS) (S : PartS) (P : List PRow) (R : List Thing) (rows : List (Value × Bs)) (k : Nat) (v : Value) (w : World) : Prop :=
 ∃ (i : Nat) (P' : List PRow), i + k = ops.length ∧ v = .int .i64 (i : Int) ∧ (∀ q ∈ P, q ∈ P') ∧ Sep w0 w (yab' w0 P' :: ybp' b { S with held := ya5' S.held id (ops.take i) } P' :: yac' b2 (.cells rc 39 (0, 0)) :: R) rows
set_option maxRecDepth 100000 in
set_option maxHeartbeats 8000000 in
theorem yvb' {K : Nat} (h : Sep w0 w (yab' w0 P :: ybp' b S P :: R) rows) (hd : DoorN w0) (hB : PartB K S) (hK : K ≤ 1000) (id sess : Int) (ops : List OpS) (v : Value) (hv : (5, v, ops.flatMap OpS.cells) ∈ P) (hp : ∀ o ∈ ops, o.path.size ≤ 100000) :
  Calls Tryz.prog 17 #[.pointer (some ⟨b, 0, none⟩), .int .i64 id, .int .i64 sess, v] w (PrpP w0 b P R rows (yc8' S id sess ops)) := by
 obtain ⟨E, hE⟩ := h.poolGet hv
 obtain ⟨a, n, c, rfl, hl0, -, -, hne⟩ := ReadRow.some hE
 rw [yat' yag'] at hl0
 obtain rfl : ops.length = n := by omega
 have HNE := Lib.hid hne
 have HV := Lib.hid (show _ ∧ _ from ⟨hv, hp⟩)
 have HB := Lib.hid (show _ ∧ _ from ⟨hB, hK⟩)
 have HX := Lib.hid h
 obtain ⟨rr, hrr⟩ : ∃ rr, yc8' S id sess ops = rr := ⟨_, rfl⟩
 rw [hrr]
 have HRR := Lib.hid hrr
 clear h hE hv hp hB hK hrr hl0 hne
 go_enter Tryz.func17, Tryz.ntmps17
 go_wp2_with (first | refine u0 ?_ | (refine uS ?_; clear HX; intro w HX) | (refine uA ?_; clear HX; (first | (have hq := b3; clear hq; intro w b4 HX) | (have hq := b2; clear hq; intro w b3 HX) | (have hq := b; clear hq; intro w b2 HX) | intro w b HX)))
 refine (yma' HX.out id sess).mono ?_
 obtain ⟨zk, hzk⟩ : ∃ z, ycc' S id sess = z := ⟨_, rfl⟩
 rw [hzk]
 rintro e w ⟨rfl, hx⟩
 replace HX := Lib.hid hx
 have HZK := Lib.hid hzk
 clear hx hzk
 cases zk with
 | true =>
  obtain rfl : rr = ((1, -1), S) := by rw [← HRR.out]; exact yqh' HZK.out
  go_wp2_with (first | refine u0 ?_ | (refine uS ?_; clear HX; intro w HX) | (refine uA ?_; clear HX; (first | (have hq := b3; clear hq; intro w b4 HX) | (have hq := b2; clear hq; intro w b3 HX) | (have hq := b; clear hq; intro w b2 HX) | intro w b HX)))
  go_ret2
  exact ⟨P, rfl, fun q hq => hq, HX.out⟩
 | false =>
  obtain ⟨me, hme⟩ : ∃ me, mayS sess 1 ops = me := ⟨_, rfl⟩
  have HME := Lib.hid hme
  clear hme
  go_wp2_with (first | refine u0 ?_ | (refine uS ?_; clear HX; intro w HX) | (refine uA ?_; clear HX; (first | (have hq := b3; clear hq; intro w b4 HX) | (have hq := b2; clear hq; intro w b3 HX) | (have hq := b; clear hq; intro w b2 HX) | intro w b HX)))
  refine (yji' HX.out hd sess 1 ops _ HV.out.1 HV.out.2).mono ?_
  rw [HME.out]
  rintro e w ⟨rfl, hx⟩
  replace HX := Lib.hid hx
  clear hx
  by_cases h0 : me = 0
  case neg =>
   have q1 : (me != 0) = true := by rw [bne_iff_ne]; exact h0
   obtain rfl : rr = ((me, -1), S) := by rw [← HRR.out, yu9' HZK.out (by rw [HME.out]; exact h0), HME.out]
   clear h0
   go_wp2_with (first | refine u0 ?_ | (refine uS ?_; clear HX; intro w HX) | (refine uA ?_; clear HX; (first | (have hq := b3; clear hq; intro w b4 HX) | (have hq := b2; clear hq; intro w b3 HX) | (have hq := b; clear hq; intro w b2 HX) | intro w b HX)))
   go_ret2
   exact ⟨P, rfl, fun q hq => hq, HX.out⟩
  case pos =>
   subst h0
   have HGD := Lib.hid (yfa' HME.out)
   have HGD0 := Lib.hid (yvf' HME.out)
   go_wp2_with (first | refine u0 ?_ | (refine uS ?_; clear HX; intro w HX) | (refine uA ?_; clear HX; (first | (have hq := b3; clear hq; intro w b4 HX) | (have hq := b2; clear hq; intro w b3 HX) | (have hq := b; clear hq; intro w b2 HX) | intro w b HX)))
   refine (ypk' HX.out hd id sess ops _ HV.out.1 (fun o ho => yey' (HGD.out.2 o ho)) (by have := HGD.out.1; omega) HB.out.1.keys (by have := HB.out.1.wanted; have := HB.out.2; omega) (fun e he => by have := (HB.out.1.wait e he).1; omega) ⟨HB.out.1.tree.many, HB.out.1.tree.room.2⟩).mono ?_
   obtain ⟨⟨be, bat⟩, hbs⟩ : ∃ r, yct' S id sess ops = r := ⟨_, rfl⟩
   rw [hbs]
   have HBS := Lib.hid hbs
   rintro e w ⟨P2, rfl, hP2, hx⟩
   clear HX hbs
   have HX := Lib.hid hx
   have HP2 := Lib.hid hP2
   clear hx hP2
   by_cases h0 : be = 0
   case neg =>
    have q1 : (be != 0) = true := by rw [bne_iff_ne]; exact h0
    obtain rfl : rr = ((be, bat), S) := by rw [← HRR.out, yrm' HZK.out HME.out (by rw [HBS.out]; exact h0), HBS.out]
    clear h0
    go_wp2_with (first | refine u0 ?_ | (refine uS ?_; clear HX; intro w HX) | (refine uA ?_; clear HX; (first | (have hq := b3; clear hq; intro w b4 HX) | (have hq := b2; clear hq; intro w b3 HX) | (have hq := b; clear hq; intro w b2 HX) | intro w b HX)))
    go_ret2
    exact ⟨P2, rfl, HP2.out, HX.out⟩
   case pos =>
    subst h0
    have HR2 := Lib.hid (HRR.out.symm.trans (ynj' HZK.out HME.out (by rw [HBS.out])))
    clear HRR
    go_wp2_with (first | refine u0 ?_ | (refine uS ?_; clear HX; intro w HX) | (refine uA ?_; clear HX; (first | (have hq := b3; clear hq; intro w b4 HX) | (have hq := b2; clear hq; intro w b3 HX) | (have hq := b; clear hq; intro w b2 HX) | intro w b HX)))
    obtain ⟨t, lk, mw, md, mc, gs, hgs, hgv, hS⟩ := ybv' HX.out.up1
    have HG := Lib.hid (show _ ∧ _ from ⟨hgs, hgv⟩)
    obtain ⟨R', hR'⟩ : ∃ R', ThLk lk S.held :: yal' (.int .i64) mw (gs.map WaitG.kv) :: yal' (.int .i64) md (S.decided.map ikv) :: yal' (.int .i64) mc (S.closed.map ikv) :: R = R' := ⟨_, rfl⟩
    have h3 : Sep w0 w (yab' w0 P2 :: yam' t S.t P2 :: yac' b (.cells (yaj' S.t.room t lk S.zxid mw md mc) 123 (0, 0)) :: R') rows := by
     rw [← hR']
     exact hS.pm 7 [6, 1, 0, 2, 3, 4, 5] rfl rfl
    have HRR2 := Lib.hid hR'
    obtain ⟨⟨⟨n1, z1, e1, t1, rs1⟩, S2, ok1⟩, hm1⟩ : ∃ m1, ybc' S.t sess S.zxid ops = m1 := ⟨_, rfl⟩
    have hr2 := HR2.out
    rw [hm1] at hr2
    have HR3 := Lib.hid hr2
    have HM1 := Lib.hid hm1
    clear HX hgs hgv hS hR' hr2 HR2 hm1
    have HX := Lib.hid h3
    clear h3
    refine rM (fun W => (∃ Ts, Sep w0 W (yac' b (.cells (yaj' S.t.room t lk S.zxid mw md mc) 123 (0, 0)) :: Ts) rows)) 16 ?_
    intro KEEPX
    replace HX := Lib.hid HX.out.drew
    have hl : ∀ V, (∃ Ts, Sep w0 V (yac' b (.cells (yaj' S.t.room t lk S.zxid mw md mc) 123 (0, 0)) :: Ts) rows) → (Instr.loadAt 65 (.pointer (some ⟨b, 1, none⟩))).run Tryz.prog V = .ok (.pointer (some ⟨t, 0, none⟩)) V := by
     rintro V ⟨Ts, hV⟩
     exact yae' (by kernel_rfl) (yaa' hV.blk 1 rfl)
    have hl2 : ∀ V, (∃ Ts, Sep w0 V (yac' b (.cells (yaj' S.t.room t lk S.zxid mw md mc) 123 (0, 0)) :: Ts) rows) → (Instr.loadAt 2 (.pointer (some ⟨b, 3, none⟩))).run Tryz.prog V = .ok (.int .i64 S.zxid) V := by
     rintro V ⟨Ts, hV⟩
     exact yae' (by kernel_rfl) (yaa' hV.blk 3 rfl)
    refine rT [(0, false), (1, false), (2, false), (3, true), (5, false), (6, false), (7, false), (8, false), (9, true), (10, false)] 8 ?_
    apply Exists.intro; refine ⟨?_, ⟨_, HX.out.up2⟩, ?_⟩
    ·iterate 10 (refine xE ?_)
     exact rfl
    clear hl hl2
    refine ydq' (fuel := 7) [4, 15] (by kernel_rfl) (by simp) (fun i hi => ?_)
    simp only [List.mem_cons, List.not_mem_nil, or_false] at hi
    rcases hi with rfl | rfl
    ·refine ⟨_, (by (simp only [k_i, k_j, k_k]; try rfl)), fun K hK => ?_⟩
     go_wp2_with fail
     refine (yd7' HX.out (HB.out.1.tree.ok (by have := HB.out.2; omega))).mono ?_
     rintro e w ⟨tc, P3, rfl, hP3, hx⟩
     replace HX := Lib.hid hx
     have HP3 := Lib.hid hP3
     clear hx hP3
     go_wp2_with fail
     refine hK _ _ ⟨_, HX.out.up3⟩ ?_
     clear hK
     refine ydq' (fuel := 6) [11, 15] (by kernel_rfl) (by simp) (fun i hi => ?_)
     simp only [List.mem_cons, List.not_mem_nil, or_false] at hi
     rcases hi with rfl | rfl
     ·refine ⟨_, (by (simp only [k_i, k_j, k_k]; try rfl)), fun K hK => ?_⟩
      go_wp2_with fail
      have hrq := yhn' HX.out hd HB.out.1.tree (by have := HB.out.2; omega) sess S.zxid ops _ (HP3.out _ (HP2.out _ HV.out.1)) HV.out.2
      rw [HM1.out] at hrq
      refine hrq.mono ?_
      clear hrq
      rintro e w ⟨v9, P4, rfl, hP4, ⟨a9, n9, c9, xs9, rfl, hrl9, hmem9⟩, hx⟩
      replace HX := Lib.hid hx
      have HP4 := Lib.hid hP4
      clear hx hP4 hrl9 hmem9
      dsimp only at HX ⊢
      go_wp2_with fail
      refine hK _ _ ⟨_, HX.out.up3⟩ ?_
      clear hK
      refine rT [(12, false), (13, false), (14, false)] 3 ?_
      apply Exists.intro; refine ⟨?_, ⟨_, HX.out.up3⟩, ?_⟩
      ·iterate 3 (refine xE ?_)
       exact rfl
      refine r1 2 15 fun K hK => ?_
      go_wp2_with (first | refine u0 ?_ | (refine uS ?_; clear HX; intro w HX) | (refine uA ?_; clear HX; (first | (have hq := b3; clear hq; intro w b4 HX) | (have hq := b2; clear hq; intro w b3 HX) | (have hq := b; clear hq; intro w b2 HX) | intro w b HX)))
      refine hK _ _ ⟨_, HX.out.up4⟩ ?_
      clear hK
      refine rL [16, 17] 0 ?_
      simp only [List.filterMap_cons, List.filterMap_nil, k_i, k_j, k_k]
      (with_reducible apply ydb' HX)
      ·rfl
      ·rfl
      ·rfl
      ·kernel_rfl
      ·(repeat (first | (with_reducible exact Rep.here) | (with_reducible apply Rep.there)))
      ·rfl
      ·rfl
      clear HX
      intro w HX
      simp only [Act.put, k_a, k_b, k_c, yb5', Nat.reduceAdd] at HX ⊢
      go_wp2_with (first | refine u0 ?_ | (refine uS ?_; clear HX; intro w HX) | (refine uA ?_; clear HX; (first | (have hq := b3; clear hq; intro w b4 HX) | (have hq := b2; clear hq; intro w b3 HX) | (have hq := b; clear hq; intro w b2 HX) | intro w b HX)))
      have h9 := HX.out.up1.up2
      replace HX := Lib.hid h9
      clear h9
      have h5 := HX.out
      rw [← HRR2.out] at h5
      have hq5 : Sep w0 w (yam' t S.t P3 :: yac' b (.cells (yaj' S.t.room t lk S.zxid mw md mc) 123 (0, 0)) :: ThLk lk S.held :: yal' (.int .i64) mw (gs.map WaitG.kv) :: yal' (.int .i64) md (S.decided.map ikv) :: yal' (.int .i64) mc (S.closed.map ikv) :: yab' w0 P4 :: yac' b2 (.cells #[.int .i64 n1, .int .i64 z1, .int .i64 e1, .int .i64 t1, .slice a9 n9 c9] 39 (0, 0)) :: R) rows := h5.pm 9 [3,4,5,6,7,8,1,2] rfl rfl
      have h6 := ya0' hq5 HP4.out
      have h7 := ya8' h6.up1 HG.out.1 (fun g hg => HP4.out _ (HP3.out _ (HG.out.2 g hg)))
      have HST := Lib.hid (show yjw' w0 b b2 #[.int .i64 n1, .int .i64 z1, .int .i64 e1, .int .i64 t1, .slice a9 n9 c9] id ops S P R rows ops.length (.int .i64 (0 : Int)) w from ⟨0, P4, by simp, rfl, fun q hq => HP4.out _ (HP3.out _ (HP2.out _ hq)), h7.up1⟩)
      clear HX h5 hq5 h6 h7 HG HRR2 HP2 HP3 HP4 HM1
      try clear KEEPX
      go_loopg [16, 57] ops.length (fun k _ v wr => yjw' w0 b b2 #[.int .i64 n1, .int .i64 z1, .int .i64 e1, .int .i64 t1, .slice a9 n9 c9] id ops S P R rows k v wr)
      case atStart => exact HST.out
      case round =>
       rename World => w
       obtain ⟨i, P5, hik, rfl, hP5, hS⟩ := hrel
       clear HST
       have HX := Lib.hid hS
       have HP5 := Lib.hid hP5
       clear hS hP5
       by_cases hlt : i < ops.length
       case neg =>
        obtain rfl : i = ops.length := by omega
        rw [List.take_length] at HX
        have q0 : decide ((ops.length : Int) < (ops.length : Int)) = false := decide_eq_false (by omega)
        have hol : ops.length ≤ 1000 := by have := HGD.out.1; omega
        have q9 : decide (ops.length < ops.length) = false := decide_eq_false (by omega)
        clear hlt hik
        go_wp2_with (first | refine u0 ?_ | (refine uS ?_; clear HX; intro w HX) | (refine uA ?_; clear HX; (first | (have hq := b3; clear hq; intro w b4 HX) | (have hq := b2; clear hq; intro w b3 HX) | (have hq := b; clear hq; intro w b2 HX) | intro w b HX)))
        obtain ⟨t, lk, mw, md, mc, gs, hgs, hgv, hS⟩ := ybv' HX.out.up1
        have HG := Lib.hid (show _ ∧ _ from ⟨hgs, hgv⟩)
        obtain ⟨R', hR'⟩ : ∃ R', yam' t S.t P5 :: ThLk lk (ya5' S.held id ops) :: yal' (.int .i64) md (S.decided.map ikv) :: yal' (.int .i64) mc (S.closed.map ikv) :: R = R' := ⟨_, rfl⟩
        have h3 : Sep w0 w (yab' w0 P5 :: yac' b (.cells (yaj' S.t.room t lk S.zxid mw md mc) 123 (0, 0)) :: yal' (.int .i64) mw (gs.map WaitG.kv) :: yac' b2 (.cells #[.int .i64 n1, .int .i64 z1, .int .i64 e1, .int .i64 t1, .slice a9 n9 c9] 39 (0, 0)) :: R') rows := by
         rw [← hR']
         exact hS.pm 8 [6, 0, 3, 7, 1, 2, 4, 5] rfl rfl
        have HRR2 := Lib.hid hR'
        clear HX hgs hgv hS hR'
        have HX := Lib.hid h3
        clear h3
        refine rM (fun W => (∃ Ts, Sep w0 W (yac' b (.cells (yaj' S.t.room t lk S.zxid mw md mc) 123 (0, 0)) :: Ts) rows)) 12 ?_
        intro KEEPX
        replace HX := Lib.hid HX.out.drew
        have hl : ∀ V, (∃ Ts, Sep w0 V (yac' b (.cells (yaj' S.t.room t lk S.zxid mw md mc) 123 (0, 0)) :: Ts) rows) → (Instr.loadAt 120 (.pointer (some ⟨b, 4, none⟩))).run Tryz.prog V = .ok (.map (some mw)) V := by
         rintro V ⟨Ts, hV⟩
         exact yae' (by kernel_rfl) (yaa' hV.blk 4 rfl)
        refine rT [(0, false), (1, false), (2, false), (3, true), (4, false), (5, false), (6, false), (8, false), (9, false)] 3 ?_
        apply Exists.intro; refine ⟨?_, ⟨_, HX.out.up1⟩, ?_⟩
        ·iterate 9 (refine xE ?_)
         exact rfl
        clear hl
        refine r1 2 7 fun K hK => ?_
        go_wp2_with fail
        refine (yfe' HX.out ops _ (HP5.out _ HV.out.1) hol HGD0.out).mono ?_
        rintro e w ⟨v9, rfl, hx⟩
        obtain ⟨ka, kn, kc, rfl, -⟩ := hx.rowLen
        have h9 := hx.poolRow
        clear HX hx
        have HX := Lib.hid h9
        clear h9
        go_wp2_with fail
        refine hK _ _ ⟨_, HX.out.up1⟩ ?_
        clear hK
        refine rT [(10, false)] 1 ?_
        apply Exists.intro; refine ⟨?_, ⟨_, HX.out.up1⟩, ?_⟩
        ·iterate 1 (refine xE ?_)
         exact rfl
        refine r1 0 11 fun K hK => ?_
        obtain ⟨w9, hrun, h9⟩ := Sep.mapAdd (P := Tryz.prog) (key := .int .i64 id) (v := .agg #[.int .i64 sess, .slice ka kn kc, .bool false, .bool (!ok1)]) HX.out.up2 Tryz.underlying120 Tryz.underlying2 (by first | trivial | rfl | exact ⟨_, rfl⟩) (fun q hq e => by
         obtain ⟨g, hg, rfl⟩ := List.mem_map.1 hq
         simp only [WaitG.kv, Value.int.injEq, true_and] at e
         have h1 := ygx' HZK.out
         have h2 : S.wait = gs.map WaitG.ent := HG.out.1.symm
         rw [h2, ykk', List.any_eq_false] at h1
         exact h1 g hg (by rw [e]; exact beq_self_eq_true _))
        have H9 := Lib.hid h9
        clear h9
        go_wp2_with fail
        refine hK _ _ ⟨_, H9.out.up2⟩ ?_
        clear hK
        refine yaf' (by kernel_rfl) ?_ _
        have h6 := H9.out
        rw [← HRR2.out] at h6
        have h7 := ya0' (P' := (5, Value.slice ka kn kc, ops.flatMap OpS.cells) :: P5) h6.up4 (fun q hq => k_n _ hq)
        have h8 := ya8' (b := b) (t := t) (lk := lk) (mw := mw) (md := md) (mc := mc) (gs := gs ++ [⟨id, ⟨sess, ops, false, !ok1⟩, .slice ka kn kc⟩]) (S := { S with held := ya5' S.held id ops, wait := S.wait ++ [(id, ⟨sess, ops, false, !ok1⟩)] }) (R := yab' w0 ((5, Value.slice ka kn kc, ops.flatMap OpS.cells) :: P5) :: yac' b2 (.cells #[.int .i64 n1, .int .i64 z1, .int .i64 e1, .int .i64 t1, .slice a9 n9 c9] 39 (0, 0)) :: R) (by rw [List.map_append]; exact h7.pm 8 [3, 0, 5, 1, 6, 7, 2, 4] rfl rfl) (by rw [List.map_append, HG.out.1]; rfl) (fun g hg => by
         rcases List.mem_append.1 hg with hg | hg
         ·exact k_n _ (HG.out.2 g hg)
         ·rw [List.mem_singleton] at hg
          rw [hg]
          exact k_s)
        clear HX H9 hrun h6 h7
        have HX := Lib.hid h8
        clear h8
        rename World => w
        cases ok1 with
        | true =>
         obtain rfl : rr = ((0, -1), { S with held := ya5' S.held id ops, wait := S.wait ++ [(id, ⟨sess, ops, false, !true⟩)] }) := HR3.out
         go_wp2_with (first | refine u0 ?_ | (refine uS ?_; clear HX; intro w HX) | (refine uA ?_; clear HX; (first | (have hq := b3; clear hq; intro w b4 HX) | (have hq := b2; clear hq; intro w b3 HX) | (have hq := b; clear hq; intro w b2 HX) | intro w b HX)))
         go_ret2
         exact ⟨_, rfl, fun q hq => k_n _ (HP5.out q hq), HX.out.pm 3 [1, 0] rfl rfl⟩
        | false =>
         obtain rfl : rr = ((e1, t1), { S with held := ya5' S.held id ops, wait := S.wait ++ [(id, ⟨sess, ops, false, !false⟩)] }) := HR3.out
         go_wp2_with (first | refine u0 ?_ | (refine uS ?_; clear HX; intro w HX) | (refine uA ?_; clear HX; (first | (have hq := b3; clear hq; intro w b4 HX) | (have hq := b2; clear hq; intro w b3 HX) | (have hq := b; clear hq; intro w b2 HX) | intro w b HX)))
         refine yaq' (fun W => W = w.drew) 6 (by kernel_rfl) ?_
         replace HX := Lib.hid HX.out.drew
         generalize w.drew = w at HX ⊢
         refine rT [(0, false), (1, true), (2, false), (3, true), (4, false), (5, false)] 0 ?_
         apply Exists.intro; refine ⟨?_, rfl, ?_⟩
         ·iterate 6 (refine xD ?_)
          exact rfl
         refine yaf' (by kernel_rfl) ?_ _
         go_wp2_with (first | refine u0 ?_ | (refine uS ?_; clear HX; intro w HX) | (refine uA ?_; clear HX; (first | (have hq := b3; clear hq; intro w b4 HX) | (have hq := b2; clear hq; intro w b3 HX) | (have hq := b; clear hq; intro w b2 HX) | intro w b HX)))
         go_ret2
         exact ⟨_, rfl, fun q hq => k_n _ (HP5.out q hq), HX.out.pm 3 [1, 0] rfl rfl⟩
       case pos =>
        obtain ⟨g, off, rfl⟩ := HNE.out (by intro e; have := congrArg List.length e; rw [yat' yag'] at this; simp at this; omega)
        obtain ⟨E, hE⟩ := HX.out.poolGet (HP5.out _ HV.out.1)
        have hl := ycv' (P := Tryz.prog) (f := OpS.cells) (i := i) hE yag' sn_op hlt
        have HTK := Lib.hid (show ops.take (i + 1) = ops.take i ++ [ops[i]] from List.take_succ_eq_append_getElem hlt)
        have hgo := HGD.out.2 ops[i] (List.getElem_mem hlt)
        obtain ⟨o, ho⟩ : ∃ o, ops[i] = o := ⟨_, rfl⟩
        rw [ho] at hl HTK hgo
        have hsz := yey' hgo
        have HGO := Lib.hid hsz
        have q0 : decide (i < ops.length) = true := decide_eq_true hlt
        have q9 : i ≤ 16 := by have := HGD.out.1; omega
        have HWL := Lib.hid (ygp' o (K := 100000) (by show o.path.data.toList.length ≤ _; have := hsz.1; simpa using this) (by omega))
        have HHL := Lib.hid (show ∀ e ∈ ya5' S.held id (ops.take i), e.1.length ≤ 100000 from fun e he => by have := yb9' (yc2' _ HB.out.1.held e he); omega)
        obtain ⟨H1, hH1⟩ : ∃ H1, ya5' S.held id (ops.take i) = H1 := ⟨_, rfl⟩
        rw [hH1] at HX HHL
        have HH1 := Lib.hid hH1
        obtain ⟨kind, path, data, ver, flags⟩ := o
        simp only [OpS.cells] at hl
        clear hE ho hgo hsz hH1
        go_wp2_with (first | refine u0 ?_ | (refine uS ?_; clear HX; intro w HX) | (refine uA ?_; clear HX; (first | (have hq := b3; clear hq; intro w b4 HX) | (have hq := b2; clear hq; intro w b3 HX) | (have hq := b; clear hq; intro w b2 HX) | intro w b HX)) | ((with_reducible apply yay' hl); (· rfl); (· rfl); simp only [Act.put, k_a, k_b, k_c]))
        obtain ⟨t, lk, mw, md, mc, gs, hgs, hgv, hS⟩ := ybv' HX.out.up2
        have HG := Lib.hid (show _ ∧ _ from ⟨hgs, hgv⟩)
        obtain ⟨R', hR'⟩ : ∃ R', yam' t S.t P5 :: yal' (.int .i64) mw (gs.map WaitG.kv) :: yal' (.int .i64) md (S.decided.map ikv) :: yal' (.int .i64) mc (S.closed.map ikv) :: yac' b2 (.cells #[.int .i64 n1, .int .i64 z1, .int .i64 e1, .int .i64 t1, .slice a9 n9 c9] 39 (0, 0)) :: R = R' := ⟨_, rfl⟩
        have h3 : Sep w0 w (yab' w0 P5 :: ThLk lk H1 :: yac' b (.cells (yaj' S.t.room t lk S.zxid mw md mc) 123 (0, 0)) :: yac' b3 (.cells #[.int .i64 kind, .string path, .string data, .int .i64 ver, .int .i64 flags] 89 (0, 0)) :: R') rows := by
         rw [← hR']
         exact hS.pm 9 [7, 2, 0, 6, 1, 3, 4, 5, 8] rfl rfl
        have HRR2 := Lib.hid hR'
        clear HX hl hgs hgv hS hR'
        have HX := Lib.hid h3
        clear h3
        refine rM (fun W => (∃ Ts, Sep w0 W (yac' b (.cells (yaj' S.t.room t lk S.zxid mw md mc) 123 (0, 0)) :: yac' b3 (.cells #[.int .i64 kind, .string path, .string data, .int .i64 ver, .int .i64 flags] 89 (0, 0)) :: Ts) rows)) 8 ?_
        intro KEEPX
        replace HX := Lib.hid HX.out.drew
        have hl : ∀ V, (∃ Ts, Sep w0 V (yac' b (.cells (yaj' S.t.room t lk S.zxid mw md mc) 123 (0, 0)) :: yac' b3 (.cells #[.int .i64 kind, .string path, .string data, .int .i64 ver, .int .i64 flags] 89 (0, 0)) :: Ts) rows) → (Instr.loadAt 118 (.pointer (some ⟨b, 2, none⟩))).run Tryz.prog V = .ok (.pointer (some ⟨lk, 0, none⟩)) V := by
         rintro V ⟨Ts, hV⟩
         exact yae' (by kernel_rfl) (yaa' hV.blk 2 rfl)
        have hl2 : ∀ V, (∃ Ts, Sep w0 V (yac' b (.cells (yaj' S.t.room t lk S.zxid mw md mc) 123 (0, 0)) :: yac' b3 (.cells #[.int .i64 kind, .string path, .string data, .int .i64 ver, .int .i64 flags] 89 (0, 0)) :: Ts) rows) → (Instr.loadAt 89 (.pointer (some ⟨b3, 0, none⟩))).run Tryz.prog V = .ok (.agg #[.int .i64 kind, .string path, .string data, .int .i64 ver, .int .i64 flags]) V := by
         rintro V ⟨Ts, hV⟩
         exact ya1' sn_op.1 hV.up1.blk (Nat.le_refl 5)
        refine rT [(0, false), (1, false), (2, false), (3, true), (4, false), (5, true)] 2 ?_
        apply Exists.intro; refine ⟨?_, ⟨_, HX.out.up3.up3⟩, ?_⟩
        ·iterate 6 (refine xE ?_)
         exact rfl
        clear hl hl2
        refine r1 1 6 fun K hK => ?_
        go_wp2_with fail
        refine (ygl' HX.out hd ⟨kind, path, data, ver, flags⟩ HGO.out.1 HGO.out.2.1 HGO.out.2.2).mono ?_
        rintro e w ⟨vw, rfl, hx⟩
        obtain ⟨wa, wn, wc, rfl, -⟩ := hx.rowLen
        obtain ⟨Q, hQ⟩ : ∃ Q, (1, Value.slice wa wn wc, (yaw' ⟨kind, path, data, ver, flags⟩).map sv) :: P5 = Q := ⟨_, rfl⟩
        have h9 := hx.poolRow
        rw [hQ] at h9
        have HQ := Lib.hid (show (1, Value.slice wa wn wc, (yaw' ⟨kind, path, data, ver, flags⟩).map sv) ∈ Q ∧ ∀ q ∈ P5, q ∈ Q from ⟨by rw [← hQ]; exact k_s, by rw [← hQ]; exact fun q hq => k_n _ hq⟩)
        clear HX hx hQ
        have HX := Lib.hid h9
        clear h9
        go_wp2_with fail
        refine hK _ _ ⟨_, HX.out.up3.up3⟩ ?_
        clear hK
        refine r1 0 7 fun K hK => ?_
        go_wp2_with fail
        refine (yih' HX.out hd id (yaw' ⟨kind, path, data, ver, flags⟩) _ HQ.out.1 HWL.out HHL.out (ygn' _)).mono ?_
        rintro e w ⟨rfl, hx⟩
        replace HX := Lib.hid hx
        clear hx
        go_wp2_with fail
        refine hK _ _ ⟨_, HX.out.up3.up3⟩ ?_
        clear hK
        refine yaf' (by kernel_rfl) ?_ _
        have h6 := HX.out
        rw [← HRR2.out] at h6
        have h7 := ya0' (P' := Q) h6.up4 HQ.out.2
        have h8 := ya8' (b := b) (t := t) (lk := lk) (mw := mw) (md := md) (mc := mc) (gs := gs) (S := { S with held := yc9' H1 id (yaw' ⟨kind, path, data, ver, flags⟩) }) (R := yab' w0 Q :: yac' b2 (.cells #[.int .i64 n1, .int .i64 z1, .int .i64 e1, .int .i64 t1, .slice a9 n9 c9] 39 (0, 0)) :: R) (h7.pm 9 [3, 0, 2, 5, 6, 7, 1, 8] rfl rfl) HG.out.1 (fun g hg => HQ.out.2 _ (HG.out.2 g hg))
        have HNX := Lib.hid (show ya5' S.held id (ops.take (i + 1)) = yc9' H1 id (yaw' ⟨kind, path, data, ver, flags⟩) by rw [HTK.out, ← HH1.out]; unfold ya5'; rw [List.foldl_append]; rfl)
        clear HX h6 h7
        have HX := Lib.hid h8
        clear h8
        go_wp2_with (first | refine u0 ?_ | (refine uS ?_; clear HX; intro w HX) | (refine uA ?_; clear HX; (first | (have hq := b3; clear hq; intro w b4 HX) | (have hq := b2; clear hq; intro w b3 HX) | (have hq := b; clear hq; intro w b2 HX) | intro w b HX)))
        go_roundg (ops.length - (i + 1))
        case rel => exact ⟨i + 1, Q, by omega, by go_num, fun q hq => HQ.out.2 q (HP5.out q hq), by rw [HNX.out]; exact HX.out.pm 3 [1, 0, 2] rfl rfl⟩
        case measure => omega
     ·refine ⟨_, (by (simp only [k_i, k_j, k_k]; try rfl)), fun K hK => ?_⟩
      go_wp2_with (first | refine u0 ?_ | (refine uS ?_; clear HX; intro w HX) | (refine uA ?_; clear HX; (first | (have hq := b3; clear hq; intro w b4 HX) | (have hq := b2; clear hq; intro w b3 HX) | (have hq := b; clear hq; intro w b2 HX) | intro w b HX)))
      refine hK _ _ ⟨_, HX.out.up4⟩ ?_
      clear hK
      refine r1 5 11 fun K hK => ?_
      go_wp2_with fail
      have hrq := yhn' HX.out.up2.up2 hd HB.out.1.tree (by have := HB.out.2; omega) sess S.zxid ops _ (HP3.out _ (HP2.out _ HV.out.1)) HV.out.2
      rw [HM1.out] at hrq
      refine hrq.mono ?_
      clear hrq
      rintro e w ⟨v9, P4, rfl, hP4, ⟨a9, n9, c9, xs9, rfl, hrl9, hmem9⟩, hx⟩
      replace HX := Lib.hid hx
      have HP4 := Lib.hid hP4
      clear hx hP4 hrl9 hmem9
      dsimp only at HX ⊢
      go_wp2_with fail
      refine hK _ _ ⟨_, HX.out.up4⟩ ?_
      clear hK
      refine rT [(12, false), (13, false), (14, false)] 2 ?_
      apply Exists.intro; refine ⟨?_, ⟨_, HX.out.up4⟩, ?_⟩
      ·iterate 3 (refine xE ?_)
       exact rfl
      refine rL [16, 17] 0 ?_
      simp only [List.filterMap_cons, List.filterMap_nil, k_i, k_j, k_k]
      (with_reducible apply ydb' HX)
      ·rfl
      ·rfl
      ·rfl
      ·kernel_rfl
      ·(repeat (first | (with_reducible exact Rep.here) | (with_reducible apply Rep.there)))
      ·rfl
      ·rfl
      clear HX
      intro w HX
      simp only [Act.put, k_a, k_b, k_c, yb5', Nat.reduceAdd] at HX ⊢
      go_wp2_with (first | refine u0 ?_ | (refine uS ?_; clear HX; intro w HX) | (refine uA ?_; clear HX; (first | (have hq := b3; clear hq; intro w b4 HX) | (have hq := b2; clear hq; intro w b3 HX) | (have hq := b; clear hq; intro w b2 HX) | intro w b HX)))
      have h5 := HX.out
      rw [← HRR2.out] at h5
      have hq5 : Sep w0 w (yam' t S.t P3 :: yac' b (.cells (yaj' S.t.room t lk S.zxid mw md mc) 123 (0, 0)) :: ThLk lk S.held :: yal' (.int .i64) mw (gs.map WaitG.kv) :: yal' (.int .i64) md (S.decided.map ikv) :: yal' (.int .i64) mc (S.closed.map ikv) :: yab' w0 P4 :: yac' b2 (.cells #[.int .i64 n1, .int .i64 z1, .int .i64 e1, .int .i64 t1, .slice a9 n9 c9] 39 (0, 0)) :: R) rows := h5.pm 9 [3,4,5,6,7,8,0,2] rfl rfl
      have h6 := ya0' hq5 HP4.out
      have h7 := ya8' h6.up1 HG.out.1 (fun g hg => HP4.out _ (HP3.out _ (HG.out.2 g hg)))
      have HST := Lib.hid (show yjw' w0 b b2 #[.int .i64 n1, .int .i64 z1, .int .i64 e1, .int .i64 t1, .slice a9 n9 c9] id ops S P R rows ops.length (.int .i64 (0 : Int)) w from ⟨0, P4, by simp, rfl, fun q hq => HP4.out _ (HP3.out _ (HP2.out _ hq)), h7.up1⟩)
      clear HX h5 hq5 h6 h7 HG HRR2 HP2 HP3 HP4 HM1
      try clear KEEPX
      go_loopg [16, 57] ops.length (fun k _ v wr => yjw' w0 b b2 #[.int .i64 n1, .int .i64 z1, .int .i64 e1, .int .i64 t1, .slice a9 n9 c9] id ops S P R rows k v wr)
      case atStart => exact HST.out
      case round =>
       rename World => w
       obtain ⟨i, P5, hik, rfl, hP5, hS⟩ := hrel
       clear HST
       have HX := Lib.hid hS
       have HP5 := Lib.hid hP5
       clear hS hP5
       by_cases hlt : i < ops.length
       case neg =>
        obtain rfl : i = ops.length := by omega
        rw [List.take_length] at HX
        have q0 : decide ((ops.length : Int) < (ops.length : Int)) = false := decide_eq_false (by omega)
        have hol : ops.length ≤ 1000 := by have := HGD.out.1; omega
        have q9 : decide (ops.length < ops.length) = false := decide_eq_false (by omega)
        clear hlt hik
        go_wp2_with (first | refine u0 ?_ | (refine uS ?_; clear HX; intro w HX) | (refine uA ?_; clear HX; (first | (have hq := b3; clear hq; intro w b4 HX) | (have hq := b2; clear hq; intro w b3 HX) | (have hq := b; clear hq; intro w b2 HX) | intro w b HX)))
        obtain ⟨t, lk, mw, md, mc, gs, hgs, hgv, hS⟩ := ybv' HX.out.up1
        have HG := Lib.hid (show _ ∧ _ from ⟨hgs, hgv⟩)
        obtain ⟨R', hR'⟩ : ∃ R', yam' t S.t P5 :: ThLk lk (ya5' S.held id ops) :: yal' (.int .i64) md (S.decided.map ikv) :: yal' (.int .i64) mc (S.closed.map ikv) :: R = R' := ⟨_, rfl⟩
        have h3 : Sep w0 w (yab' w0 P5 :: yac' b (.cells (yaj' S.t.room t lk S.zxid mw md mc) 123 (0, 0)) :: yal' (.int .i64) mw (gs.map WaitG.kv) :: yac' b2 (.cells #[.int .i64 n1, .int .i64 z1, .int .i64 e1, .int .i64 t1, .slice a9 n9 c9] 39 (0, 0)) :: R') rows := by
         rw [← hR']
         exact hS.pm 8 [6, 0, 3, 7, 1, 2, 4, 5] rfl rfl
        have HRR2 := Lib.hid hR'
        clear HX hgs hgv hS hR'
        have HX := Lib.hid h3
        clear h3
        refine rM (fun W => (∃ Ts, Sep w0 W (yac' b (.cells (yaj' S.t.room t lk S.zxid mw md mc) 123 (0, 0)) :: Ts) rows)) 12 ?_
        intro KEEPX
        replace HX := Lib.hid HX.out.drew
        have hl : ∀ V, (∃ Ts, Sep w0 V (yac' b (.cells (yaj' S.t.room t lk S.zxid mw md mc) 123 (0, 0)) :: Ts) rows) → (Instr.loadAt 120 (.pointer (some ⟨b, 4, none⟩))).run Tryz.prog V = .ok (.map (some mw)) V := by
         rintro V ⟨Ts, hV⟩
         exact yae' (by kernel_rfl) (yaa' hV.blk 4 rfl)
        refine rT [(0, false), (1, false), (2, false), (3, true), (4, false), (5, false), (6, false), (8, false), (9, false)] 3 ?_
        apply Exists.intro; refine ⟨?_, ⟨_, HX.out.up1⟩, ?_⟩
        ·iterate 9 (refine xE ?_)
         exact rfl
        clear hl
        refine r1 2 7 fun K hK => ?_
        go_wp2_with fail
        refine (yfe' HX.out ops _ (HP5.out _ HV.out.1) hol HGD0.out).mono ?_
        rintro e w ⟨v9, rfl, hx⟩
        obtain ⟨ka, kn, kc, rfl, -⟩ := hx.rowLen
        have h9 := hx.poolRow
        clear HX hx
        have HX := Lib.hid h9
        clear h9
        go_wp2_with fail
        refine hK _ _ ⟨_, HX.out.up1⟩ ?_
        clear hK
        refine rT [(10, false)] 1 ?_
        apply Exists.intro; refine ⟨?_, ⟨_, HX.out.up1⟩, ?_⟩
        ·iterate 1 (refine xE ?_)
         exact rfl
        refine r1 0 11 fun K hK => ?_
        obtain ⟨w9, hrun, h9⟩ := Sep.mapAdd (P := Tryz.prog) (key := .int .i64 id) (v := .agg #[.int .i64 sess, .slice ka kn kc, .bool false, .bool (!ok1)]) HX.out.up2 Tryz.underlying120 Tryz.underlying2 (by first | trivial | rfl | exact ⟨_, rfl⟩) (fun q hq e => by
         obtain ⟨g, hg, rfl⟩ := List.mem_map.1 hq
         simp only [WaitG.kv, Value.int.injEq, true_and] at e
         have h1 := ygx' HZK.out
         have h2 : S.wait = gs.map WaitG.ent := HG.out.1.symm
         rw [h2, ykk', List.any_eq_false] at h1
         exact h1 g hg (by rw [e]; exact beq_self_eq_true _))
        have H9 := Lib.hid h9
        clear h9
        go_wp2_with fail
        refine hK _ _ ⟨_, H9.out.up2⟩ ?_
        clear hK
        refine yaf' (by kernel_rfl) ?_ _
        have h6 := H9.out
        rw [← HRR2.out] at h6
        have h7 := ya0' (P' := (5, Value.slice ka kn kc, ops.flatMap OpS.cells) :: P5) h6.up4 (fun q hq => k_n _ hq)
        have h8 := ya8' (b := b) (t := t) (lk := lk) (mw := mw) (md := md) (mc := mc) (gs := gs ++ [⟨id, ⟨sess, ops, false, !ok1⟩, .slice ka kn kc⟩]) (S := { S with held := ya5' S.held id ops, wait := S.wait ++ [(id, ⟨sess, ops, false, !ok1⟩)] }) (R := yab' w0 ((5, Value.slice ka kn kc, ops.flatMap OpS.cells) :: P5) :: yac' b2 (.cells #[.int .i64 n1, .int .i64 z1, .int .i64 e1, .int .i64 t1, .slice a9 n9 c9] 39 (0, 0)) :: R) (by rw [List.map_append]; exact h7.pm 8 [3, 0, 5, 1, 6, 7, 2, 4] rfl rfl) (by rw [List.map_append, HG.out.1]; rfl) (fun g hg => by
         rcases List.mem_append.1 hg with hg | hg
         ·exact k_n _ (HG.out.2 g hg)
         ·rw [List.mem_singleton] at hg
          rw [hg]
          exact k_s)
        clear HX H9 hrun h6 h7
        have HX := Lib.hid h8
        clear h8
        rename World => w
        cases ok1 with
        | true =>
         obtain rfl : rr = ((0, -1), { S with held := ya5' S.held id ops, wait := S.wait ++ [(id, ⟨sess, ops, false, !true⟩)] }) := HR3.out
         go_wp2_with (first | refine u0 ?_ | (refine uS ?_; clear HX; intro w HX) | (refine uA ?_; clear HX; (first | (have hq := b3; clear hq; intro w b4 HX) | (have hq := b2; clear hq; intro w b3 HX) | (have hq := b; clear hq; intro w b2 HX) | intro w b HX)))
         go_ret2
         exact ⟨_, rfl, fun q hq => k_n _ (HP5.out q hq), HX.out.pm 3 [1, 0] rfl rfl⟩
        | false =>
         obtain rfl : rr = ((e1, t1), { S with held := ya5' S.held id ops, wait := S.wait ++ [(id, ⟨sess, ops, false, !false⟩)] }) := HR3.out
         go_wp2_with (first | refine u0 ?_ | (refine uS ?_; clear HX; intro w HX) | (refine uA ?_; clear HX; (first | (have hq := b3; clear hq; intro w b4 HX) | (have hq := b2; clear hq; intro w b3 HX) | (have hq := b; clear hq; intro w b2 HX) | intro w b HX)))
         refine yaq' (fun W => W = w.drew) 6 (by kernel_rfl) ?_
         replace HX := Lib.hid HX.out.drew
         generalize w.drew = w at HX ⊢
         refine rT [(0, false), (1, true), (2, false), (3, true), (4, false), (5, false)] 0 ?_
         apply Exists.intro; refine ⟨?_, rfl, ?_⟩
         ·iterate 6 (refine xD ?_)
          exact rfl
         refine yaf' (by kernel_rfl) ?_ _
         go_wp2_with (first | refine u0 ?_ | (refine uS ?_; clear HX; intro w HX) | (refine uA ?_; clear HX; (first | (have hq := b3; clear hq; intro w b4 HX) | (have hq := b2; clear hq; intro w b3 HX) | (have hq := b; clear hq; intro w b2 HX) | intro w b HX)))
         go_ret2
         exact ⟨_, rfl, fun q hq => k_n _ (HP5.out q hq), HX.out.pm 3 [1, 0] rfl rfl⟩
       case pos =>
        obtain ⟨g, off, rfl⟩ := HNE.out (by intro e; have := congrArg List.length e; rw [yat' yag'] at this; simp at this; omega)
        obtain ⟨E, hE⟩ := HX.out.poolGet (HP5.out _ HV.out.1)
        have hl := ycv' (P := Tryz.prog) (f := OpS.cells) (i := i) hE yag' sn_op hlt
        have HTK := Lib.hid (show ops.take (i + 1) = ops.take i ++ [ops[i]] from List.take_succ_eq_append_getElem hlt)
        have hgo := HGD.out.2 ops[i] (List.getElem_mem hlt)
        obtain ⟨o, ho⟩ : ∃ o, ops[i] = o := ⟨_, rfl⟩
        rw [ho] at hl HTK hgo
        have hsz := yey' hgo
        have HGO := Lib.hid hsz
        have q0 : decide (i < ops.length) = true := decide_eq_true hlt
        have q9 : i ≤ 16 := by have := HGD.out.1; omega
        have HWL := Lib.hid (ygp' o (K := 100000) (by show o.path.data.toList.length ≤ _; have := hsz.1; simpa using this) (by omega))
        have HHL := Lib.hid (show ∀ e ∈ ya5' S.held id (ops.take i), e.1.length ≤ 100000 from fun e he => by have := yb9' (yc2' _ HB.out.1.held e he); omega)
        obtain ⟨H1, hH1⟩ : ∃ H1, ya5' S.held id (ops.take i) = H1 := ⟨_, rfl⟩
        rw [hH1] at HX HHL
        have HH1 := Lib.hid hH1
        obtain ⟨kind, path, data, ver, flags⟩ := o
        simp only [OpS.cells] at hl
        clear hE ho hgo hsz hH1
        go_wp2_with (first | refine u0 ?_ | (refine uS ?_; clear HX; intro w HX) | (refine uA ?_; clear HX; (first | (have hq := b3; clear hq; intro w b4 HX) | (have hq := b2; clear hq; intro w b3 HX) | (have hq := b; clear hq; intro w b2 HX) | intro w b HX)) | ((with_reducible apply yay' hl); (· rfl); (· rfl); simp only [Act.put, k_a, k_b, k_c]))
        obtain ⟨t, lk, mw, md, mc, gs, hgs, hgv, hS⟩ := ybv' HX.out.up2
        have HG := Lib.hid (show _ ∧ _ from ⟨hgs, hgv⟩)
        obtain ⟨R', hR'⟩ : ∃ R', yam' t S.t P5 :: yal' (.int .i64) mw (gs.map WaitG.kv) :: yal' (.int .i64) md (S.decided.map ikv) :: yal' (.int .i64) mc (S.closed.map ikv) :: yac' b2 (.cells #[.int .i64 n1, .int .i64 z1, .int .i64 e1, .int .i64 t1, .slice a9 n9 c9] 39 (0, 0)) :: R = R' := ⟨_, rfl⟩
        have h3 : Sep w0 w (yab' w0 P5 :: ThLk lk H1 :: yac' b (.cells (yaj' S.t.room t lk S.zxid mw md mc) 123 (0, 0)) :: yac' b3 (.cells #[.int .i64 kind, .string path, .string data, .int .i64 ver, .int .i64 flags] 89 (0, 0)) :: R') rows := by
         rw [← hR']
         exact hS.pm 9 [7, 2, 0, 6, 1, 3, 4, 5, 8] rfl rfl
        have HRR2 := Lib.hid hR'
        clear HX hl hgs hgv hS hR'
        have HX := Lib.hid h3
        clear h3
        refine rM (fun W => (∃ Ts, Sep w0 W (yac' b (.cells (yaj' S.t.room t lk S.zxid mw md mc) 123 (0, 0)) :: yac' b3 (.cells #[.int .i64 kind, .string path, .string data, .int .i64 ver, .int .i64 flags] 89 (0, 0)) :: Ts) rows)) 8 ?_
        intro KEEPX
        replace HX := Lib.hid HX.out.drew
        have hl : ∀ V, (∃ Ts, Sep w0 V (yac' b (.cells (yaj' S.t.room t lk S.zxid mw md mc) 123 (0, 0)) :: yac' b3 (.cells #[.int .i64 kind, .string path, .string data, .int .i64 ver, .int .i64 flags] 89 (0, 0)) :: Ts) rows) → (Instr.loadAt 118 (.pointer (some ⟨b, 2, none⟩))).run Tryz.prog V = .ok (.pointer (some ⟨lk, 0, none⟩)) V := by
         rintro V ⟨Ts, hV⟩
         exact yae' (by kernel_rfl) (yaa' hV.blk 2 rfl)
        have hl2 : ∀ V, (∃ Ts, Sep w0 V (yac' b (.cells (yaj' S.t.room t lk S.zxid mw md mc) 123 (0, 0)) :: yac' b3 (.cells #[.int .i64 kind, .string path, .string data, .int .i64 ver, .int .i64 flags] 89 (0, 0)) :: Ts) rows) → (Instr.loadAt 89 (.pointer (some ⟨b3, 0, none⟩))).run Tryz.prog V = .ok (.agg #[.int .i64 kind, .string path, .string data, .int .i64 ver, .int .i64 flags]) V := by
         rintro V ⟨Ts, hV⟩
         exact ya1' sn_op.1 hV.up1.blk (Nat.le_refl 5)
        refine rT [(0, false), (1, false), (2, false), (3, true), (4, false), (5, true)] 2 ?_
        apply Exists.intro; refine ⟨?_, ⟨_, HX.out.up3.up3⟩, ?_⟩
        ·iterate 6 (refine xE ?_)
         exact rfl
        clear hl hl2
        refine r1 1 6 fun K hK => ?_
        go_wp2_with fail
        refine (ygl' HX.out hd ⟨kind, path, data, ver, flags⟩ HGO.out.1 HGO.out.2.1 HGO.out.2.2).mono ?_
        rintro e w ⟨vw, rfl, hx⟩
        obtain ⟨wa, wn, wc, rfl, -⟩ := hx.rowLen
        obtain ⟨Q, hQ⟩ : ∃ Q, (1, Value.slice wa wn wc, (yaw' ⟨kind, path, data, ver, flags⟩).map sv) :: P5 = Q := ⟨_, rfl⟩
        have h9 := hx.poolRow
        rw [hQ] at h9
        have HQ := Lib.hid (show (1, Value.slice wa wn wc, (yaw' ⟨kind, path, data, ver, flags⟩).map sv) ∈ Q ∧ ∀ q ∈ P5, q ∈ Q from ⟨by rw [← hQ]; exact k_s, by rw [← hQ]; exact fun q hq => k_n _ hq⟩)
        clear HX hx hQ
        have HX := Lib.hid h9
        clear h9
        go_wp2_with fail
        refine hK _ _ ⟨_, HX.out.up3.up3⟩ ?_
        clear hK
        refine r1 0 7 fun K hK => ?_
        go_wp2_with fail
        refine (yih' HX.out hd id (yaw' ⟨kind, path, data, ver, flags⟩) _ HQ.out.1 HWL.out HHL.out (ygn' _)).mono ?_
        rintro e w ⟨rfl, hx⟩
        replace HX := Lib.hid hx
        clear hx
        go_wp2_with fail
        refine hK _ _ ⟨_, HX.out.up3.up3⟩ ?_
        clear hK
        refine yaf' (by kernel_rfl) ?_ _
        have h6 := HX.out
        rw [← HRR2.out] at h6
        have h7 := ya0' (P' := Q) h6.up4 HQ.out.2
        have h8 := ya8' (b := b) (t := t) (lk := lk) (mw := mw) (md := md) (mc := mc) (gs := gs) (S := { S with held := yc9' H1 id (yaw' ⟨kind, path, data, ver, flags⟩) }) (R := yab' w0 Q :: yac' b2 (.cells #[.int .i64 n1, .int .i64 z1, .int .i64 e1, .int .i64 t1, .slice a9 n9 c9] 39 (0, 0)) :: R) (h7.pm 9 [3, 0, 2, 5, 6, 7, 1, 8] rfl rfl) HG.out.1 (fun g hg => HQ.out.2 _ (HG.out.2 g hg))
        have HNX := Lib.hid (show ya5' S.held id (ops.take (i + 1)) = yc9' H1 id (yaw' ⟨kind, path, data, ver, flags⟩) by rw [HTK.out, ← HH1.out]; unfold ya5'; rw [List.foldl_append]; rfl)
        clear HX h6 h7
        have HX := Lib.hid h8
        clear h8
        go_wp2_with (first | refine u0 ?_ | (refine uS ?_; clear HX; intro w HX) | (refine uA ?_; clear HX; (first | (have hq := b3; clear hq; intro w b4 HX) | (have hq := b2; clear hq; intro w b3 HX) | (have hq := b; clear hq; intro w b2 HX) | intro w b HX)))
        go_roundg (ops.length - (i + 1))
        case rel => exact ⟨i + 1, Q, by omega, by go_num, fun q hq => HQ.out.2 q (HP5.out q hq), by rw [HNX.out]; exact HX.out.pm 3 [1, 0, 2] rfl rfl⟩
        case measure => omega
    ·refine ⟨_, (by (simp only [k_i, k_j, k_k]; try rfl)), fun K hK => ?_⟩
     go_wp2_with (first | refine u0 ?_ | (refine uS ?_; clear HX; intro w HX) | (refine uA ?_; clear HX; (first | (have hq := b3; clear hq; intro w b4 HX) | (have hq := b2; clear hq; intro w b3 HX) | (have hq := b; clear hq; intro w b2 HX) | intro w b HX)))
     refine hK _ _ ⟨_, HX.out.up3⟩ ?_
     clear hK
     refine r1 6 4 fun K hK => ?_
     go_wp2_with fail
     refine (yd7' HX.out.up2.up2 (HB.out.1.tree.ok (by have := HB.out.2; omega))).mono ?_
     rintro e w ⟨tc, P3, rfl, hP3, hx⟩
     replace HX := Lib.hid hx
     have HP3 := Lib.hid hP3
     clear hx hP3
     go_wp2_with fail
     refine hK _ _ ⟨_, HX.out.up4⟩ ?_
     clear hK
     refine r1 5 11 fun K hK => ?_
     go_wp2_with fail
     have hrq := yhn' HX.out hd HB.out.1.tree (by have := HB.out.2; omega) sess S.zxid ops _ (HP3.out _ (HP2.out _ HV.out.1)) HV.out.2
     rw [HM1.out] at hrq
     refine hrq.mono ?_
     clear hrq
     rintro e w ⟨v9, P4, rfl, hP4, ⟨a9, n9, c9, xs9, rfl, hrl9, hmem9⟩, hx⟩
     replace HX := Lib.hid hx
     have HP4 := Lib.hid hP4
     clear hx hP4 hrl9 hmem9
     dsimp only at HX ⊢
     go_wp2_with fail
     refine hK _ _ ⟨_, HX.out.up4⟩ ?_
     clear hK
     refine rT [(12, false), (13, false), (14, false)] 2 ?_
     apply Exists.intro; refine ⟨?_, ⟨_, HX.out.up4⟩, ?_⟩
     ·iterate 3 (refine xE ?_)
      exact rfl
     refine rL [16, 17] 0 ?_
     simp only [List.filterMap_cons, List.filterMap_nil, k_i, k_j, k_k]
     (with_reducible apply ydb' HX)
     ·rfl
     ·rfl
     ·rfl
     ·kernel_rfl
     ·(repeat (first | (with_reducible exact Rep.here) | (with_reducible apply Rep.there)))
     ·rfl
     ·rfl
     clear HX
     intro w HX
     simp only [Act.put, k_a, k_b, k_c, yb5', Nat.reduceAdd] at HX ⊢
     go_wp2_with (first | refine u0 ?_ | (refine uS ?_; clear HX; intro w HX) | (refine uA ?_; clear HX; (first | (have hq := b3; clear hq; intro w b4 HX) | (have hq := b2; clear hq; intro w b3 HX) | (have hq := b; clear hq; intro w b2 HX) | intro w b HX)))
     have h5 := HX.out
     rw [← HRR2.out] at h5
     have hq5 : Sep w0 w (yam' t S.t P3 :: yac' b (.cells (yaj' S.t.room t lk S.zxid mw md mc) 123 (0, 0)) :: ThLk lk S.held :: yal' (.int .i64) mw (gs.map WaitG.kv) :: yal' (.int .i64) md (S.decided.map ikv) :: yal' (.int .i64) mc (S.closed.map ikv) :: yab' w0 P4 :: yac' b2 (.cells #[.int .i64 n1, .int .i64 z1, .int .i64 e1, .int .i64 t1, .slice a9 n9 c9] 39 (0, 0)) :: R) rows := h5.pm 9 [2,4,5,6,7,8,0,3] rfl rfl
     have h6 := ya0' hq5 HP4.out
     have h7 := ya8' h6.up1 HG.out.1 (fun g hg => HP4.out _ (HP3.out _ (HG.out.2 g hg)))
     have HST := Lib.hid (show yjw' w0 b b2 #[.int .i64 n1, .int .i64 z1, .int .i64 e1, .int .i64 t1, .slice a9 n9 c9] id ops S P R rows ops.length (.int .i64 (0 : Int)) w from ⟨0, P4, by simp, rfl, fun q hq => HP4.out _ (HP3.out _ (HP2.out _ hq)), h7.up1⟩)
     clear HX h5 hq5 h6 h7 HG HRR2 HP2 HP3 HP4 HM1
     try clear KEEPX
     go_loopg [16, 57] ops.length (fun k _ v wr => yjw' w0 b b2 #[.int .i64 n1, .int .i64 z1, .int .i64 e1, .int .i64 t1, .slice a9 n9 c9] id ops S P R rows k v wr)
     case atStart => exact HST.out
     case round =>
      rename World => w
      obtain ⟨i, P5, hik, rfl, hP5, hS⟩ := hrel
      clear HST
      have HX := Lib.hid hS
      have HP5 := Lib.hid hP5
      clear hS hP5
      by_cases hlt : i < ops.length
      case neg =>
       obtain rfl : i = ops.length := by omega
       rw [List.take_length] at HX
       have q0 : decide ((ops.length : Int) < (ops.length : Int)) = false := decide_eq_false (by omega)
       have hol : ops.length ≤ 1000 := by have := HGD.out.1; omega
       have q9 : decide (ops.length < ops.length) = false := decide_eq_false (by omega)
       clear hlt hik
       go_wp2_with (first | refine u0 ?_ | (refine uS ?_; clear HX; intro w HX) | (refine uA ?_; clear HX; (first | (have hq := b3; clear hq; intro w b4 HX) | (have hq := b2; clear hq; intro w b3 HX) | (have hq := b; clear hq; intro w b2 HX) | intro w b HX)))
       obtain ⟨t, lk, mw, md, mc, gs, hgs, hgv, hS⟩ := ybv' HX.out.up1
       have HG := Lib.hid (show _ ∧ _ from ⟨hgs, hgv⟩)
       obtain ⟨R', hR'⟩ : ∃ R', yam' t S.t P5 :: ThLk lk (ya5' S.held id ops) :: yal' (.int .i64) md (S.decided.map ikv) :: yal' (.int .i64) mc (S.closed.map ikv) :: R = R' := ⟨_, rfl⟩
       have h3 : Sep w0 w (yab' w0 P5 :: yac' b (.cells (yaj' S.t.room t lk S.zxid mw md mc) 123 (0, 0)) :: yal' (.int .i64) mw (gs.map WaitG.kv) :: yac' b2 (.cells #[.int .i64 n1, .int .i64 z1, .int .i64 e1, .int .i64 t1, .slice a9 n9 c9] 39 (0, 0)) :: R') rows := by
        rw [← hR']
        exact hS.pm 8 [6, 0, 3, 7, 1, 2, 4, 5] rfl rfl
       have HRR2 := Lib.hid hR'
       clear HX hgs hgv hS hR'
       have HX := Lib.hid h3
       clear h3
       refine rM (fun W => (∃ Ts, Sep w0 W (yac' b (.cells (yaj' S.t.room t lk S.zxid mw md mc) 123 (0, 0)) :: Ts) rows)) 12 ?_
       intro KEEPX
       replace HX := Lib.hid HX.out.drew
       have hl : ∀ V, (∃ Ts, Sep w0 V (yac' b (.cells (yaj' S.t.room t lk S.zxid mw md mc) 123 (0, 0)) :: Ts) rows) → (Instr.loadAt 120 (.pointer (some ⟨b, 4, none⟩))).run Tryz.prog V = .ok (.map (some mw)) V := by
        rintro V ⟨Ts, hV⟩
        exact yae' (by kernel_rfl) (yaa' hV.blk 4 rfl)
       refine rT [(0, false), (1, false), (2, false), (3, true), (4, false), (5, false), (6, false), (8, false), (9, false)] 3 ?_
       apply Exists.intro; refine ⟨?_, ⟨_, HX.out.up1⟩, ?_⟩
       ·iterate 9 (refine xE ?_)
        exact rfl
       clear hl
       refine r1 2 7 fun K hK => ?_
       go_wp2_with fail
       refine (yfe' HX.out ops _ (HP5.out _ HV.out.1) hol HGD0.out).mono ?_
       rintro e w ⟨v9, rfl, hx⟩
       obtain ⟨ka, kn, kc, rfl, -⟩ := hx.rowLen
       have h9 := hx.poolRow
       clear HX hx
       have HX := Lib.hid h9
       clear h9
       go_wp2_with fail
       refine hK _ _ ⟨_, HX.out.up1⟩ ?_
       clear hK
       refine rT [(10, false)] 1 ?_
       apply Exists.intro; refine ⟨?_, ⟨_, HX.out.up1⟩, ?_⟩
       ·iterate 1 (refine xE ?_)
        exact rfl
       refine r1 0 11 fun K hK => ?_
       obtain ⟨w9, hrun, h9⟩ := Sep.mapAdd (P := Tryz.prog) (key := .int .i64 id) (v := .agg #[.int .i64 sess, .slice ka kn kc, .bool false, .bool (!ok1)]) HX.out.up2 Tryz.underlying120 Tryz.underlying2 (by first | trivial | rfl | exact ⟨_, rfl⟩) (fun q hq e => by
        obtain ⟨g, hg, rfl⟩ := List.mem_map.1 hq
        simp only [WaitG.kv, Value.int.injEq, true_and] at e
        have h1 := ygx' HZK.out
        have h2 : S.wait = gs.map WaitG.ent := HG.out.1.symm
        rw [h2, ykk', List.any_eq_false] at h1
        exact h1 g hg (by rw [e]; exact beq_self_eq_true _))
       have H9 := Lib.hid h9
       clear h9
       go_wp2_with fail
       refine hK _ _ ⟨_, H9.out.up2⟩ ?_
       clear hK
       refine yaf' (by kernel_rfl) ?_ _
       have h6 := H9.out
       rw [← HRR2.out] at h6
       have h7 := ya0' (P' := (5, Value.slice ka kn kc, ops.flatMap OpS.cells) :: P5) h6.up4 (fun q hq => k_n _ hq)
       have h8 := ya8' (b := b) (t := t) (lk := lk) (mw := mw) (md := md) (mc := mc) (gs := gs ++ [⟨id, ⟨sess, ops, false, !ok1⟩, .slice ka kn kc⟩]) (S := { S with held := ya5' S.held id ops, wait := S.wait ++ [(id, ⟨sess, ops, false, !ok1⟩)] }) (R := yab' w0 ((5, Value.slice ka kn kc, ops.flatMap OpS.cells) :: P5) :: yac' b2 (.cells #[.int .i64 n1, .int .i64 z1, .int .i64 e1, .int .i64 t1, .slice a9 n9 c9] 39 (0, 0)) :: R) (by rw [List.map_append]; exact h7.pm 8 [3, 0, 5, 1, 6, 7, 2, 4] rfl rfl) (by rw [List.map_append, HG.out.1]; rfl) (fun g hg => by
        rcases List.mem_append.1 hg with hg | hg
        ·exact k_n _ (HG.out.2 g hg)
        ·rw [List.mem_singleton] at hg
         rw [hg]
         exact k_s)
       clear HX H9 hrun h6 h7
       have HX := Lib.hid h8
       clear h8
       rename World => w
       cases ok1 with
       | true =>
        obtain rfl : rr = ((0, -1), { S with held := ya5' S.held id ops, wait := S.wait ++ [(id, ⟨sess, ops, false, !true⟩)] }) := HR3.out
        go_wp2_with (first | refine u0 ?_ | (refine uS ?_; clear HX; intro w HX) | (refine uA ?_; clear HX; (first | (have hq := b3; clear hq; intro w b4 HX) | (have hq := b2; clear hq; intro w b3 HX) | (have hq := b; clear hq; intro w b2 HX) | intro w b HX)))
        go_ret2
        exact ⟨_, rfl, fun q hq => k_n _ (HP5.out q hq), HX.out.pm 3 [1, 0] rfl rfl⟩
       | false =>
        obtain rfl : rr = ((e1, t1), { S with held := ya5' S.held id ops, wait := S.wait ++ [(id, ⟨sess, ops, false, !false⟩)] }) := HR3.out
        go_wp2_with (first | refine u0 ?_ | (refine uS ?_; clear HX; intro w HX) | (refine uA ?_; clear HX; (first | (have hq := b3; clear hq; intro w b4 HX) | (have hq := b2; clear hq; intro w b3 HX) | (have hq := b; clear hq; intro w b2 HX) | intro w b HX)))
        refine yaq' (fun W => W = w.drew) 6 (by kernel_rfl) ?_
        replace HX := Lib.hid HX.out.drew
        generalize w.drew = w at HX ⊢
        refine rT [(0, false), (1, true), (2, false), (3, true), (4, false), (5, false)] 0 ?_
        apply Exists.intro; refine ⟨?_, rfl, ?_⟩
        ·iterate 6 (refine xD ?_)
         exact rfl
        refine yaf' (by kernel_rfl) ?_ _
        go_wp2_with (first | refine u0 ?_ | (refine uS ?_; clear HX; intro w HX) | (refine uA ?_; clear HX; (first | (have hq := b3; clear hq; intro w b4 HX) | (have hq := b2; clear hq; intro w b3 HX) | (have hq := b; clear hq; intro w b2 HX) | intro w b HX)))
        go_ret2
        exact ⟨_, rfl, fun q hq => k_n _ (HP5.out q hq), HX.out.pm 3 [1, 0] rfl rfl⟩
      case pos =>
       obtain ⟨g, off, rfl⟩ := HNE.out (by intro e; have := congrArg List.length e; rw [yat' yag'] at this; simp at this; omega)
       obtain ⟨E, hE⟩ := HX.out.poolGet (HP5.out _ HV.out.1)
       have hl := ycv' (P := Tryz.prog) (f := OpS.cells) (i := i) hE yag' sn_op hlt
       have HTK := Lib.hid (show ops.take (i + 1) = ops.take i ++ [ops[i]] from List.take_succ_eq_append_getElem hlt)
       have hgo := HGD.out.2 ops[i] (List.getElem_mem hlt)
       obtain ⟨o, ho⟩ : ∃ o, ops[i] = o := ⟨_, rfl⟩
       rw [ho] at hl HTK hgo
       have hsz := yey' hgo
       have HGO := Lib.hid hsz
       have q0 : decide (i < ops.length) = true := decide_eq_true hlt
       have q9 : i ≤ 16 := by have := HGD.out.1; omega
       have HWL := Lib.hid (ygp' o (K := 100000) (by show o.path.data.toList.length ≤ _; have := hsz.1; simpa using this) (by omega))
       have HHL := Lib.hid (show ∀ e ∈ ya5' S.held id (ops.take i), e.1.length ≤ 100000 from fun e he => by have := yb9' (yc2' _ HB.out.1.held e he); omega)
       obtain ⟨H1, hH1⟩ : ∃ H1, ya5' S.held id (ops.take i) = H1 := ⟨_, rfl⟩
       rw [hH1] at HX HHL
       have HH1 := Lib.hid hH1
       obtain ⟨kind, path, data, ver, flags⟩ := o
       simp only [OpS.cells] at hl
       clear hE ho hgo hsz hH1
       go_wp2_with (first | refine u0 ?_ | (refine uS ?_; clear HX; intro w HX) | (refine uA ?_; clear HX; (first | (have hq := b3; clear hq; intro w b4 HX) | (have hq := b2; clear hq; intro w b3 HX) | (have hq := b; clear hq; intro w b2 HX) | intro w b HX)) | ((with_reducible apply yay' hl); (· rfl); (· rfl); simp only [Act.put, k_a, k_b, k_c]))
       obtain ⟨t, lk, mw, md, mc, gs, hgs, hgv, hS⟩ := ybv' HX.out.up2
       have HG := Lib.hid (show _ ∧ _ from ⟨hgs, hgv⟩)
       obtain ⟨R', hR'⟩ : ∃ R', yam' t S.t P5 :: yal' (.int .i64) mw (gs.map WaitG.kv) :: yal' (.int .i64) md (S.decided.map ikv) :: yal' (.int .i64) mc (S.closed.map ikv) :: yac' b2 (.cells #[.int .i64 n1, .int .i64 z1, .int .i64 e1, .int .i64 t1, .slice a9 n9 c9] 39 (0, 0)) :: R = R' := ⟨_, rfl⟩
       have h3 : Sep w0 w (yab' w0 P5 :: ThLk lk H1 :: yac' b (.cells (yaj' S.t.room t lk S.zxid mw md mc) 123 (0, 0)) :: yac' b3 (.cells #[.int .i64 kind, .string path, .string data, .int .i64 ver, .int .i64 flags] 89 (0, 0)) :: R') rows := by
        rw [← hR']
        exact hS.pm 9 [7, 2, 0, 6, 1, 3, 4, 5, 8] rfl rfl
       have HRR2 := Lib.hid hR'
       clear HX hl hgs hgv hS hR'
       have HX := Lib.hid h3
       clear h3
       refine rM (fun W => (∃ Ts, Sep w0 W (yac' b (.cells (yaj' S.t.room t lk S.zxid mw md mc) 123 (0, 0)) :: yac' b3 (.cells #[.int .i64 kind, .string path, .string data, .int .i64 ver, .int .i64 flags] 89 (0, 0)) :: Ts) rows)) 8 ?_
       intro KEEPX
       replace HX := Lib.hid HX.out.drew
       have hl : ∀ V, (∃ Ts, Sep w0 V (yac' b (.cells (yaj' S.t.room t lk S.zxid mw md mc) 123 (0, 0)) :: yac' b3 (.cells #[.int .i64 kind, .string path, .string data, .int .i64 ver, .int .i64 flags] 89 (0, 0)) :: Ts) rows) → (Instr.loadAt 118 (.pointer (some ⟨b, 2, none⟩))).run Tryz.prog V = .ok (.pointer (some ⟨lk, 0, none⟩)) V := by
        rintro V ⟨Ts, hV⟩
        exact yae' (by kernel_rfl) (yaa' hV.blk 2 rfl)
       have hl2 : ∀ V, (∃ Ts, Sep w0 V (yac' b (.cells (yaj' S.t.room t lk S.zxid mw md mc) 123 (0, 0)) :: yac' b3 (.cells #[.int .i64 kind, .string path, .string data, .int .i64 ver, .int .i64 flags] 89 (0, 0)) :: Ts) rows) → (Instr.loadAt 89 (.pointer (some ⟨b3, 0, none⟩))).run Tryz.prog V = .ok (.agg #[.int .i64 kind, .string path, .string data, .int .i64 ver, .int .i64 flags]) V := by
        rintro V ⟨Ts, hV⟩
        exact ya1' sn_op.1 hV.up1.blk (Nat.le_refl 5)
       refine rT [(0, false), (1, false), (2, false), (3, true), (4, false), (5, true)] 2 ?_
       apply Exists.intro; refine ⟨?_, ⟨_, HX.out.up3.up3⟩, ?_⟩
       ·iterate 6 (refine xE ?_)
        exact rfl
       clear hl hl2
       refine r1 1 6 fun K hK => ?_
       go_wp2_with fail
       refine (ygl' HX.out hd ⟨kind, path, data, ver, flags⟩ HGO.out.1 HGO.out.2.1 HGO.out.2.2).mono ?_
       rintro e w ⟨vw, rfl, hx⟩
       obtain ⟨wa, wn, wc, rfl, -⟩ := hx.rowLen
       obtain ⟨Q, hQ⟩ : ∃ Q, (1, Value.slice wa wn wc, (yaw' ⟨kind, path, data, ver, flags⟩).map sv) :: P5 = Q := ⟨_, rfl⟩
       have h9 := hx.poolRow
       rw [hQ] at h9
       have HQ := Lib.hid (show (1, Value.slice wa wn wc, (yaw' ⟨kind, path, data, ver, flags⟩).map sv) ∈ Q ∧ ∀ q ∈ P5, q ∈ Q from ⟨by rw [← hQ]; exact k_s, by rw [← hQ]; exact fun q hq => k_n _ hq⟩)
       clear HX hx hQ
       have HX := Lib.hid h9
       clear h9
       go_wp2_with fail
       refine hK _ _ ⟨_, HX.out.up3.up3⟩ ?_
       clear hK
       refine r1 0 7 fun K hK => ?_
       go_wp2_with fail
       refine (yih' HX.out hd id (yaw' ⟨kind, path, data, ver, flags⟩) _ HQ.out.1 HWL.out HHL.out (ygn' _)).mono ?_
       rintro e w ⟨rfl, hx⟩
       replace HX := Lib.hid hx
       clear hx
       go_wp2_with fail
       refine hK _ _ ⟨_, HX.out.up3.up3⟩ ?_
       clear hK
       refine yaf' (by kernel_rfl) ?_ _
       have h6 := HX.out
       rw [← HRR2.out] at h6
       have h7 := ya0' (P' := Q) h6.up4 HQ.out.2
       have h8 := ya8' (b := b) (t := t) (lk := lk) (mw := mw) (md := md) (mc := mc) (gs := gs) (S := { S with held := yc9' H1 id (yaw' ⟨kind, path, data, ver, flags⟩) }) (R := yab' w0 Q :: yac' b2 (.cells #[.int .i64 n1, .int .i64 z1, .int .i64 e1, .int .i64 t1, .slice a9 n9 c9] 39 (0, 0)) :: R) (h7.pm 9 [3, 0, 2, 5, 6, 7, 1, 8] rfl rfl) HG.out.1 (fun g hg => HQ.out.2 _ (HG.out.2 g hg))
       have HNX := Lib.hid (show ya5' S.held id (ops.take (i + 1)) = yc9' H1 id (yaw' ⟨kind, path, data, ver, flags⟩) by rw [HTK.out, ← HH1.out]; unfold ya5'; rw [List.foldl_append]; rfl)
       clear HX h6 h7
       have HX := Lib.hid h8
       clear h8
       go_wp2_with (first | refine u0 ?_ | (refine uS ?_; clear HX; intro w HX) | (refine uA ?_; clear HX; (first | (have hq := b3; clear hq; intro w b4 HX) | (have hq := b2; clear hq; intro w b3 HX) | (have hq := b; clear hq; intro w b2 HX) | intro w b HX)))
       go_roundg (ops.length - (i + 1))
       case rel => exact ⟨i + 1, Q, by omega, by go_num, fun q hq => HQ.out.2 q (HP5.out q hq), by rw [HNX.out]; exact HX.out.pm 3 [1, 0, 2] rfl rfl⟩
       case measure => omega
end
end Go.Proofs.YtcnkifbjlihaoaaGreatDoor
