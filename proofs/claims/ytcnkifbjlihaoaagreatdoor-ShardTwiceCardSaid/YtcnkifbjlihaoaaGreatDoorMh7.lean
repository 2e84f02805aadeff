/-
  Texts of this claim, laid together.
-/
import Derived.Test.YtcnkifbjlihaoaaGreatDoorMh6
import Derived.Deep.OwnRows
import Derived.Laws.OwnMore
import Derived.Deep.DeepCutAuto
set_option linter.unusedVariables false
set_option linter.unusedSimpArgs false

namespace Go.Proofs.YtcnkifbjlihaoaaGreatDoor
open Go.RowKit Go.Av
def EntG.upd (g : EntG) (x : EntS) : EntG := { g with x := x }
section
variable {w0 w : World} {c m : Nat} {S : CoS} {l1 l2 : List EntG} {g : EntG} {R : List Thing} {rows : List (Value × Bs)}
theorem yuo' {x : EntS} (hwf : ∀ e ∈ (l1 ++ g :: l2).map EntG.ent, okE e) (hx : x.wf) : ∀ e ∈ (l1 ++ g.upd x :: l2).map EntG.ent, okE e := by
 intro e he
 have hg := (hwf g.ent (by simp)).2
 simp only [List.map_append, List.map_cons, List.mem_append, List.mem_cons] at he hwf
 rcases he with he | rfl | he
 ·exact hwf e (.inl he)
 ·exact ⟨hx, hg⟩
 ·exact hwf e (.inr (.inr he))
theorem CoF.wf (h : CoF w0 w c m l1 g l2 R rows) : g.x.wf := (h.1 g.ent (by simp)).1
theorem CoF.setDec (h : CoF w0 w c m l1 g l2 R rows) (v : Int) : CoF w0 (w.setCell ⟨g.p, 2, none⟩ (.int .i64 v)) c m l1 (g.upd { g.x with dec := v }) l2 R rows := by
 have hw := h.wf
 have := h.2.set 2 (.int .i64 v)
 refine ⟨yuo' h.1 hw, ?_⟩
 simp only [List.map_append, List.map_cons] at this ⊢
 exact this
theorem CoF.setVote (h : CoF w0 w c m l1 g l2 R rows) {i : Nat} (hi : i < g.x.votes.length) :
  ∃ y n c', g.vv = .slice (some y) n c' ∧ n = g.x.votes.length ∧ n ≤ c' ∧ c' ≤ 2 ^ 63 - 1 ∧ y.spot = none ∧ w.cell? (y.add i) = some (.int .i64 g.x.votes[i]) ∧ w.frozen? (y.add i) = false ∧
   ∀ v, CoF w0 (w.setCell (y.add i) (.int .i64 v)) c m l1 (g.upd { g.x with votes := g.x.votes.set i v }) l2 R rows := by
 have hw := h.wf
 obtain ⟨hwf, hS⟩ := h
 have h2 := hS.perm (List.perm_middle (l₁ := [_, _]))
 obtain ⟨id, p, vs, vv, vo, x⟩ := g
 obtain ⟨a, n, c', hv, hl, hn, hc⟩ := h2.rowLen
 simp only at hv
 subst hv
 rw [List.length_map, Nat.mul_one] at hl
 have hl' : x.votes.length = n := hl
 have hi' : i < x.votes.length := hi
 have hin : i < n := by omega
 obtain ⟨y, rfl, hsp, hcell⟩ := h2.rowCell (i := i) (x := iv x.votes[i]) (by rw [List.getElem?_map, List.getElem?_eq_getElem hi]; rfl)
 refine ⟨y, n, c', rfl, hl.symm, hn, hc, hsp, hcell, (h2.rowSet (i := i) hin (iv 0)).1, fun v => ⟨yuo' hwf ⟨by simpa using hw.1, hw.2⟩, ?_⟩⟩
 obtain ⟨-, -, -, h5⟩ := h2.rowSet (i := i) hin (iv v)
 rw [show (x.votes.map iv).set i (iv v) = (x.votes.set i v).map iv by rw [List.map_set]] at h5
 have h6 := h5.perm (List.perm_middle (l₁ := [_, _])).symm
 simp only [List.map_append, List.map_cons] at h6 ⊢
 exact h6
theorem CoF.setOwes (h : CoF w0 w c m l1 g l2 R rows) (q : Int → Bool) :
  ∃ R', Sep w0 w (yaf' 1 g.vo (g.x.owes.map iv) :: R') rows ∧ yac' g.p (.cells #[g.vs, g.vv, .int .i64 g.x.dec, g.vo] 220 (0, 0)) ∈ R' ∧ (∀ T ∈ R, T ∈ R') ∧
   ∀ (w' : World) v, Sep w0 w' (yaf' 1 v ((g.x.owes.filter q).map iv) :: R') rows → w'.heap[g.p]? = some (.cells #[g.vs, g.vv, .int .i64 g.x.dec, g.vo] 220 (0, 0)) ∧
    CoF w0 (w'.setCell ⟨g.p, 3, none⟩ v) c m l1 ({ g with vo := v, x := { g.x with owes := g.x.owes.filter q } }) l2 R rows := by
 have hw := h.wf
 obtain ⟨hwf, hS⟩ := h
 have h2 := hS.perm (List.perm_middle (l₁ := [_, _, _]))
 refine ⟨_, h2, by simp, fun T hT => by simp [hT], fun w' v h3 => ?_⟩
 have h4 := h3.perm (List.perm_middle (l₁ := [_, _, _])).symm
 have hg := (hwf g.ent (by simp)).2
 refine ⟨h4.blk, fun e he => ?_, ?_⟩
 ·simp only [List.map_append, List.map_cons, List.mem_append, List.mem_cons] at he hwf
  rcases he with he | rfl | he
  ·exact hwf e (.inl he)
  ·exact ⟨⟨hw.1, hw.2.1, Nat.le_trans (List.length_filter_le _ _) hw.2.2⟩, hg⟩
  ·exact hwf e (.inr (.inr he))
 ·have h5 := h4.set 3 v
  simp only [List.map_append, List.map_cons] at h5 ⊢
  exact h5
def putS (id : Int) (φ : EntS → EntS) (S : CoS) : CoS := S.map fun e => if e.1 = id then (e.1, φ e.2) else e
theorem yzk' {id : Int} {S1 S2 : CoS} {x : EntS} (φ : EntS → EntS) (h1 : ∀ e ∈ S1, e.1 ≠ id) (h2 : ∀ e ∈ S2, e.1 ≠ id) : putS id φ (S1 ++ (id, x) :: S2) = S1 ++ (id, φ x) :: S2 := by
 unfold putS
 rw [List.map_append, List.map_cons]
 congr 1
 ·rw [List.map_congr_left (g := _root_.id) (fun e he => by simp [h1 e he]), List.map_id]
 ·rw [if_pos rfl, List.map_congr_left (g := _root_.id) (fun e he => by simp [h2 e he]), List.map_id]
theorem CoF.once (h : CoF w0 w c m l1 g l2 R rows) : (∀ e ∈ l1.map EntG.ent, e.1 ≠ g.id) ∧ ∀ e ∈ l2.map EntG.ent, e.1 ≠ g.id := by
 obtain ⟨E, hM, -⟩ := h.2.has (T := yam' (.int .i64) m ((l1 ++ g :: l2).map EntG.kv)) (by simp [ycg'])
 have hn := hM.nodup
 rw [List.map_map, List.map_append, List.map_cons, List.nodup_append, List.nodup_cons] at hn
 obtain ⟨-, ⟨h3, -⟩, h5⟩ := hn
 refine ⟨fun e he heq => ?_, fun e he heq => ?_⟩
 ·obtain ⟨q, hq, rfl⟩ := List.mem_map.1 he
  refine h5 _ (List.mem_map_of_mem hq) _ k_s ?_
  simp only [Function.comp, EntG.kv]
  rw [show q.id = g.id from heq]
 ·obtain ⟨q, hq, rfl⟩ := List.mem_map.1 he
  refine h3 ?_
  have : q.id = g.id := heq
  simp only [Function.comp, EntG.kv, List.mem_map]
  exact ⟨q, hq, by rw [this]⟩
theorem CoF.put (h : CoF w0 w c m l1 g l2 R rows) {x : EntS} (φ : EntS → EntS) (hx : φ g.x = x) : (l1 ++ g.upd x :: l2).map EntG.ent = putS g.id φ ((l1 ++ g :: l2).map EntG.ent) := by
 obtain ⟨h1, h2⟩ := h.once
 rw [List.map_append, List.map_cons, List.map_append, List.map_cons, show g.ent = (g.id, g.x) from rfl, yzk' φ h1 h2, hx]
 rfl
def ye1' (x : EntS) : EntS := if x.dec = 0 then { x with dec := 2 } else x
def yfz' (S : CoS) (id : Int) : Bool × Int × CoS := match yec' id S with | none => (false, 4, S) | some x => ((ye1' x).dec == 1, 0, putS id ye1' S)
set_option maxRecDepth 100000 in
set_option maxHeartbeats 400000 in
theorem yru' (h : Co w0 w c S R rows) (id : Int) :
  Calls Tryz.prog 205 #[.pointer (some ⟨c, 0, none⟩), .int .i64 id] w fun e w' => e = .returned (.tuple #[.bool (yfz' S id).1, .int .i64 (yfz' S id).2.1]) ∧ Co w0 w' c (yfz' S id).2.2 R rows := by
 unfold yfz'
 cases hx : yec' id S with
 | none =>
  obtain ⟨m, hc, hl⟩ := h.absent hx
  have hl := hl w rfl
  have H := Lib.hid h
  clear h hx
  go_enter Tryz.func205, Tryz.ntmps205
  go_wp2_with fail
  go_ret2
  exact ⟨rfl, H.out⟩
 | some x =>
  obtain ⟨m, l1, g, l2, rfl, rfl, hF, -, hSS⟩ := h.take hx
  obtain ⟨hc, hl, hp⟩ := hF.facts
  have hl := hl w rfl
  have c2 := yaa' hp 2 rfl
  have y2 := yad' hp 2
  show Calls _ _ _ _ (fun e w' => e = .returned (.tuple #[.bool ((ye1' g.x).dec == 1), .int .i64 0]) ∧ Co w0 w' c (putS g.id ye1' S) R rows)
  by_cases hd : g.x.dec = 0
  ·have hS2 := (hF.setDec 2).back
   rw [hF.put ye1' (by unfold ye1'; rw [if_pos hd]), ← hSS] at hS2
   have H := Lib.hid hS2
   have e1 : ((ye1' g.x).dec == 1) = false := by unfold ye1'; rw [if_pos hd]; rfl
   rw [e1]
   rw [show (#[g.vs, g.vv, Value.int .i64 g.x.dec, g.vo] : Array Value)[2] = .int .i64 0 by simp [hd]] at c2
   clear h hx hF hSS hp hS2 hd e1
   go_enter Tryz.func205, Tryz.ntmps205
   go_wp2_with fail
   go_ret2
   exact ⟨rfl, H.out⟩
  ·have hS2 := hF.back
   have hput := hF.put (x := g.x) ye1' (by unfold ye1'; rw [if_neg hd])
   rw [show g.upd g.x = g from rfl, ← hSS] at hput
   rw [← hSS] at hS2
   rw [← hput]
   have H := Lib.hid hS2
   have e1 : ((ye1' g.x).dec == 1) = (g.x.dec == 1) := by unfold ye1'; rw [if_neg hd]
   rw [e1]
   have hd' : (g.x.dec == 0) = false := by simp [hd]
   clear h hx hF hSS hp hS2 hd e1 hput
   go_enter Tryz.func205, Tryz.ntmps205
   go_wp2_with fail
   go_ret2
   exact ⟨rfl, H.out⟩
end
end Go.Proofs.YtcnkifbjlihaoaaGreatDoor

namespace Go.Proofs.YtcnkifbjlihaoaaGreatDoor
open Go.RowKit Go.Av
theorem yvt' (q : Int → Bool) (l : List Int) : decide (0 ≤ idxQ q l) = l.any q := by
 unfold idxQ
 cases h : yhk' q l with
 | none =>
  have := yhl' h
  symm
  rw [show (l.any q) = false from List.any_eq_false.2 fun x hx => by rw [this x hx]; simp]
  rfl
 | some i =>
  obtain ⟨h1, h2⟩ := yhm' h
  have : l.any q = true := by
   cases hb : l.any q with
   | true => rfl
   | false =>
    have hf : (l.take (i + 1)).filter (fun x => !q x) = l.take (i + 1) := List.filter_eq_self.2 fun x hx => by
     have := List.any_eq_false.1 hb x (List.mem_of_mem_take hx)
     simpa using this
    rw [hf] at h2
    have := congrArg List.length h2
    simp at this
    omega
  rw [this]
  simp
theorem ysk' {k : Int} : ∀ {l : List Int} {i : Nat}, idxF k l = some i → i < l.length
 | [], i, h => by cases h
 | x :: r, i, h => by
  rw [ymg'] at h
  by_cases hx : x = k
  ·rw [if_pos hx] at h; cases h; simp
  ·rw [if_neg hx] at h
   cases hr : idxF k r with
   | none => rw [hr] at h; cases h
   | some j =>
    rw [hr] at h
    cases h
    have := ysk' hr
    simp; omega
theorem yrj' (x : Int) (w : World) : Calls Tryz.prog 280 #[.int .i64 x] w fun e w' => e = .returned (.bool (x != 1)) ∧ w' = w := by
 obtain ⟨b, hb⟩ : ∃ b, (x != 1) = b := ⟨_, rfl⟩
 rw [hb]
 go_enter Tryz.func280, Tryz.ntmps280
 go_wp2_with fail
 go_ret
 exact ⟨rfl, rfl⟩
section
variable {w0 w : World} {c m : Nat} {S : CoS} {l1 l2 : List EntG} {g : EntG} {R : List Thing} {rows : List (Value × Bs)}
theorem yk3' (v : Value) (l : List Int) (E : List Nat) (w : World) (h : ReadRow w 1 v (l.map iv) E) :
  Calls Tryz.prog 279 #[v, .func (.func 280) #[] #[]] w fun e w' => e = .returned (.bool (l.any fun x => x != 1)) ∧ w' = w := by
 have hi := yiy' v l (fun x => x != 1) E w h (fun x => yrj' x w)
 obtain ⟨k, hk⟩ : ∃ k, idxQ (fun x => x != 1) l = k := ⟨_, rfl⟩
 have ha := yvt' (fun x => x != 1) l
 rw [hk] at hi ha
 rw [← ha]
 have HI := Lib.hid hi
 clear hi hk ha h
 go_enter Tryz.func279, Tryz.ntmps279
 go_wp2_with fail
 refine HI.out.mono ?_
 rintro e w1 ⟨rfl, rfl⟩
 go_wp2_with fail
 go_ret
 exact ⟨rfl, rfl⟩
def yjm' (l : List Int) : Bool := l.all fun x => x == 1
theorem yup' (h : CoF w0 w c m l1 g l2 R rows) :
  Calls Tryz.prog 245 #[.pointer (some ⟨g.p, 0, none⟩)] w fun e w' => e = .returned (.bool (yjm' g.x.votes)) ∧ w' = w := by
 obtain ⟨hc, hl, hp⟩ := h.facts
 have c1 := yaa' hp 1 rfl
 obtain ⟨E, hE⟩ := (h.2.perm (List.perm_middle (l₁ := [_, _]))).readRow
 have hw := yk3' _ _ E w hE
 have he : yjm' g.x.votes = !(g.x.votes.any fun x => x != 1) := by
  unfold yjm'
  rw [List.all_eq_not_any_not]
  rfl
 obtain ⟨b, hb⟩ : ∃ b, (g.x.votes.any fun x => x != 1) = b := ⟨_, rfl⟩
 rw [he, hb]
 rw [hb] at hw
 have HW := Lib.hid hw
 clear h hl hp hE hw he hb
 go_enter Tryz.func245, Tryz.ntmps245
 go_wp2_with fail
 refine HW.out.mono ?_
 rintro e w1 ⟨rfl, rfl⟩
 go_wp2_with fail
 go_ret
 exact ⟨rfl, rfl⟩
def yha' (i : Nat) (ok : Bool) (x : EntS) : EntS :=
 if x.votes.getD i 0 ≠ 0 ∨ x.dec ≠ 0 then x else
  { x with votes := x.votes.set i (if ok then 1 else 2), dec := if ok then (if yjm' (x.votes.set i 1) then 1 else 0) else 2 }
def yno' (S : CoS) (id k : Int) (ok : Bool) : Int × CoS := match yec' id S with
 | none => (4, S)
 | some x => match idxF k x.shards with | none => (4, S) | some i => (0, putS id (yha' i ok) S)
set_option maxRecDepth 100000 in
set_option maxHeartbeats 1000000 in
theorem yw7' (h : Co w0 w c S R rows) (id k : Int) (ok : Bool) :
  Calls Tryz.prog 203 #[.pointer (some ⟨c, 0, none⟩), .int .i64 id, .int .i64 k, .bool ok] w fun e w' => e = .returned (.int .i64 (yno' S id k ok).1) ∧ Co w0 w' c (yno' S id k ok).2 R rows := by
 unfold yno'
 cases hx : yec' id S with
 | none =>
  have hf := ysb' h id k hx
  have H := Lib.hid h
  have HF := Lib.hid hf
  clear h hx hf
  go_enter Tryz.func203, Tryz.ntmps203
  go_wp2_with fail
  refine HF.out.mono ?_
  rintro e w1 ⟨rfl, rfl⟩
  go_wp2_with fail
  go_ret
  exact ⟨rfl, H.out⟩
 | some x =>
  obtain ⟨m, l1, g, l2, rfl, rfl, hF, -, hSS⟩ := h.take hx
  have hf := ypb' hF k
  unfold idxS at hf
  dsimp only
  cases hi : idxF k g.x.shards with
  | none =>
   rw [hi] at hf
   have H := Lib.hid h
   have HF := Lib.hid hf
   clear h hx hf hF hSS hi
   go_enter Tryz.func203, Tryz.ntmps203
   go_wp2_with fail
   refine HF.out.mono ?_
   rintro e w1 ⟨rfl, rfl⟩
   go_wp2_with fail
   go_ret
   exact ⟨rfl, H.out⟩
  | some i =>
   rw [hi] at hf
   simp only at hf
   have hiv : i < g.x.votes.length := by rw [hF.wf.1]; exact ysk' hi
   have hi4 : g.x.votes.length ≤ 4 := by rw [hF.wf.1]; exact hF.wf.2.1
   obtain ⟨hc, hl, hp⟩ := hF.facts
   have c1 := yaa' hp 1 rfl
   have c2 := yaa' hp 2 rfl
   obtain ⟨y, n, c', hvv, hn, hnc, hcm, hsp, hcell, hfr, hset⟩ := hF.setVote hiv
   have hgd : g.x.votes.getD i 0 = g.x.votes[i] := by rw [List.getD_eq_getElem?_getD, List.getElem?_eq_getElem hiv]; rfl
   have hin : i < n := by omega
   have hSB := hF.back
   rw [← hSS] at hSB
   have c1' : w.cell? ⟨g.p, 1, none⟩ = some (.slice (some y) n c') := by rw [c1, ← hvv]; rfl
   show Calls _ _ _ _ (fun e w' => e = .returned (.int .i64 0) ∧ Co w0 w' c (putS g.id (yha' i ok) S) R rows)
   by_cases hu : g.x.votes[i] = 0
   case neg =>
    have hput := hF.put (x := g.x) (yha' i ok) (by unfold yha'; rw [if_pos (.inl (by rw [hgd]; exact hu))])
    rw [show g.upd g.x = g from rfl, ← hSS] at hput
    rw [← hput]
    obtain ⟨u, huu⟩ : ∃ u, g.x.votes[i] = u := ⟨_, rfl⟩
    rw [huu] at hcell hu
    have hb : (u != 0) = true := by simp [hu]
    have H := Lib.hid hSB
    have HF := Lib.hid hf
    clear h hx hf hF hSS hi hgd hset hput hSB hvv hp c1 hu huu hl
    go_enter Tryz.func203, Tryz.ntmps203
    go_wp2_with fail
    refine HF.out.mono ?_
    rintro e w1 ⟨rfl, rfl⟩
    go_wp2_with fail
    go_ret
    exact ⟨rfl, H.out⟩
   rw [hu] at hcell
   by_cases hd : g.x.dec = 0
   case neg =>
    have hput := hF.put (x := g.x) (yha' i ok) (by unfold yha'; rw [if_pos (.inr hd)])
    rw [show g.upd g.x = g from rfl, ← hSS] at hput
    rw [← hput]
    have hb : (g.x.dec != 0) = true := by simp [hd]
    have H := Lib.hid hSB
    have HF := Lib.hid hf
    clear h hx hf hF hSS hi hgd hset hput hSB hvv hp c1 hd hu hl
    go_enter Tryz.func203, Tryz.ntmps203
    go_wp2_with fail
    refine HF.out.mono ?_
    rintro e w1 ⟨rfl, rfl⟩
    go_wp2_with fail
    go_ret
    exact ⟨rfl, H.out⟩
   have hvF : yha' i ok g.x = { g.x with votes := g.x.votes.set i (if ok then 1 else 2), dec := if ok then (if yjm' (g.x.votes.set i 1) then 1 else 0) else 2 } := by
    unfold yha'
    rw [if_neg (by rw [hgd]; simp [hu, hd])]
   have c2' : w.cell? ⟨g.p, 2, none⟩ = some (.int .i64 0) := by rw [c2]; simp [hd]
   have F1 := hset 2
   obtain ⟨hc1, -, hp1⟩ := F1.facts
   have c11 : (w.setCell (y.add i) (.int .i64 2)).cell? ⟨g.p, 1, none⟩ = some (.slice (some y) n c') := (yaa' hp1 1 rfl).trans (by rw [← hvv]; rfl)
   have y12 : (w.setCell (y.add i) (.int .i64 2)).frozen? ⟨g.p, 2, none⟩ = false := yad' hp1 2
   have c12 : (w.setCell (y.add i) (.int .i64 2)).cell? ⟨g.p, 2, none⟩ = some (.int .i64 g.x.dec) := yaa' hp1 2 rfl
   cases ok with
   | false =>
    have F2 := (F1.setDec 2).back
    have hput := hF.put (x := { g.x with votes := g.x.votes.set i 2, dec := 2 }) (yha' i false) (by rw [hvF]; rfl)
    rw [← hSS] at hput
    have H := Lib.hid (show Co w0 _ c (putS g.id (yha' i false) S) R rows by rw [← hput]; exact F2)
    have HF := Lib.hid hf
    clear h hx hf hF hSS hi hgd hset hput hSB hvv hp c1 hd hu hl F1 F2 hvF c2 hp1
    go_enter Tryz.func203, Tryz.ntmps203
    go_wp2_with fail
    refine HF.out.mono ?_
    rintro e w1 ⟨rfl, rfl⟩
    go_wp2_with fail
    go_ret
    exact ⟨rfl, H.out⟩
   | true =>
    obtain ⟨y2, n2, c2'', hvv2, hn2, -, -, -, hcell2, hfr2, hset2⟩ := F1.setVote (i := i) (by simpa [EntG.upd] using hiv)
    rw [show (g.upd { g.x with votes := g.x.votes.set i 2 }).vv = g.vv from rfl, hvv] at hvv2
    cases hvv2
    have F2 := hset2 1
    obtain ⟨-, -, hp2⟩ := F2.facts
    have c22 : ((w.setCell (y.add i) (.int .i64 2)).setCell (y.add i) (.int .i64 1)).cell? ⟨g.p, 2, none⟩ = some (.int .i64 g.x.dec) := yaa' hp2 2 rfl
    have y22 : ((w.setCell (y.add i) (.int .i64 2)).setCell (y.add i) (.int .i64 1)).frozen? ⟨g.p, 2, none⟩ = false := yad' hp2 2
    have hss : (((g.upd { g.x with votes := g.x.votes.set i 2 }).x.votes).set i 1) = g.x.votes.set i 1 := by simp [EntG.upd, List.set_set]
    have hwh : Calls Tryz.prog 245 #[.pointer (some ⟨g.p, 0, none⟩)] ((w.setCell (y.add i) (.int .i64 2)).setCell (y.add i) (.int .i64 1)) fun e w' => e = .returned (.bool (yjm' (g.x.votes.set i 1))) ∧ w' = ((w.setCell (y.add i) (.int .i64 2)).setCell (y.add i) (.int .i64 1)) := by
     have := yup' F2
     rw [show ((g.upd { g.x with votes := g.x.votes.set i 2 }).upd { (g.upd { g.x with votes := g.x.votes.set i 2 }).x with votes := (g.upd { g.x with votes := g.x.votes.set i 2 }).x.votes.set i 1 }).x.votes = g.x.votes.set i 1 from hss] at this
     exact this
    cases hww : yjm' (g.x.votes.set i 1) with
    | true =>
     rw [hww] at hwh
     have F3 := (F2.setDec 1).back
     have hput := hF.put (x := { g.x with votes := g.x.votes.set i 1, dec := 1 }) (yha' i true) (by rw [hvF, hww]; rfl)
     rw [← hSS] at hput
     have H := Lib.hid (show Co w0 _ c (putS g.id (yha' i true) S) R rows by rw [← hput]; simpa [EntG.upd, EntG.ent, List.set_set] using F3)
     have HF := Lib.hid hf
     have HW := Lib.hid hwh
     clear h hx hf hF hSS hi hgd hset hput hSB hvv hp c1 hd hu hl F1 F2 F3 hvF c2 hp1 hp2 hset2 hss hwh hww hn2
     go_enter Tryz.func203, Tryz.ntmps203
     go_wp2_with fail
     refine HF.out.mono ?_
     rintro e w1 ⟨rfl, rfl⟩
     go_wp2_with fail
     refine HW.out.mono ?_
     rintro e w1 ⟨rfl, rfl⟩
     go_wp2_with fail
     go_ret
     exact ⟨rfl, H.out⟩
    | false =>
     rw [hww] at hwh
     have F3 := F2.back
     have hput := hF.put (x := { g.x with votes := g.x.votes.set i 1, dec := 0 }) (yha' i true) (by rw [hvF, hww]; rfl)
     rw [← hSS] at hput
     have H := Lib.hid (show Co w0 _ c (putS g.id (yha' i true) S) R rows by rw [← hput]; simpa [EntG.upd, EntG.ent, List.set_set, hd] using F3)
     have HF := Lib.hid hf
     have HW := Lib.hid hwh
     clear h hx hf hF hSS hi hgd hset hput hSB hvv hp c1 hd hu hl F1 F2 F3 hvF c2 hp1 hp2 hset2 hss hwh hww hn2
     go_enter Tryz.func203, Tryz.ntmps203
     go_wp2_with fail
     refine HF.out.mono ?_
     rintro e w1 ⟨rfl, rfl⟩
     go_wp2_with fail
     refine HW.out.mono ?_
     rintro e w1 ⟨rfl, rfl⟩
     go_wp2_with fail
     go_ret
     exact ⟨rfl, H.out⟩
end
end Go.Proofs.YtcnkifbjlihaoaaGreatDoor

namespace Go.Proofs.YtcnkifbjlihaoaaGreatDoor
open Go.RowKit Go.Av
section
variable {w0 w : World} {c m : Nat} {S : CoS} {l1 l2 : List EntG} {g : EntG} {R : List Thing} {T : Thing} {rows : List (Value × Bs)}
theorem yfb' (A B R : List Thing) (T : Thing) : (T :: (A ++ (B ++ R))).Perm (A ++ (B ++ T :: R)) := by
 have := (List.perm_middle (a := T) (l₁ := A ++ B) (l₂ := R)).symm
 simpa [List.append_assoc] using this
theorem Co.newCell (h : Co w0 w c S R rows) (o : Obj) : Co w0 (w.alloc o) c S (yac' w.heap.size o :: R) rows := by
 obtain ⟨m, gs, h1, h2, hS⟩ := h
 exact ⟨m, gs, h1, h2, (hS.newCell o).perm (yfb' _ _ _ _)⟩
theorem Co.addR (h : Co w0 w c S R rows) {w' : World} {D' : List Nat} (hu : Upd w w' [] D') (hT : T.P w' D') : Co w0 w' c S (T :: R) rows := by
 obtain ⟨m, gs, h1, h2, hS⟩ := h
 exact ⟨m, gs, h1, h2, (hS.add hu hT).perm (yfb' _ _ _ _)⟩
theorem Co.dropR (h : Co w0 w c S (T :: R) rows) : Co w0 w c S R rows := by
 obtain ⟨m, gs, h1, h2, hS⟩ := h
 exact ⟨m, gs, h1, h2, (hS.perm (yfb' _ _ _ _).symm).drop⟩
def yn4' (k : Int) (x : EntS) : EntS := { x with owes := x.owes.filter fun y => !decide (y = k) }
def yma' (S : CoS) (id k : Int) : Int × CoS := match yec' id S with
 | none => (4, S)
 | some x => match idxF k x.shards with | none => (4, S) | some _ => if x.dec = 0 then (15, S) else (0, putS id (yn4' k) S)
set_option maxRecDepth 100000 in
set_option maxHeartbeats 1000000 in
theorem yvg' (h : Co w0 w c S R rows) (id k : Int) :
  Calls Tryz.prog 204 #[.pointer (some ⟨c, 0, none⟩), .int .i64 id, .int .i64 k] w fun e w' => e = .returned (.int .i64 (yma' S id k).1) ∧ Co w0 w' c (yma' S id k).2 R rows := by
 have h0 := h.newCell (.cells #[.int .i64 k] 3 (0, 0))
 have hq0 : w.heap.size < (w.alloc (.cells #[.int .i64 k] 3 (0, 0))).heap.size := by simp
 obtain ⟨q, hq⟩ : ∃ q, q = w.heap.size := ⟨_, rfl⟩
 have hqc : (w.alloc (.cells #[.int .i64 k] 3 (0, 0))).cell? ⟨w.heap.size, 0, none⟩ = some (.int .i64 k) := yaa' (heap_alloc_new w _) 0 rfl
 obtain ⟨w1, hw1⟩ : ∃ w1, w1 = w.alloc (.cells #[.int .i64 k] 3 (0, 0)) := ⟨_, rfl⟩
 unfold yma'
 cases hx : yec' id S with
 | none =>
  have hf := ysb' h0 id k hx
  have H := Lib.hid h0
  have HF := Lib.hid hf
  clear h h0 hx hf hq hw1 hq0
  go_enter Tryz.func204, Tryz.ntmps204
  go_wp2_with fail
  refine HF.out.mono ?_
  rintro e w2 ⟨rfl, rfl⟩
  go_wp2_with fail
  go_ret
  exact ⟨rfl, H.out.dropR⟩
 | some x =>
  obtain ⟨m, l1, g, l2, rfl, rfl, hF, -, hSS⟩ := h0.take hx
  have hf := ypb' hF k
  unfold idxS at hf
  dsimp only
  cases hi : idxF k g.x.shards with
  | none =>
   rw [hi] at hf
   have H := Lib.hid h0
   have HF := Lib.hid hf
   clear h h0 hx hf hF hSS hi hq hw1 hq0
   go_enter Tryz.func204, Tryz.ntmps204
   go_wp2_with fail
   refine HF.out.mono ?_
   rintro e w2 ⟨rfl, rfl⟩
   go_wp2_with fail
   go_ret
   exact ⟨rfl, H.out.dropR⟩
  | some i =>
   rw [hi] at hf
   simp only at hf
   obtain ⟨hc, hl, hp⟩ := hF.facts
   have c2 := yaa' hp 2 rfl
   have c3 := yaa' hp 3 rfl
   show Calls _ _ _ _ (fun e w' => e = .returned (.int .i64 (if g.x.dec = 0 then (15, S) else (0, putS g.id (yn4' k) S)).1) ∧ Co w0 w' c (if g.x.dec = 0 then (15, S) else (0, putS g.id (yn4' k) S)).2 R rows)
   by_cases hd : g.x.dec = 0
   ·rw [if_pos hd]
    have c2' : (w.alloc (.cells #[.int .i64 k] 3 (0, 0))).cell? ⟨g.p, 2, none⟩ = some (.int .i64 0) := by rw [c2]; simp [hd]
    have H := Lib.hid h0
    have HF := Lib.hid hf
    clear h h0 hx hf hF hSS hi hq hw1 hq0 c2 c3 hp hl hd
    go_enter Tryz.func204, Tryz.ntmps204
    go_wp2_with fail
    refine HF.out.mono ?_
    rintro e w2 ⟨rfl, rfl⟩
    go_wp2_with fail
    go_ret
    exact ⟨rfl, H.out.dropR⟩
   ·rw [if_neg hd]
    have hd' : (g.x.dec == 0) = false := by simp [hd]
    have hput := hF.put (x := yn4' k g.x) (yn4' k) rfl
    rw [← hSS] at hput
    obtain ⟨R', hrow, hin, hall, hback⟩ := hF.setOwes (fun y => !decide (y = k))
    have hqR : yac' w.heap.size (.cells #[.int .i64 k] 3 (0, 0)) ∈ R' := hall _ k_s
    have hdel := yjp' _ g.x.owes k w.heap.size 3 hrow hqR
    have HF := Lib.hid hf
    have HD := Lib.hid hdel
    have HB := Lib.hid hback
    have HP := Lib.hid hput
    have hmf : ∀ (fn : Fn) (first cap : Array Value) (w : World), (Instr.makeFunc fn first cap).run Tryz.prog w = .ok (.func fn first cap) w := fun _ _ _ _ => rfl
    clear h h0 hx hf hF hSS hi hq hw1 hq0 hp hl hd hput hrow hin hall hback hqR hdel
    go_enter Tryz.func204, Tryz.ntmps204
    go_wp2_with fail
    refine HF.out.mono ?_
    rintro e w2 ⟨rfl, rfl⟩
    go_wp2_with fail
    refine HD.out.mono ?_
    rintro e w3 ⟨v3, rfl, h3⟩
    obtain ⟨a3, n3, cc3, rfl, -⟩ := h3.rowLen
    obtain ⟨hp3, hF3⟩ := HB.out w3 _ h3
    have y3 := yad' hp3 3
    have c3 := yaa' hp3 3 rfl
    have H3 := Lib.hid hF3
    clear h3 hp3 hF3
    go_wp2_with fail
    go_ret
    refine ⟨rfl, ?_⟩
    have := H3.out.back
    rw [show (l1 ++ ({ g with vo := .slice a3 n3 cc3, x := { g.x with owes := g.x.owes.filter fun y => !decide (y = k) } } : EntG) :: l2).map EntG.ent = (l1 ++ g.upd (yn4' k g.x) :: l2).map EntG.ent by simp [EntG.ent, EntG.upd, yn4'], HP.out] at this
    exact this.dropR
end
end Go.Proofs.YtcnkifbjlihaoaaGreatDoor

namespace Go.Proofs.YtcnkifbjlihaoaaGreatDoor
open Go.RowKit Go.Av
theorem ypx' : ∀ (l : List Int) (last : Int), -1 ≤ last → risF last l = true → (l.length : Int) ≤ max 0 (3 - last)
 | [], last, h, _ => by simp; omega
 | x :: r, last, h, hr => by
  rw [ym6'] at hr
  simp only [Bool.and_eq_true, Bool.not_eq_true', Bool.or_eq_false_iff, decide_eq_false_iff_not] at hr
  have := ypx' r x (by omega) hr.2
  simp only [List.length_cons]
  omega
theorem ywl' {l : List Int} (h : risS l = true) : l.length ≤ 4 := by
 have := ypx' l (-1) (Int.le_refl _) h
 omega
theorem yjo' (w : World) (z : Nat) (hz : z ≤ 30000) : OwnRow (w.alloc (.cells (madeCells #[.int .i64 0] z) 3)) 1 (.slice (some ⟨w.heap.size, 0, none⟩) z z) ((List.replicate z (0 : Int)).map iv) [w.heap.size] :=
 OwnRow.made w 3 1 z z (madeCells #[.int .i64 0] z) _ (by simp) (Nat.le_refl _) (by unfold maxLen; omega) (by rw [size_madeCells]; omega) (by
  rw [toList_madeCells_one, Nat.mul_one, List.take_of_length_le (by simp), List.map_replicate]
  rfl)
section
variable {w0 w : World} {c m : Nat} {S : CoS} {l1 l2 : List EntG} {g : EntG} {R : List Thing} {T : Thing} {rows : List (Value × Bs)}
theorem Co.permR (h : Co w0 w c S R rows) {R' : List Thing} (hp : R.Perm R') : Co w0 w c S R' rows := by
 obtain ⟨m, gs, h1, h2, hS⟩ := h
 exact ⟨m, gs, h1, h2, hS.perm (List.Perm.append_left _ (List.Perm.append_left _ hp))⟩
theorem Co.begun {p : Nat} {vs vv vo : Value} {x : EntS} (h : Co w0 w c S (yac' p (.cells #[vs, vv, .int .i64 x.dec, vo] 220 (0, 0)) :: yaf' 1 vs (x.shards.map iv) :: yaf' 1 vv (x.votes.map iv) :: yaf' 1 vo (x.owes.map iv) :: R) rows)
  {id : Int} (hn : yec' id S = none) (hx : x.wf) (hi1 : 1 ≤ id) (hi2 : id ≤ 9223372036854775807) : ∃ m w', w.cell? ⟨c, 0, none⟩ = some (.map (some m)) ∧
   (Instr.mapUpdate 214 (.map (some m)) (.int .i64 id) (.pointer (some ⟨p, 0, none⟩))).run Tryz.prog w = .ok () w' ∧ w'.cell? ⟨c, 0, none⟩ = some (.map (some m)) ∧ Co w0 w' c (S ++ [(id, x)]) R rows := by
 obtain ⟨m, gs, rfl, hwf, hS⟩ := h
 have hno := ye6' hn
 have hc := hS.block (b := c) (o := .cells #[.map (some m)] 216 (0, 0)) (by simp [ycg'])
 have h2 := hS.perm (List.perm_middle (l₁ := [_]))
 obtain ⟨w', hrun, hM, hU⟩ := ys3' (P := Tryz.prog) h2.mapIs Tryz.underlying214 Tryz.underlying2 (key := .int .i64 id) (v := .pointer (some ⟨p, 0, none⟩)) (show MapKept.IsKey (.int .i64) (.int .i64 id) from rfl) (fun q hq e => by
  obtain ⟨g, hg, rfl⟩ := List.mem_map.1 hq
  unfold EntG.kv at e
  simp only [Value.int.injEq, true_and] at e
  exact hno (g.ent) (List.mem_map_of_mem hg) e)
 have h3 := (h2.mapTo hU hM).perm (List.perm_middle (l₁ := [_])).symm
 have hc' := h3.block (b := c) (o := .cells #[.map (some m)] 216 (0, 0)) (by simp [ycg'])
 refine ⟨m, w', yaa' hc 0 rfl, hrun, yaa' hc' 0 rfl, m, gs ++ [⟨id, p, vs, vv, vo, x⟩], by simp [EntG.ent], fun e he => ?_, ?_⟩
 ·rcases List.mem_append.1 he with he | he
  ·exact hwf e he
  ·rw [List.mem_singleton.1 he]; exact ⟨hx, hi1, hi2⟩
 ·simpa [ycg', EntG.kv, EntG.th] using h3
def newE (l : List Int) : EntS := { shards := l, votes := List.replicate l.length 0, dec := 0, owes := l }
theorem yzb' {l : List Int} (h : l.length ≤ 4) : (newE l).wf := ⟨by simp [newE], h, h⟩
def yia' (S : CoS) (id : Int) (l : List Int) : Int × CoS :=
 if id < 1 ∨ l.length = 0 ∨ risS l = false then (1, S) else match yec' id S with | some _ => (5, S) | none => (0, S ++ [(id, newE l)])
set_option maxRecDepth 100000 in
set_option maxHeartbeats 2000000 in
theorem yrw' (h : Co w0 w c S R rows) (id : Int) (v : Value) (l : List Int) (E : List Nat) (hid : id ≤ 9223372036854775807) (hv : ReadRow w 1 v (l.map iv) E) :
  Calls Tryz.prog 202 #[.pointer (some ⟨c, 0, none⟩), .int .i64 id, v] w fun e w' => e = .returned (.int .i64 (yia' S id l).1) ∧ Co w0 w' c (yia' S id l).2 R rows := by
 obtain ⟨a, n, cv, rfl, hln, hnc, hcm, -⟩ := _root_.id hv
 rw [List.length_map, Nat.mul_one] at hln
 subst hln
 unfold maxLen at hcm
 have hri := yq7' _ l E w hv
 unfold yia'
 by_cases h1 : id < 1
 ·rw [if_pos (.inl h1)]
  have H := Lib.hid h
  clear h hv hri
  go_enter Tryz.func202, Tryz.ntmps202
  go_wp2_with fail
  go_ret
  exact ⟨rfl, H.out⟩
 by_cases h2 : l.length = 0
 ·rw [if_pos (.inr (.inl h2))]
  have b2 : ((l.length : Int) == 0) = true := beq_iff_eq.2 (by omega)
  have H := Lib.hid h
  clear h hv hri h2
  go_enter Tryz.func202, Tryz.ntmps202
  go_wp2_with fail
  go_ret
  exact ⟨rfl, H.out⟩
 have b2 : ((l.length : Int) == 0) = false := beq_eq_false_iff_ne.2 (by omega)
 cases hr : risS l with
 | false =>
  rw [if_pos (.inr (.inr rfl))]
  rw [hr] at hri
  have H := Lib.hid h
  have HR := Lib.hid hri
  clear h hv hri h2 hr
  go_enter Tryz.func202, Tryz.ntmps202
  go_wp2_with fail
  refine HR.out.mono ?_
  rintro e w1 ⟨rfl, rfl⟩
  go_wp2_with fail
  go_ret
  exact ⟨rfl, H.out⟩
 | true =>
 rw [if_neg (by simp [h1, h2])]
 rw [hr] at hri
 have hl4 := ywl' hr
 cases hx : yec' id S with
 | some x =>
  obtain ⟨m, l1, g, l2, rfl, rfl, hF, -, hSS⟩ := h.take hx
  obtain ⟨hc, hl, hp⟩ := hF.facts
  have hl := hl w rfl
  have H := Lib.hid h
  have HR := Lib.hid hri
  clear h hv hri h2 hr hF hSS hp hx
  go_enter Tryz.func202, Tryz.ntmps202
  go_wp2_with fail
  refine HR.out.mono ?_
  rintro e w1 ⟨rfl, rfl⟩
  go_wp2_with fail
  go_ret
  exact ⟨rfl, H.out⟩
 | none =>
  obtain ⟨m, hc, hl⟩ := h.absent hx
  have hl := hl w rfl
  have H := Lib.hid h
  have HR := Lib.hid hri
  have HV := Lib.hid hv
  have HX := Lib.hid hx
  have hmk := fun W => run_make_row' (P := Tryz.prog) 68 3 (.int .i64 0) 8 Tryz.underlying68 yy0' rfl .i64 .i64 l.length (by omega) (by omega) W
  clear h hv hri h2 hr hx
  go_enter Tryz.func202, Tryz.ntmps202
  go_wp2_with fail
  refine HR.out.mono ?_
  rintro e w1 ⟨rfl, rfl⟩
  go_wp2_with fail
  refine yao' (fun W => W.cell? ⟨c, 0, none⟩ = some (.map (some m))) 15 (by kernel_rfl) ?_
  refine rT [(0, false), (1, false), (2, false), (3, true), (4, false), (5, false), (7, false), (8, false), (10, false)] 6 ?_
  apply Exists.intro; refine ⟨?_, hc, ?_⟩
  ·iterate 9 ((first | (apply yca'; (· (simp only [k_i, k_j, k_k]; try rfl)); (· rfl)) | ((first | apply yax' | apply yas'); (· (simp only [k_i, k_j, k_k]; try rfl)); (· rfl); (· (intros; go_simp; try with_reducible rfl)))); (· (simp only [Act.put, k_a, k_b, k_c]; try rfl)))
   exact rfl
  obtain ⟨w10, hw10⟩ : ∃ x, x = w1.drew := ⟨_, rfl⟩
  have k10 : w10.cell? ⟨c, 0, none⟩ = some (.map (some m)) := by rw [hw10]; exact hc
  have HV10 := Lib.hid (show ReadRow w10 1 (.slice a l.length cv) (l.map iv) E by rw [hw10]; exact HV.out.frame (fun _ _ => rfl))
  have HC10 := Lib.hid (show Co w0 w10 c S R rows by rw [hw10]; exact H.out.keep (Upd.refl w1 []).drew)
  rw [← hw10]
  clear hw10 hc hl H HV
  refine yce' (fuel := 5) [6, 9] (by kernel_rfl) (by simp) (fun i hi => ?_)
  simp only [List.mem_cons, List.not_mem_nil, or_false] at hi
  rcases hi with rfl | rfl
  case' inr =>
   refine ⟨_, by rfl, fun K hK => ?_⟩
   have hzr := yjo' w10 l.length (by omega)
   have hzu := Upd.alloc1 w10 (.cells (madeCells #[.int .i64 0] l.length) 3) []
   have k11 := yaw' hzu k10
   have HV11 := Lib.hid (HV10.out.frame (hzu.same HV10.out.lt (by simp)))
   have HC11 := Lib.hid (HC10.out.addR (T := yaf' 1 (.slice (some ⟨w10.heap.size, 0, none⟩) l.length l.length) ((List.replicate l.length 0).map iv)) hzu hzr)
   clear hzr hzu
   go_wp2_with fail
   obtain ⟨z, hz⟩ : ∃ z, z = w10.heap.size := ⟨_, rfl⟩
   obtain ⟨w11, hw⟩ : ∃ x, x = w10.alloc (.cells (madeCells #[.int .i64 0] l.length) 3) := ⟨_, rfl⟩
   rw [← hw, ← hz] at HC11 ⊢
   rw [← hw] at HV11 k11
   clear hw hz
   refine hK _ _ k11 ?_
   clear hK
   refine ya0' (fuel := 4) (i := 6) (by kernel_rfl) (by rfl) (fun K hK => ?_)
   go_wp2_with fail
   refine (yee' _ l E _ HV11.out (by omega)).mono ?_
   rintro e w12 ⟨va, Da, rfl, ho, hu⟩
   obtain ⟨aa, na, ca, rfl, -⟩ := ho.len
   have k12 := yaw' hu k11
   have HV12 := Lib.hid (HV11.out.frame (hu.same HV11.out.lt (by simp)))
   have HC12 := Lib.hid (HC11.out.addR (T := yaf' 1 (.slice aa na ca) (l.map iv)) hu ho)
   clear hu ho
   go_wp2_with fail
   refine hK _ _ k12 ?_
   clear hK
   refine ya0' (fuel := 3) (i := 11) (by kernel_rfl) (by rfl) (fun K hK => ?_)
   go_wp2_with fail
   refine (yee' _ l E _ HV12.out (by omega)).mono ?_
   rintro e w13 ⟨vb, Db, rfl, ho, hu⟩
   obtain ⟨ab, nb, cb, rfl, -⟩ := ho.len
   have k13 := yaw' hu k12
   have HV13 := Lib.hid (HV12.out.frame (hu.same HV12.out.lt (by simp)))
   have HC13 := Lib.hid (HC12.out.addR (T := yaf' 1 (.slice ab nb cb) (l.map iv)) hu ho)
   clear hu ho
   go_wp2_with fail
   refine hK _ _ k13 ?_
   clear hK
   have HC := Lib.hid (show Co w0 w13 c S (yaf' 1 (.slice aa na ca) (l.map iv) :: yaf' 1 (.slice (some ⟨z, 0, none⟩) l.length l.length) ((List.replicate l.length 0).map iv) :: yaf' 1 (.slice ab nb cb) (l.map iv) :: R) rows from HC13.out.permR ((List.Perm.swap _ _ _).trans ((List.Perm.cons _ (List.Perm.swap _ _ _)))))
   clear HC10 HC11 HC12 HC13 HV10 HV11 HV12 HV13
  case' inl =>
   refine ⟨_, by rfl, fun K hK => ?_⟩
   go_wp2_with fail
   refine (yee' _ l E _ HV10.out (by omega)).mono ?_
   rintro e w11 ⟨va, Da, rfl, ho, hu⟩
   obtain ⟨aa, na, ca, rfl, -⟩ := ho.len
   have k11 := yaw' hu k10
   have HV11 := Lib.hid (HV10.out.frame (hu.same HV10.out.lt (by simp)))
   have HC11 := Lib.hid (HC10.out.addR (T := yaf' 1 (.slice aa na ca) (l.map iv)) hu ho)
   clear hu ho
   go_wp2_with fail
   refine hK _ _ k11 ?_
   clear hK
   refine yce' (fuel := 4) [9, 11] (by kernel_rfl) (by simp) (fun i hi => ?_)
   simp only [List.mem_cons, List.not_mem_nil, or_false] at hi
   rcases hi with rfl | rfl
   case' inl =>
    refine ⟨_, by rfl, fun K hK => ?_⟩
    have hzr := yjo' w11 l.length (by omega)
    have hzu := Upd.alloc1 w11 (.cells (madeCells #[.int .i64 0] l.length) 3) []
    have k12 := yaw' hzu k11
    have HV12 := Lib.hid (HV11.out.frame (hzu.same HV11.out.lt (by simp)))
    have HC12 := Lib.hid (HC11.out.addR (T := yaf' 1 (.slice (some ⟨w11.heap.size, 0, none⟩) l.length l.length) ((List.replicate l.length 0).map iv)) hzu hzr)
    clear hzr hzu
    go_wp2_with fail
    obtain ⟨z, hz⟩ : ∃ z, z = w11.heap.size := ⟨_, rfl⟩
    obtain ⟨w12, hw⟩ : ∃ x, x = w11.alloc (.cells (madeCells #[.int .i64 0] l.length) 3) := ⟨_, rfl⟩
    rw [← hw, ← hz] at HC12 ⊢
    rw [← hw] at HV12 k12
    clear hw hz
    refine hK _ _ k12 ?_
    clear hK
    refine ya0' (fuel := 3) (i := 11) (by kernel_rfl) (by rfl) (fun K hK => ?_)
    go_wp2_with fail
    refine (yee' _ l E _ HV12.out (by omega)).mono ?_
    rintro e w13 ⟨vb, Db, rfl, ho, hu⟩
    obtain ⟨ab, nb, cb, rfl, -⟩ := ho.len
    have k13 := yaw' hu k12
    have HV13 := Lib.hid (HV12.out.frame (hu.same HV12.out.lt (by simp)))
    have HC13 := Lib.hid (HC12.out.addR (T := yaf' 1 (.slice ab nb cb) (l.map iv)) hu ho)
    clear hu ho
    go_wp2_with fail
    refine hK _ _ k13 ?_
    clear hK
    have HC := Lib.hid (show Co w0 w13 c S (yaf' 1 (.slice aa na ca) (l.map iv) :: yaf' 1 (.slice (some ⟨z, 0, none⟩) l.length l.length) ((List.replicate l.length 0).map iv) :: yaf' 1 (.slice ab nb cb) (l.map iv) :: R) rows from HC13.out.permR ((List.perm_middle (l₁ := [_, _]) (l₂ := R)).symm.trans ((List.Perm.swap _ _ _))))
    clear HC10 HC11 HC12 HC13 HV10 HV11 HV12 HV13
   case' inr =>
    refine ⟨_, by rfl, fun K hK => ?_⟩
    go_wp2_with fail
    refine (yee' _ l E _ HV11.out (by omega)).mono ?_
    rintro e w12 ⟨vb, Db, rfl, ho, hu⟩
    obtain ⟨ab, nb, cb, rfl, -⟩ := ho.len
    have k12 := yaw' hu k11
    have HV12 := Lib.hid (HV11.out.frame (hu.same HV11.out.lt (by simp)))
    have HC12 := Lib.hid (HC11.out.addR (T := yaf' 1 (.slice ab nb cb) (l.map iv)) hu ho)
    clear hu ho
    go_wp2_with fail
    refine hK _ _ k12 ?_
    clear hK
    refine ya0' (fuel := 3) (i := 9) (by kernel_rfl) (by rfl) (fun K hK => ?_)
    have hzr := yjo' w12 l.length (by omega)
    have hzu := Upd.alloc1 w12 (.cells (madeCells #[.int .i64 0] l.length) 3) []
    have k13 := yaw' hzu k12
    have HV13 := Lib.hid (HV12.out.frame (hzu.same HV12.out.lt (by simp)))
    have HC13 := Lib.hid (HC12.out.addR (T := yaf' 1 (.slice (some ⟨w12.heap.size, 0, none⟩) l.length l.length) ((List.replicate l.length 0).map iv)) hzu hzr)
    clear hzr hzu
    go_wp2_with fail
    obtain ⟨z, hz⟩ : ∃ z, z = w12.heap.size := ⟨_, rfl⟩
    obtain ⟨w13, hw⟩ : ∃ x, x = w12.alloc (.cells (madeCells #[.int .i64 0] l.length) 3) := ⟨_, rfl⟩
    rw [← hw, ← hz] at HC13 ⊢
    rw [← hw] at HV13 k13
    clear hw hz
    refine hK _ _ k13 ?_
    clear hK
    have HC := Lib.hid (show Co w0 w13 c S (yaf' 1 (.slice aa na ca) (l.map iv) :: yaf' 1 (.slice (some ⟨z, 0, none⟩) l.length l.length) ((List.replicate l.length 0).map iv) :: yaf' 1 (.slice ab nb cb) (l.map iv) :: R) rows from HC13.out.permR (List.perm_middle (l₁ := [_, _]) (l₂ := R)))
    clear HC10 HC11 HC12 HC13 HV10 HV11 HV12 HV13
  all_goals
   refine rT [(12, false)] 2 ?_
   apply Exists.intro; refine ⟨?_, k13, ?_⟩
   ·iterate 1 ((first | (apply yca'; (· (simp only [k_i, k_j, k_k]; try rfl)); (· rfl)) | ((first | apply yax' | apply yas'); (· (simp only [k_i, k_j, k_k]; try rfl)); (· rfl); (· (intros; go_simp; try with_reducible rfl)))); (· (simp only [Act.put, k_a, k_b, k_c]; try rfl)))
    exact rfl
   have h14 := HC.out.newCell (.cells #[.slice aa na ca, .slice (some ⟨z, 0, none⟩) l.length l.length, .int .i64 0, .slice ab nb cb] 220 (0, 0))
   have k14 := yaw' (Upd.alloc0 w13 (.cells #[.slice aa na ca, .slice (some ⟨z, 0, none⟩) l.length l.length, .int .i64 0, .slice ab nb cb] 220 (0, 0)) []) k13
   obtain ⟨m', w15, hm', hrun, k15, hC15⟩ := h14.begun (x := newE l) HX.out (yzb' hl4) (by omega) hid
   have e := k14.symm.trans hm'
   cases e
   have H15 := Lib.hid hC15
   clear h14 hm' hC15 HC
   refine ya0' (fuel := 1) (i := 13) (by kernel_rfl) (by rfl) (fun K hK => ?_)    -- box
   go_wp2_with fail
   refine hK _ _ k14 ?_
   clear hK
   refine ya0' (fuel := 0) (i := 14) (by kernel_rfl) (by rfl) (fun K hK => ?_)    -- mapUpdate
   go_wp2_with fail
   refine hK _ _ k15 ?_
   clear hK
   refine yag' (by kernel_rfl) ?_ _
   go_wp2_with fail
   go_ret
   exact ⟨rfl, H15.out⟩
end
end Go.Proofs.YtcnkifbjlihaoaaGreatDoor

namespace Go.Proofs.YtcnkifbjlihaoaaGreatDoor
open Go.RowKit Go.Av
structure OutS where
 kind : Int
 id : Int
 reply : ReplyS
 err : Int
 at_ : Int
 rs : List ResS
 yes : Bool
def yf9' : ReplyS := ⟨0, 0, 0, 0, []⟩
def badO : OutS := ⟨0, 0, yf9', 3, 0, [], false⟩
structure ShardS where
 p : PartS
 c : CoS
 played : Int
 known : List (Bs × OutS)
def yk6' (b : Bs) : Int × Int × Rd := ((i64R (b, false)).1, (i64R (i64R (b, false)).2).1, (i64R (i64R (b, false)).2).2)
def rawC (b : Bs) : CmdS × Rd × Bool :=
 let k := (yk6' b).1
 let id := (yk6' b).2.1
 let d := (yk6' b).2.2
 if k = 1 then (⟨k, id, 0, (ydf' (ybq' 40000 d).1).1, (ydf' (ybq' 40000 d).1).2.1, (ydf' (ybq' 40000 d).1).2.2, [], 0, false⟩, (ybq' 40000 d).2, (getR (ybq' 40000 d).1).isNone)
 else if k = 2 then (⟨k, id, (i64R d).1, (ydf' (ybq' 40000 (shR (i64R d).2).2).1).1, (ydf' (ybq' 40000 (shR (i64R d).2).2).1).2.1, (ydf' (ybq' 40000 (shR (i64R d).2).2).1).2.2, (shR (i64R d).2).1, 0, false⟩, (ybq' 40000 (shR (i64R d).2).2).2, (getR (ybq' 40000 (shR (i64R d).2).2).1).isNone)
 else if k = 3 then (⟨k, id, (i64R d).1, 0, 0, [], (shR (i64R d).2).1, 0, false⟩, (shR (i64R d).2).2, false)
 else if k = 4 then (⟨k, id, 0, 0, 0, [], [], 0, (cntR 1 d).1 == 1⟩, (cntR 1 d).2, false)
 else if k = 5 then (⟨k, id, 0, 0, 0, [], (shR d).1, 0, false⟩, (shR d).2, false)
 else if k = 6 then (⟨k, id, 0, 0, 0, [], [], (cntR 3 d).1, (cntR 1 (cntR 3 d).2).1 == 1⟩, (cntR 1 (cntR 3 d).2).2, false)
 else if k = 7 then (⟨k, id, 0, 0, 0, [], [], (cntR 3 d).1, false⟩, (cntR 3 d).2, false)
 else (⟨k, id, 0, 0, 0, [], [], 0, false⟩, d, false)
def getC (b : Bs) : Option CmdS := if (rawC b).2.2 = false ∧ endR (rawC b).2.1 = true ∧ putC (rawC b).1 = b then some (rawC b).1 else none
def doC (S : ShardS) (c : CmdS) : OutS × ShardS :=
 if c.kind = 1 then (⟨c.kind, c.id, (yb4' S.p c.rs c.rn c.ops).1, 0, 0, [], false⟩, { S with p := (yb4' S.p c.rs c.rn c.ops).2 })
 else if c.kind = 2 then (⟨c.kind, c.id, yf9', (yd1' S.p c.id c.sess c.ops).1.1, (yd1' S.p c.id c.sess c.ops).1.2, [], false⟩, { S with p := (yd1' S.p c.id c.sess c.ops).2 })
 else if c.kind = 3 then (⟨c.kind, c.id, yf9', (ycb' S.p c.id c.sess).1, -1, [], false⟩, { S with p := (ycb' S.p c.id c.sess).2 })
 else if c.kind = 4 then (⟨c.kind, c.id, yf9', (ybo' S.p c.id c.yes).1.2, 0, (ybo' S.p c.id c.yes).1.1, false⟩, { S with p := (ybo' S.p c.id c.yes).2 })
 else if c.kind = 5 then (⟨c.kind, c.id, yf9', (yia' S.c c.id c.shards).1, 0, [], false⟩, { S with c := (yia' S.c c.id c.shards).2 })
 else if c.kind = 6 then (⟨c.kind, c.id, yf9', (yno' S.c c.id c.shard c.yes).1, 0, [], false⟩, { S with c := (yno' S.c c.id c.shard c.yes).2 })
 else if c.kind = 7 then (⟨c.kind, c.id, yf9', (yma' S.c c.id c.shard).1, 0, [], false⟩, { S with c := (yma' S.c c.id c.shard).2 })
 else (⟨c.kind, c.id, yf9', (yfz' S.c c.id).2.1, 0, [], (yfz' S.c c.id).1⟩, { S with c := (yfz' S.c c.id).2.2 })
def yhr' (b : Bs) (K : List (Bs × OutS)) : Option OutS := (K.find? fun e => decide (e.1 = b)).map (·.2)
def ya8' (S : ShardS) (b : Bs) : OutS × ShardS := match getC b with
 | none => (badO, { S with played := S.played + 1 })
 | some c => match yhr' b S.known with
  | some o => (o, { S with played := S.played + 1 })
  | none => ((doC { S with played := S.played + 1 } c).1, { (doC { S with played := S.played + 1 } c).2 with known := S.known ++ [(b, (doC { S with played := S.played + 1 } c).1)] })
def ycr' : List Bs → ShardS → List OutS × ShardS
 | [], S => ([], S)
 | b :: l, S => ((ya8' S b).1 :: (ycr' l (ya8' S b).2).1, (ycr' l (ya8' S b).2).2)
def yd0' (room : Int) : ShardS := ⟨newP room, [], 0, []⟩
end Go.Proofs.YtcnkifbjlihaoaaGreatDoor

namespace Go.Av
open Go.RowKit
def y08' (p : ByteArray) (flags : Int) : OpS := ⟨1, p, ⟨#[]⟩, 0, flags⟩
end Go.Av
namespace Go.Proofs.YtcnkifbjlihaoaaGreatDoor
open Go.RowKit Go.Av
section
variable {w0 w : World} {R : List Thing} {rows : List (Value × Bs)}
def opA : OpS := y08' ⟨#[47, 97]⟩ 0
theorem yzp' {P : List PRow} {w0 w : World} {R : List Thing} {rows : List (Value × Bs)} {K : Nat} {a : Option Addr} {n c : Nat} {x : Value} {xs : List Value} (h : Sep w0 w (yab' w0 P :: R) rows) (hm : (K, Value.slice a n c, x :: xs) ∈ P) : ∃ g off, a = some ⟨g, off, none⟩ ∧ ∀ i v, (x :: xs)[i]? = some v → w.cell? ⟨g, off + i, none⟩ = some v := by
 obtain ⟨E, hE⟩ := h.poolGet hm
 obtain ⟨a', n', c', e, hl, hn, hc, ha, hr⟩ := hE
 rcases hr with ⟨h0, _⟩ | ⟨g, off, e2, _, _, hcell⟩
 ·cases h0
 ·injection e with e1 _ _
  subst e1
  exact ⟨g, off, e2, hcell⟩
end
end Go.Proofs.YtcnkifbjlihaoaaGreatDoor

namespace Go.Av
open Go.RowKit
section
variable {P : Program} {w : World}
theorem yoo' {K n c off g i f : Nat} {xs : List Value} {v : Value} {E : List Nat} {ty : TypeId} (h : ReadRow w K (.slice (some ⟨g, off, none⟩) n c) xs E) (hs : ydg' P ty = true) (hv : xs[i * K + f]? = some v) :
  (Instr.loadAt ty (.pointer (some ⟨g, off + i * K + f, none⟩))).run P w = .ok v w := by
 obtain ⟨a', n', c', e, hl, hn, hc, ha, hr⟩ := h
 cases e
 rcases hr with ⟨rfl, _⟩ | ⟨g', off', e, rfl, hlt, hcell⟩
 ·cases hv
 ·injection e with e
  injection e with e1 e2
  subst e1 e2
  rw [Nat.add_assoc]
  exact yae' hs (hcell _ v hv)
theorem ypy' {K n c off g i : Nat} {xs : List Value} {v : Value} {E : List Nat} {ty : TypeId} (h : ReadRow w K (.slice (some ⟨g, off, none⟩) n c) xs E) (hs : ydg' P ty = true) (hv : xs[i * K]? = some v) :
  (Instr.loadAt ty (.pointer (some ⟨g, off + i * K, none⟩))).run P w = .ok v w := yoo' (f := 0) h hs hv
theorem yft' {K n c off g i f m : Nat} {xs vs : List Value} {E : List Nat} {ty : TypeId} (h : ReadRow w K (.slice (some ⟨g, off, none⟩) n c) xs E) (hs : StructN P ty m) (hm : vs.length = m) (hne : vs ≠ []) (hv : ∀ j v, vs[j]? = some v → xs[i * K + f + j]? = some v) :
  (Instr.loadAt ty (.pointer (some ⟨g, off + i * K + f, none⟩))).run P w = .ok (.agg vs.toArray) w := by
 obtain ⟨a', n', c', e, hl, hn, hc, ha, hr⟩ := h
 cases e
 have h1 := hs.1
 unfold yge' at h1
 rw [Bool.and_eq_true] at h1
 obtain ⟨h1, h2⟩ := h1
 cases hi0 : P.info? ty with
 | none => simp [hi0] at h2
 | some ii =>
  simp only [hi0, beq_iff_eq] at h2
  cases hu : P.underlying ty with
  | none => simp [hu] at h1
  | some d =>
   refine run_loadAt_mid w g (off + i * K + f) ty _ d (fun j v hj => ?_) hu (by rw [hu] at h1; cases d <;> simp_all) (by rw [hi0, hm]; simpa using h2)
   have hq := hv j v hj
   rcases hr with ⟨rfl, _⟩ | ⟨g', off', e, rfl, hlt, hcell⟩
   ·cases hq
   ·injection e with e
    injection e with e1 e2
    subst e1 e2
    have := hcell _ v hq
    rw [show off + i * K + f + j = off + (i * K + f + j) by omega]
    exact this
end
inductive EntL (P : List PRow) : NoL → List Value → Prop
 | nil : EntL P [] []
 | cons {p : Bs} {n : NodeS} {nv : Value} {l : NoL} {xs : List Value} : (1, nv, n.names.map sv) ∈ P → EntL P l xs → EntL P ((p, n) :: l) (sv p :: (n.cells nv).toList ++ xs)
theorem EntL.mono {P P' : List PRow} {l : NoL} {xs : List Value} (h : EntL P l xs) (hP : ∀ r ∈ P, r ∈ P') : EntL P' l xs := by
 induction h with
 | nil => exact .nil
 | cons h1 _ ih => exact .cons (hP _ h1) ih
theorem EntL.len {P : List PRow} {l : NoL} {xs : List Value} (h : EntL P l xs) : xs.length = l.length * 11 := by
 induction h with
 | nil => rfl
 | cons _ _ ih => simp only [List.length_append, List.length_cons, ih]; simp [NodeS.cells]; omega
theorem EntL.snoc {P : List PRow} {l : NoL} {xs : List Value} {p : Bs} {n : NodeS} {nv : Value} (h : EntL P l xs) (hr : (1, nv, n.names.map sv) ∈ P) : EntL P (l ++ [(p, n)]) (xs ++ sv p :: (n.cells nv).toList) := by
 induction h with
 | nil => simpa using EntL.cons (p := p) hr EntL.nil
 | cons h1 _ ih =>
  rw [List.cons_append, List.append_assoc]
  exact .cons h1 ih
theorem EntL.at {P : List PRow} {l : NoL} {xs : List Value} (h : EntL P l xs) : ∀ {i : Nat} (hi : i < l.length), ∃ nv, (1, nv, l[i].2.names.map sv) ∈ P ∧ ∀ j v, (sv l[i].1 :: (l[i].2.cells nv).toList)[j]? = some v → xs[i * 11 + j]? = some v := by
 induction h with
 | nil => intro i hi; simp at hi
 | @cons p n nv l xs h1 h2 ih =>
  intro i hi
  cases i with
  | zero =>
   refine ⟨nv, h1, fun j v hv => ?_⟩
   have hj : j < (sv p :: (n.cells nv).toList).length := (List.getElem?_eq_some_iff.1 hv).1
   rw [Nat.zero_mul, Nat.zero_add, List.getElem?_append_left hj]
   exact hv
  | succ i =>
   obtain ⟨nv', h3, h4⟩ := ih (i := i) (by simpa using hi)
   refine ⟨nv', h3, fun j v hv => ?_⟩
   have hl : (sv p :: (n.cells nv).toList).length = 11 := rfl
   rw [List.getElem?_append_right (by rw [hl]; omega), hl, show (i + 1) * 11 + j - 11 = i * 11 + j by omega]
   exact h4 j v hv
end Go.Av
namespace Go.Proofs.YtcnkifbjlihaoaaGreatDoor
open Go.RowKit Go.Av
theorem sn_rnode : StructN Tryz.prog 167 10 := ⟨by kernel_rfl⟩
theorem sn_rtree : StructN Tryz.prog 126 2 := ⟨by kernel_rfl⟩
theorem sn_rent : StructN Tryz.prog 169 11 := ⟨by kernel_rfl⟩
theorem z_rnode : ydh' Tryz.prog 167 #[.int .i64 0, .int .i64 0, .int .i64 0, .int .i64 0, .int .i64 0, .int .i64 0, .int .i64 0, .string ⟨#[]⟩, .int .i64 0, .slice none 0 0] := by unfold ydh'; kernel_rfl
theorem sl_ent : SliceN Tryz.prog 124 169 11 120 := .of Tryz.underlying124 (by kernel_rfl)
def RtO (b : Nat) (S : TreeS) (P : List PRow) (L : List Thing) : Prop := ∃ a n c xs, L = [yac' b (.cells #[.int .i64 S.room, .slice a n c] 126 (0, 0)), yaf' 11 (.slice a n c) xs] ∧ EntL P S.l xs
def ThRt (b : Nat) (S : TreeS) (P : List PRow) : Thing := Bun (RtO b S P)
section
variable {w0 w : World} {b : Nat} {S : TreeS} {P P' : List PRow} {R : List Thing} {rows : List (Value × Bs)}
theorem yzq' (h : Sep w0 w (ThRt b S P :: R) rows) (hP : ∀ r ∈ P, r ∈ P') : Sep w0 w (ThRt b S P' :: R) rows := by
 obtain ⟨L, ⟨a, n, c, xs, rfl, h1⟩, hS⟩ := h.opens
 exact Sep.shut (O := RtO b S P') ⟨a, n, c, xs, rfl, h1.mono hP⟩ hS
theorem ytw' (h : Sep w0 w (ThRt b S P :: R) rows) : ∃ a n c xs, EntL P S.l xs ∧ n = S.l.length ∧ Sep w0 w (yac' b (.cells #[.int .i64 S.room, .slice a n c] 126 (0, 0)) :: yaf' 11 (.slice a n c) xs :: R) rows := by
 obtain ⟨L, ⟨a, n, c, xs, rfl, h1⟩, hS⟩ := h.opens
 obtain ⟨a', n', c', e, hl, -⟩ := (Sep.drop hS).rowLen
 simp only [Value.slice.injEq] at e
 obtain ⟨-, rfl, -⟩ := e
 have := h1.len
 exact ⟨a, n, c, xs, h1, by omega, hS⟩
theorem yop' {a : Option Addr} {n c : Nat} {xs : List Value} (h : Sep w0 w (yac' b (.cells #[.int .i64 S.room, .slice a n c] 126 (0, 0)) :: yaf' 11 (.slice a n c) xs :: R) rows) (he : EntL P S.l xs) : Sep w0 w (ThRt b S P :: R) rows :=
 Sep.shut (O := RtO b S P) ⟨a, n, c, xs, rfl, he⟩ h
theorem yc1' (q : ByteArray) : (q.toList != q.toList) = false := by simp
set_option maxRecDepth 100000 in
set_option maxHeartbeats 2000000 in
theorem ync' (h : Sep w0 w (yab' w0 P :: R) rows) (va vb : Value) (l : List Bs) (ha : (1, va, l.map sv) ∈ P) (hb : (1, vb, l.map sv) ∈ P) :
  Calls Tryz.prog 162 #[va, vb] w fun e w' => e = .returned (.bool true) ∧ Sep w0 w' (yab' w0 P :: R) rows := by
 obtain ⟨E, hE⟩ := h.poolGet ha
 obtain ⟨a1, n1, c1, rfl, hl1, hn1, hc1, hne1⟩ := ReadRow.some hE
 obtain ⟨E2, hE2⟩ := h.poolGet hb
 obtain ⟨a2, n2, c2, rfl, hl2, hn2, hc2, hne2⟩ := ReadRow.some hE2
 rw [List.length_map, Nat.mul_one] at hl1 hl2
 subst hl1
 obtain rfl : l.length = n2 := hl2
 have q9 : l.length ≤ 9223372036854775807 := by unfold maxLen at hc1; omega
 have HA := Lib.hid ha
 have HB := Lib.hid hb
 have HN1 := Lib.hid hne1
 have HN2 := Lib.hid hne2
 have HX := Lib.hid h
 clear h ha hb hE hE2 hne1 hne2 hn1 hn2 hc1 hc2
 go_enter Tryz.func162, Tryz.ntmps162
 go_wp2_with (first | refine v1 ?_ | (refine vS ?_; clear HX; intro w HX) | (refine vA ?_; clear HX; (first | (have hq := b; clear hq; intro w b2 HX) | intro w b HX)))
 go_loopg [5] l.length (fun k v5 wr => ∃ i : Nat, i + k = l.length ∧ v5 = .int .i64 (i : Int) ∧ Sep w0 wr (yab' w0 P :: R) rows)
 case atStart => exact ⟨0, by omega, rfl, HX.out⟩
 case round =>
  rename World => w
  obtain ⟨i, hik, rfl, hS⟩ := hrel
  replace HX := Lib.hid hS
  clear hS
  by_cases hlt : i < l.length
  case neg =>
   obtain rfl : i = l.length := by omega
   clear hlt hik
   go_wp2_with (first | refine v1 ?_ | (refine vS ?_; clear HX; intro w HX) | (refine vA ?_; clear HX; (first | (have hq := b; clear hq; intro w b2 HX) | intro w b HX)))
   go_ret
   exact ⟨rfl, HX.out⟩
  case pos =>
   have hnil : l.map sv ≠ [] := by intro e; rw [List.map_eq_nil_iff] at e; rw [e] at hlt; simp at hlt
   obtain ⟨g1, o1, rfl⟩ := HN1.out hnil
   obtain ⟨g2, o2, rfl⟩ := HN2.out hnil
   have hx : (l.map sv)[i]? = some (sv l[i]) := by rw [List.getElem?_map, List.getElem?_eq_getElem hlt]; rfl
   have HHX := Lib.hid hx
   have q0 : decide (i < l.length) = true := decide_eq_true hlt
   clear hnil hx
   go_wp2_with (first | refine v1 ?_ | (refine vS ?_; clear HX; intro w HX) | (refine vA ?_; clear HX; (first | (have hq := b; clear hq; intro w b2 HX) | intro w b HX)))
   refine yao' (fun W => W = w.drew) 9 (by kernel_rfl) ?_
   replace HX := Lib.hid HX.out.drew
   generalize w.drew = w at HX ⊢
   obtain ⟨E, hE⟩ := HX.out.poolGet HA.out
   obtain ⟨E2, hE2⟩ := HX.out.poolGet HB.out
   have hl := ybz' (P := Tryz.prog) (ty := 9) (i := i) hE (by kernel_rfl) HHX.out
   have hl2 := ybz' (P := Tryz.prog) (ty := 9) (i := i) hE2 (by kernel_rfl) HHX.out
   obtain ⟨q, hq⟩ : ∃ q : ByteArray, (⟨l[i].toArray⟩ : ByteArray) = q := ⟨_, rfl⟩
   unfold sv at hl hl2
   rw [hq] at hl hl2
   clear hE hE2 hq
   have hql := yc1' q
   refine rT [(0, false), (1, false), (2, false), (3, true), (4, false), (5, false), (6, false), (7, true), (8, false)] 0 ?_
   apply Exists.intro; refine ⟨?_, rfl, ?_⟩
   ·iterate 9 (refine yD ?_)
    exact rfl
   refine yag' (by kernel_rfl) ?_ _
   clear hl hl2
   go_wp2_with (first | refine v1 ?_ | (refine vS ?_; clear HX; intro w HX) | (refine vA ?_; clear HX; (first | (have hq := b; clear hq; intro w b2 HX) | intro w b HX)))
   go_roundg (l.length - (i + 1))
   case rel => exact ⟨i + 1, by omega, by go_num, HX.out⟩
   case measure => omega
end
end Go.Proofs.YtcnkifbjlihaoaaGreatDoor

namespace Go.Proofs.YtcnkifbjlihaoaaGreatDoor
open Go.RowKit Go.Av
section
variable {w0 w : World} {P P' : List PRow} {R : List Thing} {rows : List (Value × Bs)}
end
end Go.Proofs.YtcnkifbjlihaoaaGreatDoor

namespace Go.Av
open Go.RowKit
section
variable {P : Program} {w0 w : World} {R Ts Ts' : List Thing} {rows : List (Value × Bs)} {Pl : List PRow}
end
section
variable {P : Program} {ops : Array Oper} {Q : Exit → Act → World → Prop} {a : Act} {w w0 : World} {rest : List Oper} {Ts Ts' : List Thing} {rows : List (Value × Bs)} {dst : Option Tmp} {tyy t e : TypeId} {pos : String} {aft : Array Edge}
theorem yzy' (H : Hid (Sep w0 w Ts rows)) {K by_ : Nat} (hsl : SliceN P t e K by_)
  (k : ∀ w' b, Hid (Sep w0 w' (yaf' K (.slice (some ⟨b, 0, none⟩) 0 0) [] :: Ts) rows) → wpList P ops Q rest (a.put dst (.slice (some ⟨b, 0, none⟩) 0 0)) w') : wpList P ops Q (⟨dst, .buildSlice t 0 #[], tyy, pos, aft, none⟩ :: rest) a w := by
 obtain ⟨ii, z, hi, hz, hsz, hzs, -⟩ := hsl.info
 have hr : (Instr.buildSlice t 0 #[]).run P w = .ok (.slice (some ⟨w.heap.size, 0, none⟩) 0 0) (w.alloc (.cells #[] e)) := by
  simp [Instr.buildSlice, Sem.run_bind, run_underlying hsl.ut, sizeOf, typeInfo, hi, newRow, Instr.fill]
  have h0 : Array.range 0 = #[] := Array.eq_empty_of_size_eq_zero (by simp)
  rw [h0, Array.map_empty]
 have h0 : Sep w0 (w.alloc (.cells (([] : List Value).toArray) e)) (yac' w.heap.size (.cells (([] : List Value).toArray) e (0, 0)) :: Ts) rows := H.out.newCell _
 have hk := k (w.alloc (.cells #[] e)) w.heap.size (Lib.hid (Sep.cellRow (K := K) (n := 0) h0 (by simp) (by omega)))
 refine yb9' (w' := w.alloc (.cells #[] e)) (v := .slice (some ⟨w.heap.size, 0, none⟩) 0 0) ?_ ?_ hk
 ·simp [Region.wanted]
 ·unfold execOp
  dsimp only
  rw [Array.map_empty]
  exact ycl' hr
theorem yzw' (H : Hid (Sep w0 w Ts rows)) {K by_ : Nat} {s x : Operand} {av a2 : Option Addr} {nv cv n2 c2 : Nat} {xs ys : List Value} {Pl : List PRow} (hsl : SliceN P t e K by_) (hs : a.eval s = .slice av nv cv) (hx : a.eval x = .slice a2 n2 c2)
  (hr : Rem (yaf' K (.slice av nv cv) xs) Ts Ts') (hm : yab' w0 Pl ∈ Ts) (hrow : (K, Value.slice a2 n2 c2, ys) ∈ Pl) (h1 : ∀ u ∈ ys, u.oneCell' = true) (hb : ∀ n m, xs.length = n * K → ys.length = m * K → (n + m) ≤ 140737488355328 ∧ (n + m) * by_ ≤ 140737488355328)
  (k : ∀ w' a' n' c', Hid (Sep w0 w' (yaf' K (.slice a' n' c') (xs ++ ys) :: Ts') rows) → wpList P ops Q rest (a.put dst (.slice a' n' c')) w') :
  wpList P ops Q (⟨dst, .call { callee := .builtin .append, args := #[s, x], argTypes := #[t, t] }, tyy, pos, aft, none⟩ :: rest) a w := by
 obtain ⟨D, hD⟩ := H.out.has hm
 have : ∃ E, ReadRow w K (.slice a2 n2 c2) ys E := by
  rcases hD.2 _ hrow with ⟨E, hE, -⟩ | ⟨E, hE⟩
  ·exact ⟨E, hE⟩
  ·exact ⟨E, hE.frame (fun b hb => H.out.below.block b (hE.lt b hb))⟩
 obtain ⟨E, hE⟩ := this
 obtain ⟨m, hm1, hsrc⟩ := hE.src hsl.ut h1
 exact yxx' H hsl hs hx hr hsrc (fun n hn => hb n m hn hm1) k
end
end Go.Av

namespace Go.Proofs.YtcnkifbjlihaoaaGreatDoor
open Go.RowKit Go.Av
section
variable {w0 w : World} {P P' : List PRow} {R : List Thing} {rows : List (Value × Bs)}
end
end Go.Proofs.YtcnkifbjlihaoaaGreatDoor

namespace Go.Proofs.YtcnkifbjlihaoaaGreatDoor
open Go.RowKit Go.Av
section
variable {w0 w : World} {P P' : List PRow} {R : List Thing} {rows : List (Value × Bs)}
end
end Go.Proofs.YtcnkifbjlihaoaaGreatDoor

namespace Go.Proofs.YtcnkifbjlihaoaaGreatDoor
open Go.RowKit Go.Av
section
variable {w0 w : World} {b t : Nat} {S : TreeS} {P P' : List PRow} {R : List Thing} {rows : List (Value × Bs)}
set_option maxRecDepth 100000 in
set_option maxHeartbeats 2000000 in
theorem ytx' (h : Sep w0 w (yab' w0 P :: R) rows) (n : NodeS) (va vb : Value) (ha : (1, va, n.names.map sv) ∈ P) (hb : (1, vb, n.names.map sv) ∈ P) :
  Calls Tryz.prog 96 #[n.val va, n.val vb] w fun e w' => e = .returned (.bool true) ∧ Sep w0 w' (yab' w0 P :: R) rows := by
 obtain ⟨E, hE⟩ := h.poolGet ha
 obtain ⟨a1, n1, c1, rfl, -⟩ := ReadRow.some hE
 obtain ⟨E2, hE2⟩ := h.poolGet hb
 obtain ⟨a2, n2, c2, rfl, -⟩ := ReadRow.some hE2
 have HA := Lib.hid ha
 have HB := Lib.hid hb
 have HX := Lib.hid h
 have hq := yc1' n.data
 have hq2 : (n.data.toList == n.data.toList) = true := by simp
 clear h ha hb hE hE2
 unfold NodeS.val NodeS.cells
 go_enter Tryz.func96, Tryz.ntmps96
 go_wp2_with (first | refine v1 ?_ | (refine vS ?_; clear HX; intro w HX) | (refine vA ?_; clear HX; (first | (have hq := b; clear hq; intro w b2 HX) | intro w b HX)))
 refine (ync' HX.out.up2 _ _ n.names HA.out HB.out).mono ?_
 rintro e w ⟨rfl, hx⟩
 replace HX := Lib.hid hx
 clear hx
 go_wp2_with (first | refine v1 ?_ | (refine vS ?_; clear HX; intro w HX) | (refine vA ?_; clear HX; (first | (have hq := b; clear hq; intro w b2 HX) | intro w b HX)))
 go_ret
 exact ⟨rfl, HX.out.cut1.cut1⟩
def yhq' (l : List OpS) : Bool := decide (20 < l.length) || l.any fun o => decide (300 < o.path.size) || decide (1100 < o.data.size)
end
end Go.Proofs.YtcnkifbjlihaoaaGreatDoor

namespace Go.Proofs.YtcnkifbjlihaoaaGreatDoor
open Go.RowKit Go.Av
end Go.Proofs.YtcnkifbjlihaoaaGreatDoor

namespace Go.Av
open Go.RowKit
theorem EntL.parts {P : List PRow} {l : NoL} {xs : List Value} (h : EntL P l xs) {i : Nat} (hi : i < l.length) : ∃ nv, (1, nv, l[i].2.names.map sv) ∈ P ∧ xs[i * 11]? = some (sv l[i].1) ∧ ∀ j v, (l[i].2.cells nv).toList[j]? = some v → xs[i * 11 + 1 + j]? = some v := by
 obtain ⟨nv, h1, h2⟩ := h.at hi
 refine ⟨nv, h1, h2 0 _ rfl, fun j v hv => ?_⟩
 rw [show i * 11 + 1 + j = i * 11 + (j + 1) by omega]
 exact h2 (j + 1) v hv
end Go.Av
namespace Go.Proofs.YtcnkifbjlihaoaaGreatDoor
open Go.RowKit Go.Av
section
variable {w0 w : World} {b b2 : Nat} {S : TreeS} {P P' : List PRow} {R : List Thing} {rows : List (Value × Bs)}
theorem yfr' {a : Option Addr} {n c K : Nat} {xs : List Value} (h : Sep w0 w (yaf' K (.slice a n c) xs :: R) rows) : ∃ E, ReadRow w K (.slice a n c) xs E := by
 obtain ⟨D, hD⟩ := h.fst
 obtain ⟨E, hE, -⟩ := OwnRow.read hD
 exact ⟨E, hE⟩
set_option maxRecDepth 100000 in
set_option maxHeartbeats 4000000 in
theorem yty' (h : Sep w0 w (yab' w0 P :: ThRt b S P :: ThRt b2 S P :: R) rows) (hn : S.l.length ≤ 100000) :
  Calls Tryz.prog 34 #[.pointer (some ⟨b, 0, none⟩), .pointer (some ⟨b2, 0, none⟩)] w fun e w' => e = .returned (.bool true) ∧ Sep w0 w' (yab' w0 P :: ThRt b S P :: ThRt b2 S P :: R) rows := by
 obtain ⟨a1, n1, c1, xs1, he1, rfl, hS⟩ := ytw' h.up1
 obtain ⟨a2, n2, c2, xs2, he2, rfl, hS⟩ := ytw' hS.up3
 have HX := Lib.hid hS
 have HE1 := Lib.hid he1
 have HE2 := Lib.hid he2
 have HN := Lib.hid hn
 have HFIN := Lib.hid (show ∀ W, Sep w0 W (yac' b2 (.cells #[.int .i64 S.room, .slice a2 S.l.length c2] 126 (0, 0)) :: yaf' 11 (.slice a2 S.l.length c2) xs2 :: yac' b (.cells #[.int .i64 S.room, .slice a1 S.l.length c1] 126 (0, 0)) :: yaf' 11 (.slice a1 S.l.length c1) xs1 :: yab' w0 P :: R) rows → Sep w0 W (yab' w0 P :: ThRt b S P :: ThRt b2 S P :: R) rows from fun W hW => by
  have h1 := yop' hW he2
  have h2 := yop' (Sep.up2 (Sep.up2 h1)) he1
  exact Sep.pm h2 3 [2, 0, 1] rfl rfl)
 clear h hS he1 he2 hn
 go_enter Tryz.func34, Tryz.ntmps34
 go_wp2_with (first | refine v1 ?_ | (refine vS ?_; clear HX; intro w HX) | (refine vA ?_; clear HX; (first | (have hq := b2; clear hq; intro w b3 HX) | (have hq := b; clear hq; intro w b2 HX) | intro w b HX)))
 refine yao' (fun W => W = w.drew) 11 (by kernel_rfl) ?_
 replace HX := Lib.hid HX.out.drew
 generalize w.drew = w at HX ⊢
 refine rT [(0, false), (1, false), (2, false), (3, true), (4, false), (5, false), (6, false), (7, false), (8, true), (9, false), (10, false)] 0 ?_
 apply Exists.intro; refine ⟨?_, rfl, ?_⟩
 ·iterate 11 (refine yD ?_)
  exact rfl
 refine yag' (by kernel_rfl) ?_ _
 go_wp2_with (first | refine v1 ?_ | (refine vS ?_; clear HX; intro w HX) | (refine vA ?_; clear HX; (first | (have hq := b2; clear hq; intro w b3 HX) | (have hq := b; clear hq; intro w b2 HX) | intro w b HX)))
 go_loopg [5] S.l.length (fun k v5 wr => ∃ i : Nat, i + k = S.l.length ∧ v5 = .int .i64 (i : Int) ∧ Sep w0 wr (yac' b2 (.cells #[.int .i64 S.room, .slice a2 S.l.length c2] 126 (0, 0)) :: yaf' 11 (.slice a2 S.l.length c2) xs2 :: yac' b (.cells #[.int .i64 S.room, .slice a1 S.l.length c1] 126 (0, 0)) :: yaf' 11 (.slice a1 S.l.length c1) xs1 :: yab' w0 P :: R) rows)
 case atStart => exact ⟨0, by omega, rfl, HX.out⟩
 case round =>
  rename World => w
  obtain ⟨i, hik, rfl, hS⟩ := hrel
  replace HX := Lib.hid hS
  clear hS
  by_cases hlt : i < S.l.length
  case neg =>
   obtain rfl : i = S.l.length := by omega
   clear hlt hik
   go_wp2_with (first | refine v1 ?_ | (refine vS ?_; clear HX; intro w HX) | (refine vA ?_; clear HX; (first | (have hq := b2; clear hq; intro w b3 HX) | (have hq := b; clear hq; intro w b2 HX) | intro w b HX)))
   go_ret
   exact ⟨rfl, HFIN.out _ HX.out⟩
  case pos =>
   obtain ⟨nv1, m1, p1, k1⟩ := HE1.out.parts hlt
   obtain ⟨nv2, m2, p2, k2⟩ := HE2.out.parts hlt
   obtain ⟨E, hE⟩ := yfr' HX.out.up3
   obtain ⟨_, _, _, e, _, _, _, hne⟩ := ReadRow.some hE
   simp only [Value.slice.injEq] at e
   obtain ⟨rfl, rfl, rfl⟩ := e
   obtain ⟨g1, o1, rfl⟩ := hne (by intro e; rw [e] at p1; cases p1)
   obtain ⟨E2, hE2⟩ := yfr' HX.out.up1
   obtain ⟨_, _, _, e, _, _, _, hne⟩ := ReadRow.some hE2
   simp only [Value.slice.injEq] at e
   obtain ⟨rfl, rfl, rfl⟩ := e
   obtain ⟨g2, o2, rfl⟩ := hne (by intro e; rw [e] at p2; cases p2)
   obtain ⟨⟨p, nd⟩, hen⟩ : ∃ en, S.l[i] = en := ⟨_, rfl⟩
   rw [hen] at m1 p1 k1 m2 p2 k2
   dsimp only at m1 p1 k1 m2 p2 k2
   obtain ⟨ps, hps⟩ : ∃ ps : ByteArray, ps = ⟨p.toArray⟩ := ⟨_, rfl⟩
   have hpv : sv p = .string ps := by rw [hps]; rfl
   rw [hpv] at p1 p2
   have hql := yc1' ps
   have q0 : decide (i < S.l.length) = true := decide_eq_true hlt
   have q9 : i ≤ 100000 := by have := HN.out; omega
   have HM := Lib.hid (show _ ∧ _ from ⟨m1, m2⟩)
   have hl : ∀ W, Sep w0 W (yac' b2 (.cells #[.int .i64 S.room, .slice (some ⟨g2, o2, none⟩) S.l.length c2] 126 (0, 0)) :: yaf' 11 (.slice (some ⟨g2, o2, none⟩) S.l.length c2) xs2 :: yac' b (.cells #[.int .i64 S.room, .slice (some ⟨g1, o1, none⟩) S.l.length c1] 126 (0, 0)) :: yaf' 11 (.slice (some ⟨g1, o1, none⟩) S.l.length c1) xs1 :: yab' w0 P :: R) rows → (Instr.loadAt 9 (.pointer (some ⟨g1, o1 + i * 11, none⟩))).run Tryz.prog W = .ok (.string ps) W := fun W hW => by
    obtain ⟨E, hE⟩ := yfr' (Sep.up3 hW)
    exact ypy' hE (by kernel_rfl) p1
   have hl2 : ∀ W, Sep w0 W (yac' b2 (.cells #[.int .i64 S.room, .slice (some ⟨g2, o2, none⟩) S.l.length c2] 126 (0, 0)) :: yaf' 11 (.slice (some ⟨g2, o2, none⟩) S.l.length c2) xs2 :: yac' b (.cells #[.int .i64 S.room, .slice (some ⟨g1, o1, none⟩) S.l.length c1] 126 (0, 0)) :: yaf' 11 (.slice (some ⟨g1, o1, none⟩) S.l.length c1) xs1 :: yab' w0 P :: R) rows → (Instr.loadAt 9 (.pointer (some ⟨g2, o2 + i * 11, none⟩))).run Tryz.prog W = .ok (.string ps) W := fun W hW => by
    obtain ⟨E, hE⟩ := yfr' (Sep.up1 hW)
    exact ypy' hE (by kernel_rfl) p2
   have hl3 : ∀ W, Sep w0 W (yac' b2 (.cells #[.int .i64 S.room, .slice (some ⟨g2, o2, none⟩) S.l.length c2] 126 (0, 0)) :: yaf' 11 (.slice (some ⟨g2, o2, none⟩) S.l.length c2) xs2 :: yac' b (.cells #[.int .i64 S.room, .slice (some ⟨g1, o1, none⟩) S.l.length c1] 126 (0, 0)) :: yaf' 11 (.slice (some ⟨g1, o1, none⟩) S.l.length c1) xs1 :: yab' w0 P :: R) rows → (Instr.loadAt 167 (.pointer (some ⟨g1, o1 + i * 11 + 1, none⟩))).run Tryz.prog W = .ok (.agg (nd.cells nv1)) W := fun W hW => by
    obtain ⟨E, hE⟩ := yfr' (Sep.up3 hW)
    exact yft' hE sn_rnode rfl (by simp [NodeS.cells]) k1
   have hl4 : ∀ W, Sep w0 W (yac' b2 (.cells #[.int .i64 S.room, .slice (some ⟨g2, o2, none⟩) S.l.length c2] 126 (0, 0)) :: yaf' 11 (.slice (some ⟨g2, o2, none⟩) S.l.length c2) xs2 :: yac' b (.cells #[.int .i64 S.room, .slice (some ⟨g1, o1, none⟩) S.l.length c1] 126 (0, 0)) :: yaf' 11 (.slice (some ⟨g1, o1, none⟩) S.l.length c1) xs1 :: yab' w0 P :: R) rows → (Instr.loadAt 167 (.pointer (some ⟨g2, o2 + i * 11 + 1, none⟩))).run Tryz.prog W = .ok (.agg (nd.cells nv2)) W := fun W hW => by
    obtain ⟨E, hE⟩ := yfr' (Sep.up1 hW)
    exact yft' hE sn_rnode rfl (by simp [NodeS.cells]) k2
   clear m1 m2 p1 p2 k1 k2 hne hE hE2 hen hps hpv
   go_wp2_with (first | refine v1 ?_ | (refine vS ?_; clear HX; intro w HX) | (refine vA ?_; clear HX; (first | (have hq := b2; clear hq; intro w b3 HX) | (have hq := b; clear hq; intro w b2 HX) | intro w b HX)))
   refine rM (fun W => Sep w0 W (yac' b2 (.cells #[.int .i64 S.room, .slice (some ⟨g2, o2, none⟩) S.l.length c2] 126 (0, 0)) :: yaf' 11 (.slice (some ⟨g2, o2, none⟩) S.l.length c2) xs2 :: yac' b (.cells #[.int .i64 S.room, .slice (some ⟨g1, o1, none⟩) S.l.length c1] 126 (0, 0)) :: yaf' 11 (.slice (some ⟨g1, o1, none⟩) S.l.length c1) xs1 :: yab' w0 P :: R) rows) 37 ?_
   intro KEEPX
   replace HX := Lib.hid HX.out.drew
   refine rT [(0, false), (1, false), (2, false), (3, true), (4, false), (5, false), (6, false), (7, true), (8, false), (9, false), (10, false), (11, true), (12, false), (13, false), (14, false), (15, true), (16, false), (17, false), (18, false), (19, false), (20, false), (21, true), (22, false), (23, false), (24, false), (25, true), (26, false), (27, false), (28, false), (29, true), (30, false), (31, false), (32, false), (33, true)] 3 ?_
   apply Exists.intro; refine ⟨?_, HX.out, ?_⟩
   ·iterate 34 (refine yE ?_)
    exact rfl
   clear hl hl2 hl3 hl4
   refine r1 2 34 fun K hK => ?_
   go_wp2_with fail
   refine (ytx' HX.out.up4 nd nv1 nv2 HM.out.1 HM.out.2).mono ?_
   rintro e w ⟨rfl, hx⟩
   have hy : Sep w0 w (yac' b2 (.cells #[.int .i64 S.room, .slice (some ⟨g2, o2, none⟩) S.l.length c2] 126 (0, 0)) :: yaf' 11 (.slice (some ⟨g2, o2, none⟩) S.l.length c2) xs2 :: yac' b (.cells #[.int .i64 S.room, .slice (some ⟨g1, o1, none⟩) S.l.length c1] 126 (0, 0)) :: yaf' 11 (.slice (some ⟨g1, o1, none⟩) S.l.length c1) xs1 :: yab' w0 P :: R) rows := hx.pm 5 [1, 2, 3, 4, 0] rfl rfl
   clear HX hx
   have HX := Lib.hid hy
   clear hy
   go_wp2_with fail
   refine hK _ _ HX.out ?_
   clear hK
   refine rT [(35, false), (36, false)] 0 ?_
   apply Exists.intro; refine ⟨?_, HX.out, ?_⟩
   ·iterate 2 (refine yE ?_)
    exact rfl
   refine yag' (by kernel_rfl) ?_ _
   go_wp2_with (first | refine v1 ?_ | (refine vS ?_; clear HX; intro w HX) | (refine vA ?_; clear HX; (first | (have hq := b2; clear hq; intro w b3 HX) | (have hq := b; clear hq; intro w b2 HX) | intro w b HX)))
   go_roundg (S.l.length - (i + 1))
   case rel => exact ⟨i + 1, by omega, by go_num, HX.out⟩
   case measure => omega
end
end Go.Proofs.YtcnkifbjlihaoaaGreatDoor

namespace Go.Proofs.YtcnkifbjlihaoaaGreatDoor
open Go.RowKit Go.Av
section
variable {w0 w : World} {b : Nat} {S : TreeS} {P P' : List PRow} {R : List Thing} {rows : List (Value × Bs)}
end
end Go.Proofs.YtcnkifbjlihaoaaGreatDoor

namespace Go.Av
open Go.RowKit
theorem EntL.take {P : List PRow} {l : NoL} {xs : List Value} (h : EntL P l xs) : ∀ k, EntL P (l.take k) (xs.take (k * 11)) := by
 induction h with
 | nil => intro k; simp; exact .nil
 | @cons p n nv l xs h1 h2 ih =>
  intro k
  cases k with
  | zero => rw [Nat.zero_mul]; exact .nil
  | succ k =>
   have hl : (sv p :: (n.cells nv).toList).length = 11 := rfl
   have h3 := EntL.cons (p := p) h1 (ih k)
   obtain ⟨A, hA⟩ : ∃ A, sv p :: (n.cells nv).toList = A := ⟨_, rfl⟩
   rw [hA] at hl h3 ⊢
   rw [k_f, List.take_append, List.take_of_length_le (l := A) (by omega), hl, show (k + 1) * 11 - 11 = k * 11 by omega]
   exact h3
theorem EntL.drop {P : List PRow} {l : NoL} {xs : List Value} (h : EntL P l xs) : ∀ k, EntL P (l.drop k) (xs.drop (k * 11)) := by
 induction h with
 | nil => intro k; simp; exact .nil
 | @cons p n nv l xs h1 h2 ih =>
  intro k
  cases k with
  | zero => rw [Nat.zero_mul]; exact .cons h1 h2
  | succ k =>
   have hl : (sv p :: (n.cells nv).toList).length = 11 := rfl
   have h3 := ih k
   obtain ⟨A, hA⟩ : ∃ A, sv p :: (n.cells nv).toList = A := ⟨_, rfl⟩
   rw [hA] at hl ⊢
   rw [k_e, List.drop_append, List.drop_of_length_le (l := A) (by omega), hl, List.nil_append, show (k + 1) * 11 - 11 = k * 11 by omega]
   exact h3
theorem EntL.one {w0 w : World} {R : List Thing} {rows : List (Value × Bs)} {P : List PRow} {l : NoL} {xs : List Value} (hS : Sep w0 w (yab' w0 P :: R) rows) (h : EntL P l xs) : ∀ u ∈ xs, u.oneCell' = true := by
 induction h with
 | nil => intro u hu; cases hu
 | @cons p n nv l xs h1 h2 ih =>
  intro u hu
  obtain ⟨E, hE⟩ := hS.poolGet h1
  obtain ⟨a, m, c, hnv, -⟩ := ReadRow.some hE
  have hnv : nv = .slice a m c := hnv
  rcases List.mem_append.1 hu with hu | hu
  ·rcases List.mem_cons.1 hu with rfl | hu
   ·rfl
   ·subst hnv
    simp only [NodeS.cells, List.mem_cons, List.not_mem_nil, or_false] at hu
    rcases hu with rfl | rfl | rfl | rfl | rfl | rfl | rfl | rfl | rfl | rfl <;> rfl
  ·exact ih u hu
end Go.Av
namespace Go.Proofs.YtcnkifbjlihaoaaGreatDoor
open Go.RowKit Go.Av
section
variable {w0 w : World} {b : Nat} {S : TreeS} {P P' : List PRow} {R : List Thing} {rows : List (Value × Bs)}
end
end Go.Proofs.YtcnkifbjlihaoaaGreatDoor

namespace Go.Av
open Go.RowKit
section
variable {P : Program} {w0 w : World} {R Ts Ts' : List Thing} {rows : List (Value × Bs)}
variable {ops : Array Oper} {Q : Exit → Act → World → Prop} {rest : List Oper} {a : Act} {dst : Option Tmp} {tyy : TypeId} {pos : String} {aft : Array Edge} {gg : Option (Nat × Bool)}
end
end Go.Av

namespace Go.Av
open Go.RowKit
end Go.Av

namespace Go.Av
theorem ymu' : ∀ l : List Bs, l ≠ [] → (ofP l.dropLast).length < (ofP l).length
 | [], h => absurd rfl h
 | [x], _ => by simp [ofP]
 | x :: y :: l, _ => by
  have ih := ymu' (y :: l) (by simp)
  rw [List.dropLast_cons_cons]
  unfold ofP at ih ⊢
  rw [List.flatMap_cons, List.flatMap_cons, List.length_append, List.length_append]
  omega
theorem ymy' {p up : Bs} (h : yat' p = some up) : p ≠ up := by
 intro e
 unfold yat' at h
 split at h
 ·cases h
 ·rename_i h1
  injection h with h2
  have hne : ybs' p ≠ [] := by intro e2; rw [e2] at h1; exact h1 (by decide)
  have hs := ymu' _ hne
  rw [h2, ← e] at hs
  have hg : ybn' p = true := by
   cases hh : ybn' p with
   | true => rfl
   | false => exact absurd (by unfold ybs'; rw [hh]; rfl) hne
  have hp : ofP (ybs' p) = p := by
   cases p with
   | nil => cases hg
   | cons c r =>
    have hc : c = 47 := by
     unfold ybn' at hg
     simp only [Bool.and_eq_true, decide_eq_true_eq] at hg
     exact hg.1.1.1
    unfold ybs'
    rw [if_pos hg, hc]
    exact yn2' r
  rw [hp] at hs
  omega
end Go.Av

namespace Go.Av
open Go.RowKit
theorem yeo' (n : NodeS) (s : Bs) : (remS n s).owner = n.owner := by
 unfold remS
 split <;> rfl
theorem yxs' {S : TreeS} {sess : Int} {p : Bs} : p ∈ ofT S sess ↔ ∃ n, (p, n) ∈ S.l ∧ 0 < sess ∧ n.owner = sess := by
 unfold ofT
 rw [List.mem_map]
 constructor
 ·rintro ⟨⟨k, n⟩, he, rfl⟩
  have := List.mem_filter.1 he
  simp at this
  exact ⟨n, this.1, this.2⟩
 ·rintro ⟨n, h1, h2, h3⟩
  exact ⟨(p, n), List.mem_filter.2 ⟨h1, by simp [h2, h3]⟩, rfl⟩
end Go.Av

namespace Go.Av
open Go.RowKit
theorem ydu' (p : Bs) (e : Bs × NodeS) (l : NoL) : yal' p (e :: l) = if e.1 = p then some e.2 else yal' p l := by
 unfold yal'
 rw [List.find?_cons]
 by_cases h : e.1 = p
 ·simp [h]
 ·simp [h]
theorem yci' (p q : Bs) (n : NodeS) : ∀ l : NoL, yal' p (setT q n l) = if p = q then (yal' q l).map (fun _ => n) else yal' p l
 | [] => by
  unfold setT
  by_cases h : p = q
  ·rw [if_pos h]; rfl
  ·rw [if_neg h]; rfl
 | e :: l => by
  have ih := yci' p q n l
  have hs : setT q n (e :: l) = (if e.1 = q then (e.1, n) else e) :: setT q n l := rfl
  rw [hs, ydu', ydu', ydu', ih]
  by_cases he : e.1 = q
  ·rw [if_pos he, if_pos he]
   by_cases h : p = q
   ·rw [if_pos (by rw [he, h]), if_pos h]; rfl
   ·rw [if_neg (by rw [he]; exact fun hh => h hh.symm), if_neg h, if_neg h, if_neg (by rw [he]; exact fun hh => h hh.symm)]
  ·rw [if_neg he, if_neg he]
   by_cases h : p = q
   ·rw [if_pos h, if_pos h, if_neg (by rw [h]; exact he)]
   ·rw [if_neg h, if_neg h]
theorem ypf' (p q : Bs) : ∀ l : NoL, yal' p (delT q l) = if p = q then none else yal' p l
 | [] => by
  by_cases h : p = q
  ·rw [if_pos h]; rfl
  ·rw [if_neg h]; rfl
 | e :: l => by
  have ih := ypf' p q l
  by_cases he : e.1 = q
  ·have hs : delT q (e :: l) = delT q l := by unfold delT; rw [List.filter_cons, if_neg (by simp [he])]
   rw [hs, ih, ydu']
   by_cases h : p = q
   ·rw [if_pos h, if_pos h]
   ·rw [if_neg h, if_neg h, if_neg (by rw [he]; exact fun hh => h hh.symm)]
  ·have hs : delT q (e :: l) = e :: delT q l := by unfold delT; rw [List.filter_cons, if_pos (by simp [he])]
   rw [hs, ydu', ydu', ih]
   by_cases h : p = q
   ·rw [if_pos h, if_pos h, if_neg (by rw [h]; exact he)]
   ·rw [if_neg h, if_neg h]
theorem yv0' (p q : Bs) (n : NodeS) {l : NoL} (hr : yda' l) (hq : yal' q l = none) : yal' p (insT q n l) = if p = q then some n else yal' p l := by
 have h2 := ybh' (yiz' (n := n) hr hq)
 by_cases h : p = q
 ·rw [if_pos h, h]
  exact (ybm' h2).2 ((ydt' q n l).mem_iff.2 k_s)
 ·rw [if_neg h]
  cases hp : yal' p l with
  | some m => exact (ybm' h2).2 ((ydt' q n l).mem_iff.2 (k_n _ ((ybm' (ybh' hr)).1 hp)))
  | none =>
   refine ydn'.2 fun e he => ?_
   rcases yi3' he with rfl | he
   ·exact fun hh => h hh.symm
   ·exact ydn'.1 hp e he
theorem ysy' (p q : Bs) (f : NodeS → NodeS) (l : NoL) : yal' p (atUp q f l) = if yat' q = some p then (yal' p l).map f else yal' p l := by
 unfold atUp
 cases hq : yat' q with
 | none => rw [if_neg (by simp)]
 | some u =>
  dsimp only
  cases hu : yal' u l with
  | none =>
   dsimp only
   by_cases h : u = p
   ·rw [if_pos (by rw [h]), ← h, hu]; rfl
   ·rw [if_neg (by simpa using h)]
  | some m =>
   dsimp only
   rw [yci']
   by_cases h : p = u
   ·rw [if_pos h, if_pos (by rw [h]), h, hu]; rfl
   ·rw [if_neg h, if_neg (by simpa using fun hh => h hh.symm)]
theorem yc0' (p q : Bs) (n : NodeS) {l : NoL} (hr : yda' l) (hq : yal' q l = none) :
  yal' p (layT q n l) = if p = q then some n else if yat' q = some p then (yal' p l).map (fun m => addS m (ye8' q)) else yal' p l := by
 unfold layT
 rw [ysy', yv0' p q n hr hq]
 by_cases h : p = q
 ·rw [if_pos h, if_pos h, if_neg (by rw [h]; exact fun hh => ymy' hh rfl)]
 ·rw [if_neg h, if_neg h]
theorem ycq' (p q : Bs) (l : NoL) : yal' p (remT q l) = if p = q then none else if yat' q = some p then (yal' p l).map (fun m => remS m (ye8' q)) else yal' p l := by
 unfold remT
 rw [ysy', ypf']
 by_cases h : p = q
 ·rw [if_pos h, if_pos h, if_neg (by rw [h]; exact fun hh => ymy' hh rfl)]
 ·rw [if_neg h, if_neg h]
theorem ysr' (q : Bs) (n : NodeS) (l : NoL) : (layT q n l).length = l.length + 1 := by unfold layT; rw [yer', yk7']
theorem ypa' {p : Bs} {n : NodeS} : ∀ {l : NoL}, (l.map (·.1)).Nodup → yal' p l = some n → (delT p l).length + 1 = l.length
 | [], _, h => by cases h
 | e :: l, hn, h => by
  rw [List.map_cons, List.nodup_cons] at hn
  rw [ydu'] at h
  by_cases he : e.1 = p
  ·have hs : delT p (e :: l) = delT p l := by unfold delT; rw [List.filter_cons, if_neg (by simp [he])]
   have : yal' p l = none := ydn'.2 fun x hx hh => hn.1 (by rw [he, ← hh]; exact List.mem_map_of_mem hx)
   rw [hs, yl7' this]
   rfl
  ·rw [if_neg he] at h
   have hs : delT p (e :: l) = e :: delT p l := by unfold delT; rw [List.filter_cons, if_pos (by simp [he])]
   rw [hs, List.length_cons, List.length_cons, ypa' hn.2 h]
theorem ypv' {p : Bs} {n : NodeS} {l : NoL} (hr : yda' l) (h : yal' p l = some n) : (remT p l).length + 1 = l.length := by
 unfold remT; rw [yer']; exact ypa' (ybh' hr) h
theorem ytr' (p : Bs) (l : NoL) : (remT p l).length ≤ l.length := by
 unfold remT; rw [yer']; exact List.length_filter_le _ _
theorem ytm' : ∀ (l : List Bs) (S : TreeS), (purT l S).l.length ≤ S.l.length
 | [], _ => Nat.le_refl _
 | p :: l, S => Nat.le_trans (ytm' l { S with l := remT p S.l }) (ytr' p S.l)
theorem y0h' (S : TreeS) (o : OpS) (sess zxid : Int) : (doT S o sess zxid).2.l.length ≤ S.l.length + 1 := by
 unfold doT
 split
 ·exact Nat.le_succ _
 ·split
  ·exact Nat.le_succ _
  ·split
   ·unfold yb1'
    split
    ·exact Nat.le_succ _
    ·show (layT _ _ _).length ≤ _
     unfold layT
     rw [yer', yk7']
     exact Nat.le_refl _
   ·split
    ·unfold yby'
     split
     ·exact Nat.le_succ _
     ·split
      ·exact Nat.le_succ _
      ·split
       ·exact Nat.le_succ _
       ·split
        ·show (remT _ _).length ≤ _
         unfold remT
         rw [yer']
         exact Nat.le_trans (List.length_filter_le _ _) (Nat.le_succ _)
        ·split
         ·show (setT _ _ _).length ≤ _
          rw [yfv']
          exact Nat.le_succ _
         ·exact Nat.le_succ _
    ·exact Nat.le_succ _
theorem yl5' : ∀ (l : Bs), ∀ x ∈ cutS l, (47 : UInt8) ∉ x
 | [], x, h => by
  rw [show cutS [] = [[]] from rfl, List.mem_singleton] at h
  subst h
  simp
 | c :: r, x, h => by
  have ih := yl5' r
  unfold cutS at h
  split at h
  ·rcases List.mem_cons.1 h with rfl | h
   ·simp
   ·exact ih x h
  ·rename_i hc
   split at h
   ·rename_i h0; exact absurd h0 (yeu' r)
   ·rename_i y t hy
    rw [hy] at ih
    rcases List.mem_cons.1 h with rfl | h
    ·intro hh
     rcases List.mem_cons.1 hh with hh | hh
     ·exact hc hh.symm
     ·exact ih y k_s hh
    ·exact ih x (k_n _ h)
theorem yiu' : ∀ (r : List Bs) (x : Bs), (∀ y ∈ x :: r, (47 : UInt8) ∉ y) → cutS (x ++ ofP r) = x :: r
 | r, c :: x, h => by
  have h1 : (47 : UInt8) ∉ c :: x := h _ k_s
  have ih := yiu' r x (fun y hy => by
   rcases List.mem_cons.1 hy with rfl | hy
   ·exact fun hh => h1 (k_n _ hh)
   ·exact h y (k_n _ hy))
  rw [List.cons_append]
  unfold cutS
  rw [if_neg (fun hc => h1 (by rw [← hc]; exact k_s)), ih]
 | [], [], _ => rfl
 | y :: r, [], h => by
  have ih := yiu' r y (fun z hz => h z (k_n _ hz))
  have e : ([] : Bs) ++ ofP (y :: r) = 47 :: (y ++ ofP r) := rfl
  rw [e]
  unfold cutS
  rw [if_pos rfl, ih]
theorem yoi' {p u : Bs} (h : yat' p = some u) : ybn' u = true := by
 have hl := yj9' h
 unfold yat' at h
 split at h
 ·cases h
 ·rename_i h1
  injection h with h
  have hg : ybn' p = true := yq2' (by intro e; rw [e] at h1; exact h1 (by decide))
  have hc : ybs' p = cutS (p.drop 1) := by unfold ybs'; rw [if_pos hg]
  have hnames : ∀ x ∈ ybs' p, yih' x = true := by
   rw [hc]
   cases p with
   | nil => cases hg
   | cons c r =>
    unfold ybn' at hg
    simp only [Bool.and_eq_true, decide_eq_true_eq] at hg
    exact List.all_eq_true.1 hg.1.2
  have hfew : (ybs' p).length ≤ 8 := by
   rw [hc]
   cases p with
   | nil => cases hg
   | cons c r =>
    unfold ybn' at hg
    simp only [Bool.and_eq_true, decide_eq_true_eq] at hg
    exact hg.2
  cases hd : (ybs' p).dropLast with
  | nil =>
   exfalso
   have := congrArg List.length hd
   rw [List.length_dropLast] at this
   simp at this
   omega
  | cons x r =>
   rw [hd] at h
   have hin : ∀ y ∈ x :: r, y ∈ ybs' p := fun y hy => List.dropLast_subset _ (by rw [hd]; exact hy)
   have he : u = 47 :: (x ++ ofP r) := by rw [← h]; rfl
   have hcut : cutS (x ++ ofP r) = x :: r := yiu' r x fun y hy => yl5' (p.drop 1) y (by rw [← hc]; exact hin y hy)
   have hlen : (x :: r).length ≤ 8 := by
    rw [← hd, List.length_dropLast]; omega
   rw [he] at hl ⊢
   unfold ybn'
   dsimp only
   rw [hcut]
   simp only [Bool.and_eq_true, decide_eq_true_eq]
   exact ⟨⟨⟨trivial, by simpa using hl⟩, List.all_eq_true.2 fun y hy => hnames y (hin y hy)⟩, hlen⟩
end Go.Av

namespace Go.Av
open Go.RowKit
def FarW (W : List Bs) (p : Bs) : Prop := ∀ q ∈ W, ydd' p q = false
theorem FarW.no {W : List Bs} {p : Bs} (h : FarW W p) : p ∉ W ∧ (∀ u, yat' p = some u → u ∉ W) ∧ ∀ q ∈ W, yat' q ≠ some p := by
 refine ⟨fun hp => ?_, fun u hu hm => ?_, fun q hq he => ?_⟩
 ·have := h p hp; unfold ydd' at this; simp at this
 ·have := h u hm; unfold ydd' at this; rw [hu] at this; simp at this
 ·have := h q hq; unfold ydd' at this; rw [he] at this; simp at this
structure Keep (W : List Bs) (Y Y' : TreeS) : Prop where
 at_ : ∀ p ∈ W, yal' p Y'.l = yal' p Y.l
 kid : ∀ p ∈ W, ∀ q, yat' q = some p → (yal' q Y'.l).isSome = (yal' q Y.l).isSome
 up : ∀ p ∈ W, ∀ u, yat' p = some u → ∀ n, yal' u Y.l = some n → ∃ n', yal' u Y'.l = some n' ∧ n'.owner = n.owner
theorem Keep.rfl (W : List Bs) (Y : TreeS) : Keep W Y Y := ⟨fun _ _ => _root_.rfl, fun _ _ _ _ => _root_.rfl, fun _ _ _ _ n h => ⟨n, h, _root_.rfl⟩⟩
theorem Keep.trans {W : List Bs} {X Y Z : TreeS} (h : Keep W X Y) (h2 : Keep W Y Z) : Keep W X Z :=
 ⟨fun p hp => (h2.at_ p hp).trans (h.at_ p hp), fun p hp q hq => (h2.kid p hp q hq).trans (h.kid p hp q hq), fun p hp u hu n hn => by
  obtain ⟨n1, a1, a2⟩ := h.up p hp u hu n hn
  obtain ⟨n2, b1, b2⟩ := h2.up p hp u hu n1 a1
  exact ⟨n2, b1, b2.trans a2⟩⟩
theorem yfj' (n : NodeS) (s : Bs) : (addS n s).owner = n.owner := by unfold addS; split <;> rfl
theorem yvu' {W : List Bs} {S : TreeS} {q : Bs} {n : NodeS} (hr : yda' S.l) (h0 : yal' q S.l = none) (h1 : q ∉ W) (h2 : ∀ u, yat' q = some u → u ∉ W) : Keep W S { S with l := layT q n S.l } := by
 refine ⟨fun p hp => ?_, fun p hp k hk => ?_, fun p hp u hu m hm => ?_⟩
 ·rw [yc0' p q n hr h0, if_neg (fun e => h1 (by rw [← e]; exact hp)), if_neg (fun e => h2 p e hp)]
 ·rw [yc0' k q n hr h0, if_neg (fun e => h2 p (by rw [← e]; exact hk) hp)]
  split
  ·cases yal' k S.l <;> rfl
  ·rfl
 ·rw [yc0' u q n hr h0, if_neg (fun e => by rw [e, h0] at hm; cases hm)]
  split
  ·rw [hm]; exact ⟨_, rfl, yfj' _ _⟩
  ·exact ⟨m, hm, rfl⟩
theorem ype' {W : List Bs} {S : TreeS} {q : Bs} (h : FarW W q) : Keep W S { S with l := remT q S.l } := by
 obtain ⟨h1, h2, h3⟩ := h.no
 refine ⟨fun p hp => ?_, fun p hp k hk => ?_, fun p hp u hu m hm => ?_⟩
 ·rw [ycq' p q, if_neg (fun e => h1 (by rw [← e]; exact hp)), if_neg (fun e => h2 p e hp)]
 ·rw [ycq' k q, if_neg (fun e => h2 p (by rw [← e]; exact hk) hp)]
  split
  ·cases yal' k S.l <;> rfl
  ·rfl
 ·rw [ycq' u q, if_neg (fun e => h3 p hp (by rw [← e]; exact hu))]
  split
  ·rw [hm]; exact ⟨_, rfl, yeo' _ _⟩
  ·exact ⟨m, hm, rfl⟩
theorem yvv' {W : List Bs} {S : TreeS} {q : Bs} {n n0 : NodeS} (h1 : q ∉ W) (h0 : yal' q S.l = some n0) (ho : n.owner = n0.owner) : Keep W S { S with l := setT q n S.l } := by
 refine ⟨fun p hp => ?_, fun p hp k hk => ?_, fun p hp u hu m hm => ?_⟩
 ·rw [yci' p q, if_neg (fun e => h1 (by rw [← e]; exact hp))]
 ·rw [yci' k q]
  split
  ·rename_i e; rw [e]; cases yal' q S.l <;> rfl
  ·rfl
 ·rw [yci' u q]
  split
  ·rename_i e
   rw [e, h0] at hm
   injection hm with hm
   rw [h0]
   exact ⟨_, rfl, by rw [← hm]; exact ho⟩
  ·exact ⟨m, hm, rfl⟩
theorem ydv' {S : TreeS} {o : OpS} (h : (ya4' S o).1 = 0) :
  yal' (ya4' S o).2 S.l = none ∧ (S.l.length : Int) < S.room ∧ yat' (ya4' S o).2 = yat' o.p ∧ ((ya4' S o).2 = o.p ∨ ∃ up m, yat' o.p = some up ∧ seqF o.flags = true ∧ yal' up S.l = some m ∧ yb0' o.p m.next = some (ya4' S o).2) ∧
   ∀ up, yat' o.p = some up → ∃ m, yal' up S.l = some m ∧ m.owner = 0 := by
 have hend : ∀ p, (endT S p).1 = 0 → endT S p = (0, p) ∧ yal' p S.l = none ∧ (S.l.length : Int) < S.room := fun p h => by
  unfold endT at h ⊢
  split at h
  ·cases h
  ·rename_i h1
   split at h
   ·cases h
   ·rename_i h2
    rw [if_neg h1, if_neg h2]
    refine ⟨rfl, ?_, by omega⟩
    cases hl : yal' p S.l with
    | none => rfl
    | some _ => rw [hl] at h1; exact absurd rfl h1
 unfold ya4' at h ⊢
 cases hup : yat' o.p with
 | none =>
  simp only [hup] at h ⊢
  obtain ⟨e1, e2, e3⟩ := hend _ h
  rw [e1]
  exact ⟨e2, e3, hup, .inl rfl, by simp⟩
 | some up =>
  simp only [hup] at h ⊢
  cases hn : yal' up S.l with
  | none => simp only [hn] at h; exact absurd h (by decide)
  | some n =>
   simp only [hn] at h ⊢
   by_cases how : n.owner ≠ 0
   ·rw [if_pos how] at h; exact absurd h (by decide)
   rw [if_neg how] at h ⊢
   have how : n.owner = 0 := Decidable.not_not.1 how
   have hall : ∀ up', some up = some up' → ∃ m, yal' up' S.l = some m ∧ m.owner = 0 := fun up' e => by injection e with e; subst e; exact ⟨n, hn, how⟩
   by_cases hsq : seqF o.flags = true
   ·rw [if_pos hsq] at h ⊢
    cases hq : yb0' o.p n.next with
    | none => simp only [hq] at h; exact absurd h (by decide)
    | some q =>
     simp only [hq] at h ⊢
     obtain ⟨e1, e2, e3⟩ := hend _ h
     rw [e1]
     exact ⟨e2, e3, (ygs' hq).1.trans hup, .inr ⟨up, n, rfl, hsq, hn, hq⟩, hall⟩
   ·rw [if_neg hsq] at h ⊢
    obtain ⟨e1, e2, e3⟩ := hend _ h
    rw [e1]
    exact ⟨e2, e3, hup, .inl rfl, hall⟩
theorem yh6' (o : OpS) : o.p ∈ yay' o := by
 unfold yay'
 split
 ·simp
 ·split <;> simp
theorem ylu' {o : OpS} {up : Bs} (h : yat' o.p = some up) (hk : o.kind = 1) (hs : seqF o.flags = true) : up ∈ yay' o := by
 unfold yay'
 rw [h]
 dsimp only
 rw [if_pos (by rw [hk, hs]; rfl)]
 simp
theorem yy3' {K : Nat} {W : List Bs} {S : TreeS} (hB : TreeB K S) {o : OpS} (hf : ∀ p ∈ yay' o, FarW W p) (sess z : Int) : Keep W S (doT S o sess z).2 := by
 have hs := hf _ (yh6' o)
 obtain ⟨h1, h2, h3⟩ := hs.no
 unfold doT
 split
 ·exact .rfl W S
 ·split
  ·exact .rfl W S
  ·split
   ·rename_i hk
    unfold yb1'
    split
    ·exact .rfl W S
    ·rename_i hz
     obtain ⟨a1, a2, a3, a4, a5⟩ := ydv' (S := S) (o := o) (by omega)
     refine yvu' hB.rise a1 ?_ (by rw [a3]; exact h2)
     rcases a4 with e | ⟨up, m, e1, e2, e3, e4⟩
     ·rw [e]; exact h1
     ·intro hin
      exact (hf up (ylu' e1 hk e2)).no.2.2 _ hin (by rw [a3]; exact e1)
   ·split
    ·unfold yby'
     split
     ·exact .rfl W S
     ·rename_i n hn
      split
      ·exact .rfl W S
      ·split
       ·exact .rfl W S
       ·split
        ·exact ype' hs
        ·split
         ·exact yvv' h1 hn rfl
         ·exact .rfl W S
    ·exact .rfl W S
theorem yj5' {W : List Bs} {sess z : Int} : ∀ (l : List OpS) {K : Nat} {S : TreeS}, TreeB K S → (∀ o ∈ l, ∀ p ∈ yay' o, FarW W p) → Keep W S (yaq' sess z l S).2.1
 | [], _, S, _, _ => .rfl W S
 | o :: l, K, S, hB, hf => by
  have h1 := yy3' hB (hf o k_s) sess z
  unfold yaq'
  split
  ·exact h1
  ·exact h1.trans (yj5' l (do_b hB o sess z) fun x hx => hf x (k_n _ hx))
theorem ymh' {K : Nat} {W : List Bs} {S : TreeS} (hB : TreeB K S) {l : List OpS} (hf : ∀ o ∈ l, ∀ p ∈ yay' o, FarW W p) (sess z : Int) : Keep W S (ybv' S sess z l).2.1 := by
 unfold ybv'
 split
 ·exact .rfl W S
 ·split
  ·exact .rfl W S
  ·split
   ·exact .rfl W S
   ·exact yj5' l hB hf
theorem ymi' {K : Nat} {W : List Bs} {S : TreeS} (hB : TreeB K S) {l : List OpS} (hf : ∀ o ∈ l, ∀ p ∈ yay' o, FarW W p) (sess num z : Int) : Keep W S (ya3' S sess num z l).2 := by
 unfold ya3'
 split
 ·exact .rfl W S
 ·exact ymh' hB hf sess z
theorem ypd' {W : List Bs} : ∀ (l : List Bs) {S : TreeS}, (∀ p ∈ l, FarW W p) → Keep W S (purT l S)
 | [], S, _ => .rfl W S
 | p :: l, S, hf => (ype' (hf p k_s)).trans (ypd' l (S := { S with l := remT p S.l }) fun x hx => hf x (k_n _ hx))
def ydb' (n : NodeS) : NodeS := { n with made := 0, changed := 0 }
theorem yu4' (n : NodeS) (s : Bs) : ydb' (addS n s) = addS (ydb' n) s := by unfold addS ydb'; dsimp only; split <;> rfl
theorem yu5' (n : NodeS) (s : Bs) : ydb' (remS n s) = remS (ydb' n) s := by unfold remS ydb'; dsimp only; split <;> rfl
theorem yqj' {n n' : NodeS} (h : ydb' n = ydb' n') (z z' : Int) (d : ByteArray) : ydb' (ycu' n z d) = ydb' (ycu' n' z' d) := by
 unfold ydb' at h
 unfold ydb' ycu'
 injection h with h1 h2 h3 h4 h5 h6 h7 h8
 dsimp only
 rw [h3, h4, h5, h7, h8]
structure Sim (W : List Bs) (X Y : TreeS) : Prop where
 at_ : ∀ p ∈ W, (yal' p X.l).map ydb' = (yal' p Y.l).map ydb'
 kid : ∀ p ∈ W, ∀ q, yat' q = some p → (yal' q X.l).isSome = (yal' q Y.l).isSome
 up : ∀ p ∈ W, ∀ u, yat' p = some u → ∀ n, yal' u X.l = some n → ∃ n', yal' u Y.l = some n' ∧ n'.owner = n.owner
theorem Sim.rfl (W : List Bs) (X : TreeS) : Sim W X X := ⟨fun _ _ => _root_.rfl, fun _ _ _ _ => _root_.rfl, fun _ _ _ _ n h => ⟨n, h, _root_.rfl⟩⟩
theorem Sim.keep {W : List Bs} {X Y Y' : TreeS} (h : Sim W X Y) (h2 : Keep W Y Y') : Sim W X Y' :=
 ⟨fun p hp => by rw [h2.at_ p hp]; exact h.at_ p hp, fun p hp q hq => by rw [h2.kid p hp q hq]; exact h.kid p hp q hq, fun p hp u hu n hn => by
  obtain ⟨n1, a1, a2⟩ := h.up p hp u hu n hn
  obtain ⟨n2, b1, b2⟩ := h2.up p hp u hu n1 a1
  exact ⟨n2, b1, b2.trans a2⟩⟩
theorem Sim.node {W : List Bs} {X Y : TreeS} (h : Sim W X Y) {p : Bs} (hp : p ∈ W) {n : NodeS} (hn : yal' p X.l = some n) : ∃ n', yal' p Y.l = some n' ∧ ydb' n = ydb' n' := by
 have h1 := h.at_ p hp
 rw [hn] at h1
 cases hy : yal' p Y.l with
 | none => rw [hy] at h1; cases h1
 | some n' => rw [hy] at h1; injection h1 with h1; exact ⟨n', _root_.rfl, h1⟩
theorem Sim.none {W : List Bs} {X Y : TreeS} (h : Sim W X Y) {p : Bs} (hp : p ∈ W) (hn : yal' p X.l = none) : yal' p Y.l = none := by
 have h1 := h.at_ p hp
 rw [hn] at h1
 cases hy : yal' p Y.l with
 | none => rfl
 | some n' => rw [hy] at h1; cases h1
theorem yzt' {W : List Bs} {X Y : TreeS} (h : Sim W X Y) (hx : yda' X.l) (hy : yda' Y.l) {q : Bs} (h1 : yal' q X.l = none) (h2 : yal' q Y.l = none) {n n' : NodeS} (hn : ydb' n = ydb' n') :
  Sim W { X with l := layT q n X.l } { Y with l := layT q n' Y.l } := by
 refine ⟨fun p hp => ?_, fun p hp k hk => ?_, fun p hp u hu m hm => ?_⟩
 ·rw [yc0' p q n hx h1, yc0' p q n' hy h2]
  split
  ·exact congrArg some hn
  ·split
   ·have := h.at_ p hp
    rw [Option.map_map, Option.map_map]
    have e : (ydb' ∘ fun m => addS m (ye8' q)) = (fun m => addS m (ye8' q)) ∘ ydb' := by funext m; exact yu4' m _
    rw [e, ← Option.map_map, ← Option.map_map, this]
   ·exact h.at_ p hp
 ·rw [yc0' k q n hx h1, yc0' k q n' hy h2]
  split
  ·rfl
  ·split
   ·rw [Option.isSome_map, Option.isSome_map]; exact h.kid p hp k hk
   ·exact h.kid p hp k hk
 ·have hm : yal' u (layT q n X.l) = some m := hm
  show ∃ n'_1, yal' u (layT q n' Y.l) = some n'_1 ∧ _
  rw [yc0' u q n hx h1] at hm
  rw [yc0' u q n' hy h2]
  split at hm
  ·rename_i e
   rw [if_pos e]
   injection hm with hm
   refine ⟨n', rfl, ?_⟩
   rw [← hm]
   exact (congrArg NodeS.owner hn).symm
  ·rename_i e
   rw [if_neg e]
   split at hm
   ·rename_i e2
    rw [if_pos e2]
    obtain ⟨m0, hm0, hm1⟩ := Option.map_eq_some_iff.1 hm
    obtain ⟨n1, a1, a2⟩ := h.up p hp u hu m0 hm0
    rw [a1]
    exact ⟨_, rfl, by rw [yfj', a2, ← hm1, yfj']⟩
   ·rename_i e2
    rw [if_neg e2]
    exact h.up p hp u hu m hm
theorem yzu' {W : List Bs} {X Y : TreeS} (h : Sim W X Y) (q : Bs) : Sim W { X with l := remT q X.l } { Y with l := remT q Y.l } := by
 refine ⟨fun p hp => ?_, fun p hp k hk => ?_, fun p hp u hu m hm => ?_⟩
 ·rw [ycq' p q, ycq' p q]
  split
  ·rfl
  ·split
   ·have := h.at_ p hp
    rw [Option.map_map, Option.map_map]
    have e : (ydb' ∘ fun m => remS m (ye8' q)) = (fun m => remS m (ye8' q)) ∘ ydb' := by funext m; exact yu5' m _
    rw [e, ← Option.map_map, ← Option.map_map, this]
   ·exact h.at_ p hp
 ·rw [ycq' k q, ycq' k q]
  split
  ·rfl
  ·split
   ·rw [Option.isSome_map, Option.isSome_map]; exact h.kid p hp k hk
   ·exact h.kid p hp k hk
 ·have hm : yal' u (remT q X.l) = some m := hm
  show ∃ n'_1, yal' u (remT q Y.l) = some n'_1 ∧ _
  rw [ycq' u q] at hm
  rw [ycq' u q]
  split at hm
  ·cases hm
  ·rename_i e
   rw [if_neg e]
   split at hm
   ·rename_i e2
    rw [if_pos e2]
    obtain ⟨m0, hm0, hm1⟩ := Option.map_eq_some_iff.1 hm
    obtain ⟨n1, a1, a2⟩ := h.up p hp u hu m0 hm0
    rw [a1]
    exact ⟨_, rfl, by rw [yeo', a2, ← hm1, yeo']⟩
   ·rename_i e2
    rw [if_neg e2]
    exact h.up p hp u hu m hm
theorem yzv' {W : List Bs} {X Y : TreeS} (h : Sim W X Y) {q : Bs} {n n' m0 m1 : NodeS} (h1 : yal' q X.l = some m0) (h2 : yal' q Y.l = some m1) (hn : ydb' n = ydb' n') :
  Sim W { X with l := setT q n X.l } { Y with l := setT q n' Y.l } := by
 refine ⟨fun p hp => ?_, fun p hp k hk => ?_, fun p hp u hu m hm => ?_⟩
 ·rw [yci' p q, yci' p q]
  split
  ·rw [h1, h2]; exact congrArg some hn
  ·exact h.at_ p hp
 ·rw [yci' k q, yci' k q]
  split
  ·rw [h1, h2]; rfl
  ·exact h.kid p hp k hk
 ·have hm : yal' u (setT q n X.l) = some m := hm
  show ∃ n'_1, yal' u (setT q n' Y.l) = some n'_1 ∧ _
  rw [yci' u q] at hm
  rw [yci' u q]
  split at hm
  ·rename_i e
   rw [if_pos e]
   rw [h1] at hm
   rw [h2]
   injection hm with hm
   refine ⟨_, rfl, ?_⟩
   rw [← hm]
   exact (congrArg NodeS.owner hn).symm
  ·rename_i e
   rw [if_neg e]
   exact h.up p hp u hu m hm
theorem yr9' {S : TreeS} {p : Bs} (h : yal' p S.l = none) (hl : (S.l.length : Int) < S.room) : endT S p = (0, p) := by
 unfold endT
 rw [if_neg (by rw [h]; decide), if_neg (by omega)]
theorem yt2' {W : List Bs} {X Y : TreeS} (h : Sim W X Y) {o : OpS} (hw : ∀ p ∈ yay' o, p ∈ W) (hk : o.kind = 1) (h0 : (ya4' X o).1 = 0) (hl : (Y.l.length : Int) < Y.room) : ya4' Y o = ya4' X o ∧ yal' (ya4' X o).2 Y.l = none := by
 obtain ⟨a1, -, a3, a4, a5⟩ := ydv' h0
 have hp := hw _ (yh6' o)
 have hno : yal' (ya4' X o).2 Y.l = none := by
  rcases a4 with e | ⟨up, m, e1, e2, e3, e4⟩
  ·rw [e] at a1 ⊢; exact h.none hp a1
  ·have := h.kid up (hw _ (ylu' e1 hk e2)) (ya4' X o).2 (a3.trans e1)
   rw [a1] at this
   cases hy : yal' (ya4' X o).2 Y.l with
   | none => rfl
   | some _ => rw [hy] at this; cases this
 refine ⟨?_, hno⟩
 have hx : ya4' X o = (0, (ya4' X o).2) := Prod.ext h0 rfl
 rw [hx]
 obtain ⟨qq, hqq⟩ : ∃ q, (ya4' X o).2 = q := ⟨_, rfl⟩
 rw [hqq] at hno a4 ⊢
 rcases hpp : yat' o.p with - | up
 ·have e : qq = o.p := by
   rcases a4 with e | ⟨up, m, e1, -⟩
   ·exact e
   ·rw [hpp] at e1; cases e1
  rw [e] at hno ⊢
  unfold ya4'
  rw [hpp]
  exact yr9' hno hl
 ·obtain ⟨m, b1, b2⟩ := a5 up hpp
  obtain ⟨m', c1, c2⟩ := h.up _ hp up hpp m b1
  have c3 : m'.owner = 0 := c2.trans b2
  by_cases hs : seqF o.flags = true
  ·have hup := hw _ (ylu' hpp hk hs)
   obtain ⟨m2, d1, d2⟩ := h.node hup b1
   rw [c1] at d1
   injection d1 with d1
   have hnx : m'.next = m.next := by rw [d1]; exact (congrArg NodeS.next d2).symm
   have hq : yb0' o.p m.next = some qq := by
    rcases a4 with e | ⟨up', m3, e1, -, e3, e4⟩
    ·-- the number is there: the place is not the path itself
     have hz := h0
     have hee : ya4' X o = match yb0' o.p m.next with | none => (1, []) | some q => endT X q := by
      unfold ya4'
      rw [hpp]
      dsimp only
      rw [b1]
      dsimp only
      rw [if_neg (fun hh => hh b2), if_pos hs]
      rfl
     rw [hee] at hz
     cases hq : yb0' o.p m.next with
     | none => rw [hq] at hz; cases hz
     | some q =>
      rw [hq] at hz
      have := yvi' hz
      rw [← hqq, hee, hq]
      exact congrArg some this.symm
    ·rw [hpp] at e1
     injection e1 with e1
     rw [← e1, b1] at e3
     injection e3 with e3
     rw [e3]; exact e4
   unfold ya4'
   rw [hpp]
   dsimp only
   rw [c1]
   dsimp only
   rw [if_neg (fun hh => hh c3), if_pos hs, hnx, hq]
   dsimp only
   exact yr9' hno hl
  ·have e : qq = o.p := by
    rcases a4 with e | ⟨up', m3, -, e2, -⟩
    ·exact e
    ·exact absurd e2 hs
   rw [e] at hno ⊢
   unfold ya4'
   rw [hpp]
   dsimp only
   rw [c1]
   dsimp only
   rw [if_neg (fun hh => hh c3), if_neg hs]
   exact yr9' hno hl
theorem y00' {K K' : Nat} {W : List Bs} {X Y : TreeS} (h : Sim W X Y) (hx : TreeB K X) (hy : TreeB K' Y) {o : OpS} (hw : ∀ p ∈ yay' o, p ∈ W) {sess z z' : Int} (he : (doT X o sess z).1.err = 0) (hz : 0 ≤ z')
  (hl : o.kind = 1 → (Y.l.length : Int) < Y.room) :
  (doT Y o sess z').1.err = 0 ∧ (doT Y o sess z').1.path = (doT X o sess z).1.path ∧ Sim W (doT X o sess z).2 (doT Y o sess z').2 ∧ ((doT Y o sess z').2.l.length : Int) - Y.l.length = ((doT X o sess z).2.l.length : Int) - X.l.length := by
 have hp := hw _ (yh6' o)
 unfold doT at he ⊢
 by_cases h1 : yb5' o ≠ 0
 ·rw [if_pos h1] at he; exact absurd he h1
 rw [if_neg h1] at he
 rw [if_neg h1, if_neg h1]
 by_cases h2 : sess < 1 ∨ z < 0
 ·rw [if_pos h2] at he; exact absurd he (by show (1 : Int) ≠ 0; decide)
 rw [if_neg h2] at he
 rw [if_neg h2, if_neg (show ¬ (sess < 1 ∨ z' < 0) by omega)]
 by_cases h3 : o.kind = 1
 ·rw [if_pos h3] at he
  rw [if_pos h3, if_pos h3]
  unfold yb1' at he ⊢
  by_cases h4 : (ya4' X o).1 ≠ 0
  ·rw [if_pos h4] at he; exact absurd he h4
  have h4' : (ya4' X o).1 = 0 := by omega
  obtain ⟨b1, b2⟩ := yt2' h hw h3 h4' (hl h3)
  rw [if_neg h4, b1, if_neg h4]
  refine ⟨rfl, rfl, ?_, ?_⟩
  ·exact yzt' h hx.rise hy.rise (ydv' h4').1 b2 rfl
  ·show ((layT _ _ _).length : Int) - _ = ((layT _ _ _).length : Int) - _
   rw [ysr', ysr']
   omega
 rw [if_neg h3] at he
 rw [if_neg h3, if_neg h3]
 by_cases h4 : o.kind = 2 ∨ o.kind = 3 ∨ o.kind = 4
 ·rw [if_pos h4] at he
  rw [if_pos h4, if_pos h4]
  unfold yby' at he ⊢
  cases hn : yal' o.p X.l with
  | none => rw [hn] at he; exact absurd he (by show (4 : Int) ≠ 0; decide)
  | some n =>
   obtain ⟨n', c1, c2⟩ := h.node hp hn
   rw [hn] at he
   rw [c1]
   dsimp only at he ⊢
   have hwr : yf4' o n' = yf4' o n := by unfold yf4'; rw [show n'.ver = n.ver from (congrArg NodeS.ver c2).symm]
   have hnm : n'.names = n.names := (congrArg NodeS.names c2).symm
   rw [hwr, hnm]
   by_cases g1 : yf4' o n = true
   ·rw [if_pos g1] at he; exact absurd he (by show (6 : Int) ≠ 0; decide)
   rw [if_neg g1] at he
   rw [if_neg g1, if_neg g1]
   by_cases g2 : o.kind = 2 ∧ 0 < n.names.length
   ·rw [if_pos g2] at he; exact absurd he (by show (7 : Int) ≠ 0; decide)
   rw [if_neg g2, if_neg g2]
   by_cases g3 : o.kind = 2
   ·rw [if_pos g3, if_pos g3]
    refine ⟨rfl, rfl, yzu' h o.p, ?_⟩
    show ((remT _ _).length : Int) - _ = ((remT _ _).length : Int) - _
    have e1 := ypv' hx.rise hn
    have e2 := ypv' hy.rise c1
    omega
   rw [if_neg g3, if_neg g3]
   by_cases g4 : o.kind = 3
   ·rw [if_pos g4, if_pos g4]
    refine ⟨rfl, rfl, yzv' h hn c1 (yqj' c2 _ _ _), ?_⟩
    show ((setT _ _ _).length : Int) - _ = ((setT _ _ _).length : Int) - _
    rw [yfv', yfv']
    omega
   rw [if_neg g4, if_neg g4]
   exact ⟨rfl, rfl, h, by dsimp only; omega⟩
 rw [if_neg h4] at he
 rw [if_neg h4, if_neg h4]
 unfold yi9' at he ⊢
 cases hn : yal' o.p X.l with
 | none => rw [hn] at he; exact absurd he (by show (4 : Int) ≠ 0; decide)
 | some n =>
  obtain ⟨n', c1, c2⟩ := h.node hp hn
  rw [c1]
  exact ⟨rfl, rfl, h, by dsimp only; omega⟩
theorem yr8' (S : TreeS) (o : OpS) (sess z : Int) : (doT S o sess z).2.l.length ≤ S.l.length + (if o.kind = 1 then 1 else 0) := by
 by_cases hk : o.kind = 1
 ·rw [if_pos hk]; exact y0h' S o sess z
 ·rw [if_neg hk]
  unfold doT
  by_cases h1 : yb5' o ≠ 0
  ·rw [if_pos h1]; exact Nat.le_refl _
  rw [if_neg h1]
  by_cases h2 : sess < 1 ∨ z < 0
  ·rw [if_pos h2]; exact Nat.le_refl _
  rw [if_neg h2, if_neg hk]
  by_cases h4 : o.kind = 2 ∨ o.kind = 3 ∨ o.kind = 4
  ·rw [if_pos h4]
   unfold yby'
   split
   ·exact Nat.le_refl _
   ·split
    ·exact Nat.le_refl _
    ·split
     ·exact Nat.le_refl _
     ·split
      ·exact ytr' _ _
      ·split
       ·show (setT _ _ _).length ≤ _; rw [yfv']; exact Nat.le_refl _
       ·exact Nat.le_refl _
  ·rw [if_neg h4]; exact Nat.le_refl _
theorem ynf' {W : List Bs} {sess z z' : Int} (hz : 0 ≤ z') : ∀ (l : List OpS) {K K' : Nat} {X Y : TreeS}, Sim W X Y → TreeB K X → TreeB K' Y → Y.room = X.room → (∀ o ∈ l, ∀ p ∈ yay' o, p ∈ W) → (yaq' sess z l X).2.2 = 0 →
  (((Y.l.length + yan' l : Nat) : Int) ≤ Y.room ∨ Y.l.length ≤ X.l.length) → (yaq' sess z' l Y).2.2 = 0
 | [], _, _, _, _, _, _, _, _, _, _, _ => rfl
 | o :: l, K, K', X, Y, h, hx, hy, hr, hw, he, hl => by
  have he0 := yjg' he
  have hlen : o.kind = 1 → (Y.l.length : Int) < Y.room := fun hk => by
   rcases hl with hl | hl
   ·have : yan' (o :: l) = yan' l + 1 := by
     have := ycw' [o] l
     rw [ydq', if_pos hk] at this
     have e : [o] ++ l = o :: l := rfl
     rw [e] at this; omega
    omega
   ·have hxl : (X.l.length : Int) < X.room := by
     unfold doT at he0
     by_cases h1 : yb5' o ≠ 0
     ·rw [if_pos h1] at he0; exact absurd he0 h1
     rw [if_neg h1] at he0
     by_cases h2 : sess < 1 ∨ z < 0
     ·rw [if_pos h2] at he0; exact absurd he0 (by show (1 : Int) ≠ 0; decide)
     rw [if_neg h2, if_pos hk] at he0
     unfold yb1' at he0
     by_cases h4 : (ya4' X o).1 ≠ 0
     ·rw [if_pos h4] at he0; exact absurd he0 h4
     exact (ydv' (S := X) (o := o) (by omega)).2.1
    omega
  obtain ⟨a1, -, a2, a3⟩ := y00' (z := z) h hx hy (hw o k_s) he0 hz hlen
  rw [yhz' l he0] at he
  rw [yhz' l a1]
  refine ynf' hz l a2 (do_b hx o sess z) (do_b hy o sess z') ?_ (fun x hx => hw x (k_n _ hx)) he ?_
  ·rw [yhj', yhj']; exact hr
  ·rcases hl with hl | hl
   ·left
    rw [yhj']
    have hc : yan' (o :: l) = (if o.kind = 1 then 1 else 0) + yan' l := by
     have := ycw' [o] l
     rw [ydq'] at this
     exact this
    have h5 := yr8' Y o sess z'
    omega
   ·right; omega
end Go.Av

namespace Go.Av
open Go.RowKit
def y03' (e : Bs × NodeS) : Bs × NodeS := (e.1, ydb' e.2)
def y04' (l : NoL) : NoL := l.map y03'
def y0e' (S : TreeS) : TreeS := ⟨S.room, y04' S.l⟩
structure Like (S S' : PartS) : Prop where
 t : y0e' S.t = y0e' S'.t
 held : S.held = S'.held
 wait : S.wait = S'.wait
 closed : S.closed = S'.closed
end Go.Av

namespace Go.Proofs.YtcnkifbjlihaoaaGreatDoor
open Go.RowKit Go.Av
theorem yvo' {sess num : Int} {l : List OpS} (h : mayS sess num l ≠ 0) : getR (putR sess num l) = none := by
 unfold putR
 rw [if_pos h]
 exact yvp'
def locC (id : Int) (ops : List OpS) : CmdS := ⟨1, id, 0, 1, id, ops, [], 0, false⟩
theorem yvs' (k id : Int) (x : Bs) (h1 : -9223372036854775808 ≤ k ∧ k ≤ 9223372036854775807) (h2 : -9223372036854775808 ≤ id ∧ id ≤ 9223372036854775807) : yk6' ((yah' k ++ yah' id) ++ x) = (k, id, x, false) := by
 unfold yk6'
 rw [List.append_assoc, yds' k _ false h1.1 h1.2]
 dsimp only
 rw [yds' id x false h2.1 h2.2]
theorem ywg' {id : Int} (h0 : 0 ≤ id) (h1 : id ≤ 9223372036854775807) (ops : List OpS) : rawC (putC (locC id ops)) =
  (⟨1, id, 0, (ydf' (putR 1 id ops)).1, (ydf' (putR 1 id ops)).2.1, (ydf' (putR 1 id ops)).2.2, [], 0, false⟩, ([], false), (getR (putR 1 id ops)).isNone) := by
 have hp : putC (locC id ops) = (yah' 1 ++ yah' id) ++ yd2' (putR 1 id ops) := by unfold putC; rw [if_pos (show (locC id ops).kind = 1 from rfl)]; rfl
 have ht := yh4' 40000 (putR 1 id ops) [] false (by have := ygy' 1 id ops; omega) (by omega)
 rw [List.append_nil] at ht
 unfold rawC
 rw [hp, yvs' 1 id _ (by omega) (by omega)]
 dsimp only
 rw [if_pos rfl, ht]
theorem yvn' {id : Int} (h0 : 1 ≤ id) (h1 : id ≤ 9223372036854775807) {ops : List OpS} (hf : ∀ o ∈ ops, FitO o) : getC (putC (locC id ops)) = if mayS 1 id ops = 0 then some (locC id ops) else none := by
 unfold getC
 rw [ywg' (by omega) h1]
 by_cases hm : mayS 1 id ops = 0
 ·have hg := yvq' hm (by omega) h1 hf
  unfold ydf'
  rw [hg, if_pos hm]
  dsimp only [Option.getD, Option.isNone]
  rw [if_pos ⟨rfl, rfl, rfl⟩]
  rfl
 ·rw [yvo' hm, if_neg hm, if_neg]
  rintro ⟨h, -⟩
  cases h
theorem y0w' {c c' : CmdS} (h : getC (putC c) = some c) (h' : getC (putC c') = some c') (hne : c.kind ≠ c'.kind ∨ c.id ≠ c'.id) : putC c ≠ putC c' := by
 intro e
 rw [e, h'] at h
 injection h with h
 rcases hne with h1 | h1
 ·exact h1 (by rw [h])
 ·exact h1 (by rw [h])
theorem yqw' {b : Bs} {K : List (Bs × OutS)} (h : ∀ e ∈ K, e.1 ≠ b) : yhr' b K = none := by
 unfold yhr'
 have : K.find? (fun e => decide (e.1 = b)) = none := List.find?_eq_none.2 fun e he => by simpa using h e he
 rw [this]
 rfl
theorem ywc' {S : ShardS} {id : Int} (h0 : 1 ≤ id) (h1 : id ≤ 9223372036854775807) {ops : List OpS} (hf : ∀ o ∈ ops, FitO o) (hk : ∀ e ∈ S.known, ∃ c, getC (putC c) = some c ∧ e.1 = putC c ∧ (c.kind ≠ 1 ∨ c.id ≠ id)) :
  ya8' S (putC (locC id ops)) = if mayS 1 id ops = 0 then (⟨1, id, (yb4' S.p 1 id ops).1, 0, 0, [], false⟩, { S with p := (yb4' S.p 1 id ops).2, played := S.played + 1, known := S.known ++ [(putC (locC id ops), ⟨1, id, (yb4' S.p 1 id ops).1, 0, 0, [], false⟩)] })
   else (badO, { S with played := S.played + 1 }) := by
 have hg := yvn' h0 h1 hf
 unfold ya8'
 by_cases hm : mayS 1 id ops = 0
 ·rw [if_pos hm] at hg
  have hl : yhr' (putC (locC id ops)) S.known = none := yqw' fun e he => by
   obtain ⟨c, c1, c2, c3⟩ := hk e he
   rw [c2]
   exact y0w' c1 hg c3
  rw [hg, if_pos hm]
  dsimp only
  rw [hl]
  dsimp only
  unfold doC
  rw [if_pos (show (locC id ops).kind = 1 from rfl)]
  rfl
 ·rw [if_neg hm] at hg
  rw [hg, if_neg hm]
end Go.Proofs.YtcnkifbjlihaoaaGreatDoor

namespace Go.Av
open Go.RowKit
def yif' (ops : List OpS) : List Bs := ops.flatMap yay'
theorem yri' {o : OpS} (h : ybn' o.p = true) : ∀ p ∈ yay' o, ybn' p = true := by
 intro p hp
 unfold yay' at hp
 split at hp
 ·rw [List.mem_singleton] at hp; rw [hp]; exact h
 ·rename_i up hup
  split at hp
  ·rcases List.mem_cons.1 hp with hp | hp
   ·rw [hp]; exact h
   ·rw [List.mem_singleton] at hp; rw [hp]; exact yoi' hup
  ·rw [List.mem_singleton] at hp; rw [hp]; exact h
theorem ysf' {o : OpS} (h : yb5' o = 0) : ybn' o.p = true := (yc2' (ydm' h).1).2.2.1
theorem ys4' (p : Bs) : ydd' p p = true := by unfold ydd'; simp
theorem yga' {H : ybx'} {who : Int} {p : Bs} (h : ybp' H who p = false) (hg : ybn' p = true) : ∀ e ∈ H, e.2 ≠ who → ydd' p e.1 = false := by
 intro e he hw
 unfold ybp' at h
 rw [hg, Bool.true_and] at h
 have := List.any_eq_false.1 h e he
 cases hn : ydd' p e.1 with
 | false => rfl
 | true => exact absurd (by simp [hw, hn]) this
theorem yqb' {H : ybx'} {id : Int} {ops : List OpS} (h : yes' H id ops = none) : ∀ o ∈ ops, ∀ p ∈ yay' o, ybp' H id p = false := by
 intro o ho p hp
 have h1 := List.findIdx?_eq_none_iff.1 h o ho
 have h2 := List.any_eq_false.1 h1 p hp
 simpa using h2
theorem ywr' {H : ybx'} {p : Bs} {who : Int} {e : Bs × Int} (he : e ∈ H) (hne : e.1 ≠ p ∨ e.2 = who) : e ∈ setH H p who := by
 unfold setH
 by_cases h : (H.any fun e => decide (e.1 = p)) = true
 ·rw [if_pos h]
  refine List.mem_map.2 ⟨e, he, ?_⟩
  by_cases hp : e.1 = p
  ·rw [if_pos hp]
   rcases hne with h1 | h1
   ·exact absurd hp h1
   ·rw [← h1, ← hp]
  ·rw [if_neg hp]
 ·rw [if_neg h]
  exact List.mem_append_left _ he
theorem yme' {who : Int} {e : Bs × Int} : ∀ (ps : List Bs) {H : ybx'}, e ∈ H → ((∀ p ∈ ps, e.1 ≠ p) ∨ e.2 = who) → e ∈ ps.foldl (fun H p => setH H p who) H
 | [], _, h, _ => h
 | p :: ps, H, h, hne => yme' ps (ywr' h (hne.imp (fun g => g p k_s) id)) (hne.imp (fun g q hq => g q (k_n _ hq)) id)
theorem ykw' {H : ybx'} {who : Int} {ps : List Bs} (h : ¬ (ydi' H who ps).isSome = true) : ∀ p ∈ ps, ybn' p = true ∧ ybp' H who p = false := by
 unfold ydi' at h
 split at h
 ·exact absurd rfl h
 ·rename_i h1
  intro p hp
  have a := List.find?_eq_none.1 h1 p hp
  have b := List.find?_eq_none.1 (by cases hq : ps.find? (fun p => ybp' H who p) with | none => rfl | some _ => rw [hq] at h; exact absurd rfl h) p hp
  exact ⟨by simpa using a, by simpa using b⟩
theorem yuf' {H : ybx'} {who : Int} {ps : List Bs} {e : Bs × Int} (he : e ∈ H) : e ∈ yc5' H who ps := by
 unfold yc5'
 split
 ·exact he
 ·rename_i h
  refine yme' ps he ?_
  by_cases hw : e.2 = who
  ·exact .inr hw
  ·refine .inl fun p hp e1 => ?_
   obtain ⟨g1, g2⟩ := ykw' h p hp
   have := yga' g2 g1 e he hw
   rw [e1, ys4'] at this
   cases this
theorem ymm' {W : yd9'} {id : Int} {x : WaitS} (h : yed' W id = some x) : (id, x) ∈ W := by
 unfold yed' at h
 obtain ⟨e, h1, h2⟩ := Option.map_eq_some_iff.1 h
 have h3 := List.find?_some h1
 have h4 : e.1 = id := by simpa using h3
 have h5 := List.mem_of_find?_eq_some h1
 rw [← h4, ← h2]
 exact h5
theorem ysx' {W : yd9'} {id : Int} {x : WaitS} {e : Int × WaitS} (h : yed' W id = some x) : yed' (W ++ [e]) id = some x := by
 unfold yed' at h ⊢
 obtain ⟨y, h1, h2⟩ := Option.map_eq_some_iff.1 h
 rw [List.find?_append, h1]
 exact congrArg some h2
theorem ysv' {W : yd9'} {id i : Int} (hne : i ≠ id) : yed' (delW W id) i = yed' W i := by
 unfold yed' delW
 rw [List.find?_filter]
 congr 1
 congr 1
 funext e
 by_cases h : e.1 = i
 ·simp [h, hne]
 ·simp [h]
def yhi' (e : Int × WaitS) : Nat := if e.2.fails then 0 else yan' e.2.ops
theorem ycd' (e : Int × WaitS) (W : yd9') : ya2' (e :: W) = yhi' e + ya2' W := by unfold ya2' yhi'; rw [List.map_cons, List.sum_cons]
theorem ynr' (W : yd9') (e : Int × WaitS) : ya2' (W ++ [e]) = ya2' W + yhi' e := by
 unfold ya2' yhi'
 rw [List.map_append, List.sum_append]
 simp
theorem yku' (id : Int) : ∀ W : yd9', ya2' (delW W id) ≤ ya2' W
 | [] => Nat.le_refl _
 | e :: W => by
  have ih := yku' id W
  unfold delW at ih ⊢
  rw [List.filter_cons]
  split
  ·rw [ycd', ycd']; omega
  ·rw [ycd']; omega
theorem yjl' {id : Int} {x : WaitS} : ∀ {W : yd9'}, yed' W id = some x → ya2' (delW W id) + yhi' (id, x) ≤ ya2' W
 | [], h => by cases h
 | e :: W, h => by
  by_cases he : e.1 = id
  ·have h1 : yed' (e :: W) id = some e.2 := by unfold yed'; rw [List.find?_cons]; simp [he]
   rw [h1] at h
   injection h with h
   have h2 : delW (e :: W) id = delW W id := by unfold delW; rw [List.filter_cons, if_neg (by simp [he])]
   have h3 := yku' id W
   rw [h2, ycd']
   have h4 : yhi' (id, x) = yhi' e := by unfold yhi'; rw [← h]
   omega
  ·have hb : (e.1 == id) = false := by simpa using he
   have h1 : yed' (e :: W) id = yed' W id := by unfold yed'; rw [List.find?_cons, hb]
   rw [h1] at h
   have ih := yjl' h
   have h2 : delW (e :: W) id = e :: delW W id := by unfold delW; rw [List.filter_cons, if_pos (by simp [he])]
   rw [h2, ycd', ycd']
   omega
theorem yns' {e : Int × WaitS} : ∀ {W : yd9'}, e ∈ W → yhi' e ≤ ya2' W
 | y :: W, h => by
  rw [ycd']
  rcases List.mem_cons.1 h with rfl | h
  ·omega
  ·have := yns' h; omega
theorem yl4' (o : OpS) (l : List OpS) : yan' (o :: l) = (if o.kind = 1 then 1 else 0) + yan' l := by
 have := ycw' [o] l
 rw [ydq'] at this
 exact this
theorem yni' {sess z : Int} : ∀ (l : List OpS) (S : TreeS), (yaq' sess z l S).2.1.l.length ≤ S.l.length + yan' l
 | [], _ => Nat.le_refl _
 | o :: l, S => by
  have h1 := yr8' S o sess z
  have h2 := yni' (sess := sess) (z := z) l (doT S o sess z).2
  rw [yl4']
  unfold yaq'
  split
  ·dsimp only; omega
  ·dsimp only; omega
theorem yph' (S : TreeS) (sess z : Int) (l : List OpS) : (ybv' S sess z l).2.1.l.length ≤ S.l.length + yan' l := by
 unfold ybv'
 split
 ·dsimp only; omega
 ·split
  ·dsimp only; omega
  ·split
   ·dsimp only; omega
   ·exact yni' l S
theorem yol' (S : TreeS) (sess num z : Int) (l : List OpS) : (ya3' S sess num z l).2.l.length ≤ S.l.length + yan' l := by
 unfold ya3'
 split
 ·dsimp only; omega
 ·exact yph' S sess z l
def OwnK (s : Int) (S S' : TreeS) : Prop := ∀ p n, yal' p S'.l = some n → n.owner = s → ∃ n0, yal' p S.l = some n0 ∧ n0.owner = s
theorem OwnK.rfl (s : Int) (S : TreeS) : OwnK s S S := fun _ n h ho => ⟨n, h, ho⟩
theorem OwnK.trans {s : Int} {X Y Z : TreeS} (h : OwnK s X Y) (h2 : OwnK s Y Z) : OwnK s X Z := fun p n hn ho => by
 obtain ⟨m, h3, h4⟩ := h2 p n hn ho
 exact h p m h3 h4
theorem y0q' {K : Nat} {S : TreeS} (hB : TreeB K S) (o : OpS) {sess s : Int} (z : Int) (hs : 0 < s) (hne : s ≠ sess) : OwnK s S (doT S o sess z).2 := by
 unfold doT
 split
 ·exact .rfl s S
 ·split
  ·exact .rfl s S
  ·split
   ·unfold yb1'
    split
    ·exact .rfl s S
    ·rename_i hz
     obtain ⟨a1, -⟩ := ydv' (S := S) (o := o) (by omega)
     intro p n hn ho
     have hn : yal' p (layT (ya4' S o).2 (yn1' o sess z) S.l) = some n := hn
     rw [yc0' p _ _ hB.rise a1] at hn
     split at hn
     ·exfalso
      injection hn with hn
      rw [← hn] at ho
      have ho : (if ephF o.flags then sess else 0) = s := ho
      split at ho <;> omega
     ·split at hn
      ·obtain ⟨m, h1, h2⟩ := Option.map_eq_some_iff.1 hn
       exact ⟨m, h1, by rw [← ho, ← h2, yfj']⟩
      ·exact ⟨n, hn, ho⟩
   ·split
    ·unfold yby'
     split
     ·exact .rfl s S
     ·rename_i n0 hn0
      split
      ·exact .rfl s S
      ·split
       ·exact .rfl s S
       ·split
        ·intro p n hn ho
         have hn : yal' p (remT o.p S.l) = some n := hn
         rw [ycq'] at hn
         split at hn
         ·cases hn
         ·split at hn
          ·obtain ⟨m, h1, h2⟩ := Option.map_eq_some_iff.1 hn
           exact ⟨m, h1, by rw [← ho, ← h2, yeo']⟩
          ·exact ⟨n, hn, ho⟩
        ·split
         ·intro p n hn ho
          have hn : yal' p (setT o.p (ycu' n0 z o.data) S.l) = some n := hn
          rw [yci'] at hn
          split at hn
          ·rename_i e
           rw [hn0] at hn
           injection hn with hn
           rw [e]
           exact ⟨n0, hn0, by rw [← ho, ← hn]; rfl⟩
          ·exact ⟨n, hn, ho⟩
         ·exact .rfl s S
    ·exact .rfl s S
theorem ymx' {sess z s : Int} (hs : 0 < s) (hne : s ≠ sess) : ∀ (l : List OpS) {K : Nat} {S : TreeS}, TreeB K S → OwnK s S (yaq' sess z l S).2.1
 | [], _, S, _ => .rfl s S
 | o :: l, K, S, hB => by
  have h1 := y0q' hB o z hs hne
  unfold yaq'
  split
  ·exact h1
  ·exact h1.trans (ymx' hs hne l (do_b hB o sess z))
theorem ypp' {K : Nat} {S : TreeS} (hB : TreeB K S) (l : List OpS) {sess s : Int} (z : Int) (hs : 0 < s) (hne : s ≠ sess) : OwnK s S (ybv' S sess z l).2.1 := by
 unfold ybv'
 split
 ·exact .rfl s S
 ·split
  ·exact .rfl s S
  ·split
   ·exact .rfl s S
   ·exact ymx' hs hne l hB
theorem yog' {K : Nat} {S : TreeS} (hB : TreeB K S) (l : List OpS) {sess s : Int} (num z : Int) (hs : 0 < s) (hne : s ≠ sess) : OwnK s S (ya3' S sess num z l).2 := by
 unfold ya3'
 split
 ·exact .rfl s S
 ·exact ypp' hB l z hs hne
theorem ytb' (s : Int) : ∀ (l : List Bs) (S : TreeS), OwnK s S (purT l S)
 | [], S => .rfl s S
 | p :: l, S => by
  refine OwnK.trans (Y := { S with l := remT p S.l }) (fun q n hn ho => ?_) (ytb' s l _)
  have hn : yal' q (remT p S.l) = some n := hn
  rw [ycq'] at hn
  split at hn
  ·cases hn
  ·split at hn
   ·obtain ⟨m, h1, h2⟩ := Option.map_eq_some_iff.1 hn
    exact ⟨m, h1, by rw [← ho, ← h2, yeo']⟩
   ·exact ⟨n, hn, ho⟩
theorem yoh' {K K' : Nat} {s : Int} {S S' : TreeS} (h : OwnK s S S') (hB : TreeB K S) (hB' : TreeB K' S') : ∀ p ∈ ofT S' s, p ∈ ofT S s := by
 intro p hp
 obtain ⟨n, h1, h2, h3⟩ := yxs'.1 hp
 obtain ⟨m, h4, h5⟩ := h p n ((ybm' (ybh' hB'.rise)).2 h1) h3
 exact yxs'.2 ⟨m, (ybm' (ybh' hB.rise)).1 h4, h2, h5⟩
structure Fore (ops : List OpS) (X : TreeS) (S : PartS) : Prop where
 look : yed' S.wait 7 = some ⟨1, ops, false, false⟩
 held : ∀ p ∈ yif' ops, (p, (7 : Int)) ∈ S.held
 sim : Sim (yif' ops) X S.t
 room : S.t.room = X.room
 others : ∀ e ∈ S.wait, e.1 ≠ 7 → e.2.close = false → ∀ o ∈ e.2.ops, ∀ p ∈ yay' o, FarW (yif' ops) p
 closes : ∀ e ∈ S.wait, e.2.close = true → 0 < e.2.sess ∧ e.2.ops = [] ∧ ∀ p ∈ ofT S.t e.2.sess, FarW (yif' ops) p
 sess : ∀ e ∈ S.wait, e.2.close = true → ∀ e' ∈ S.wait, e'.2.close = false → e.2.sess ≠ e'.2.sess
 cap : yan' ops = 0 ∨ ((S.t.l.length + ya2' S.wait : Nat) : Int) ≤ S.t.room ∨ (S.t.l.length ≤ X.l.length ∧ ∀ e ∈ S.wait, e.1 ≠ 7 → yhi' e = 0)
theorem Fore.in_ {ops : List OpS} {X : TreeS} {S : PartS} (h : Fore ops X S) : ((7 : Int), (⟨1, ops, false, false⟩ : WaitS)) ∈ S.wait := ymm' h.look
theorem Fore.want {ops : List OpS} {X : TreeS} {S : PartS} (h : Fore ops X S) : yan' ops ≤ ya2' S.wait := yns' h.in_
theorem yrz' {S : PartS} {id sess : Int} {ops : List OpS} (h : ¬ (ydk' S id sess ops).1 ≠ 0) : ycz' S.wait sess = false ∧ yes' S.held id ops = none ∧ ¬ (0 < yan' ops ∧ 0 < ya2' S.wait ∧ S.t.room < ya2' S.wait + S.t.l.length + yan' ops) := by
 unfold ydk' at h
 split at h
 ·exact absurd (by show (11 : Int) ≠ 0; decide) h
 ·split at h
  ·exact absurd (by show (12 : Int) ≠ 0; decide) h
  ·rename_i h2
   split at h
   ·exact absurd (by show (12 : Int) ≠ 0; decide) h
   ·rename_i h3
    split at h
    ·exact absurd (by show (12 : Int) ≠ 0; decide) h
    ·rename_i h4
     exact ⟨by simpa using h2, h3, h4⟩
theorem Fore.far {ops : List OpS} {X : TreeS} {S : PartS} (h : Fore ops X S) {id sess : Int} {l : List OpS} (hid : id ≠ 7) (hb : ¬ (ydk' S id sess l).1 ≠ 0) (hg : ∀ o ∈ l, yb5' o = 0) : ∀ o ∈ l, ∀ p ∈ yay' o, FarW (yif' ops) p := by
 intro o ho p hp q hq
 have h1 := yqb' (yrz' hb).2.1 o ho p hp
 exact yga' h1 (yri' (ysf' (hg o ho)) p hp) _ (h.held q hq) (fun e => hid e.symm)
theorem yqh' {W : yd9'} {sess : Int} (h : ycz' W sess = false) : ∀ e ∈ W, e.2.close = true → e.2.sess ≠ sess := by
 intro e he hc hs
 have := List.any_eq_false.1 h e he
 rw [hc, hs] at this
 simp at this
theorem Fore.local {K : Nat} {ops : List OpS} {X : TreeS} {S : PartS} (h : Fore ops X S) (hB : PartB K S) (sess num : Int) (l : List OpS) : Fore ops X (yb4' S sess num l).2 := by
 unfold yb4'
 split
 ·exact h
 ·rename_i hm
  split
  ·exact ⟨h.look, h.held, h.sim, h.room, h.others, h.closes, h.sess, h.cap⟩
  ·rename_i hb
   have hg := ye7' (by simpa using hm : mayS sess num l = 0)
   have hf := h.far (by decide) hb hg.2
   obtain ⟨b1, b2, b3⟩ := yrz' hb
   have hr := ym5' hB.tree sess num (S.zxid + 1) l
   refine ⟨h.look, h.held, h.sim.keep (ymi' hB.tree hf _ _ _), (yfe' ..).trans h.room, h.others, fun e he hc => ?_, h.sess, ?_⟩
   ·obtain ⟨c1, c2, c3⟩ := h.closes e he hc
    exact ⟨c1, c2, fun p hp => c3 p (yoh' (yog' hB.tree l num (S.zxid + 1) c1 (yqh' b1 e he hc)) hB.tree hr p hp)⟩
   ·have hlen := yol' S.t sess num (S.zxid + 1) l
    have hw := h.want
    show _ ∨ (((ya3' S.t sess num (S.zxid + 1) l).2.l.length + ya2' S.wait : Nat) : Int) ≤ (ya3' S.t sess num (S.zxid + 1) l).2.room ∨ ((ya3' S.t sess num (S.zxid + 1) l).2.l.length ≤ X.l.length ∧ _)
    rw [yfe']
    by_cases h0 : yan' ops = 0
    ·exact .inl h0
    ·right
     by_cases hc : yan' l = 0
     ·rcases h.cap with h2 | h2 | h2
      ·exact absurd h2 h0
      ·left; omega
      ·right; exact ⟨by omega, h2.2⟩
     ·left; omega
theorem Fore.close {K : Nat} {ops : List OpS} {X : TreeS} {S : PartS} (h : Fore ops X S) (hB : PartB K S) {id : Int} (hid : id ≠ 7) (sess : Int) : Fore ops X (ycb' S id sess).2 := by
 unfold ycb'
 split
 ·exact h
 ·rename_i hk
  split
  ·exact h
  ·split
   ·exact h
   ·rename_i hu
    split
    ·exact h
    ·rename_i hw
     have hs : 0 < sess := by
      unfold ych' at hk
      simp only [Bool.or_eq_true, decide_eq_true_eq, not_or] at hk
      omega
     have huse : ∀ e ∈ S.wait, e.2.sess ≠ sess := fun e he hh => by
      have hu : ynn' S.wait sess = false := by simpa using hu
      have := List.any_eq_false.1 hu e he
      rw [hh] at this
      simp at this
     refine ⟨ysx' h.look, fun p hp => yuf' (h.held p hp), h.sim, h.room, fun e he h7 hc => ?_, fun e he hc => ?_, fun e he hc e' he' hc' => ?_, ?_⟩
     ·rcases List.mem_append.1 he with he | he
      ·exact h.others e he h7 hc
      ·rw [List.mem_singleton] at he; rw [he] at hc; cases hc
     ·rcases List.mem_append.1 he with he | he
      ·exact h.closes e he hc
      ·rw [List.mem_singleton] at he
       rw [he]
       refine ⟨hs, rfl, fun p hp q hq => ?_⟩
       obtain ⟨g1, g2⟩ := ykw' hw p hp
       exact yga' g2 g1 _ (h.held q hq) (fun e => hid e.symm)
     ·rcases List.mem_append.1 he with he | he
      ·rcases List.mem_append.1 he' with he' | he'
       ·exact h.sess e he hc e' he' hc'
       ·rw [List.mem_singleton] at he'; rw [he'] at hc'; cases hc'
      ·rcases List.mem_append.1 he' with he' | he'
       ·rw [List.mem_singleton] at he; rw [he]; exact (huse e' he').symm
       ·rw [List.mem_singleton] at he'; rw [he'] at hc'; cases hc'
     ·show _ ∨ ((S.t.l.length + ya2' (S.wait ++ [_]) : Nat) : Int) ≤ S.t.room ∨ (S.t.l.length ≤ X.l.length ∧ ∀ e ∈ S.wait ++ [_], _)
      have hcost : yhi' (id, ⟨sess, [], true, false⟩) = 0 := rfl
      rw [ynr', hcost, Nat.add_zero]
      refine h.cap.imp (fun h => h) (Or.imp (fun h => h) fun h2 => ⟨h2.1, fun e he h7 => ?_⟩)
      rcases List.mem_append.1 he with he | he
      ·exact h2.2 e he h7
      ·rw [List.mem_singleton] at he; rw [he]; rfl
theorem Fore.decide {K : Nat} {ops : List OpS} {X : TreeS} {S : PartS} (h : Fore ops X S) (hB : PartB K S) {id : Int} (hid : id ≠ 7) (commit : Bool) : Fore ops X (ybo' S id commit).2 := by
 have hlk : yed' (delW S.wait id) 7 = some ⟨1, ops, false, false⟩ := (ysv' (fun e => hid e.symm)).trans h.look
 have hw : ∀ e ∈ delW S.wait id, e ∈ S.wait := fun e he => (List.mem_filter.1 he).1
 have hhd : ∀ p ∈ yif' ops, (p, (7 : Int)) ∈ ydz' S.held id := fun p hp => List.mem_filter.2 ⟨h.held p hp, by simpa using fun e => hid e.symm⟩
 have hoth : ∀ e ∈ delW S.wait id, e.1 ≠ 7 → e.2.close = false → ∀ o ∈ e.2.ops, ∀ p ∈ yay' o, FarW (yif' ops) p := fun e he => h.others e (hw e he)
 have hss : ∀ e ∈ delW S.wait id, e.2.close = true → ∀ e' ∈ delW S.wait id, e'.2.close = false → e.2.sess ≠ e'.2.sess := fun e he hc e' he' => h.sess e (hw e he) hc e' (hw e' he')
 unfold ybo'
 split
 ·exact h
 ·rename_i x hx
  have hxm := ymm' hx
  have hless := yjl' hx
  split
  ·refine ⟨hlk, hhd, h.sim, h.room, hoth, fun e he => h.closes e (hw e he), hss, h.cap.imp (fun h => h) (Or.imp (fun h2 => ?_) fun h2 => ⟨h2.1, fun e he => h2.2 e (hw e he)⟩)⟩
   show ((S.t.l.length + ya2' (delW S.wait id) : Nat) : Int) ≤ S.t.room
   omega
  ·rename_i hcf
   split
   ·rename_i hxc
    obtain ⟨c1, c2, c3⟩ := h.closes _ hxm hxc
    have hl := ytm' (yen' (ofT S.t x.sess)) S.t
    have hfar : ∀ p ∈ yen' (ofT S.t x.sess), FarW (yif' ops) p := fun p hp => c3 p (by
     unfold yen' at hp
     obtain ⟨d, -, hd⟩ := List.mem_flatMap.1 hp
     exact (List.mem_filter.1 hd).1)
    refine ⟨hlk, hhd, h.sim.keep (ypd' _ hfar), (ygx' _ _).trans h.room, hoth, fun e he hc => ?_, hss, ?_⟩
    ·obtain ⟨d1, d2, d3⟩ := h.closes e (hw e he) hc
     exact ⟨d1, d2, fun p hp => d3 p (yoh' (ytb' _ _ _) hB.tree (ypt' _ hB.tree) p hp)⟩
    ·show _ ∨ (((purT (yen' (ofT S.t x.sess)) S.t).l.length + ya2' (delW S.wait id) : Nat) : Int) ≤ (purT (yen' (ofT S.t x.sess)) S.t).room ∨ ((purT (yen' (ofT S.t x.sess)) S.t).l.length ≤ X.l.length ∧ _)
     rw [ygx']
     refine h.cap.imp (fun h => h) (Or.imp (fun h2 => by omega) fun h2 => ⟨by omega, fun e he => h2.2 e (hw e he)⟩)
   ·rename_i hxc
    have hxc : x.close = false := by simpa using hxc
    have hxf : x.fails = false := by
     cases hxx : x.fails with
     | false => rfl
     | true => rw [hxx] at hcf; simp at hcf
    have hfar := h.others _ hxm hid hxc
    have hcost : yhi' (id, x) = yan' x.ops := by unfold yhi'; rw [hxf]; rfl
    have hl := yph' S.t x.sess (S.zxid + 1) x.ops
    refine ⟨hlk, hhd, h.sim.keep (ymh' hB.tree hfar _ _), (yek' ..).trans h.room, hoth, fun e he hc => ?_, hss, ?_⟩
    ·obtain ⟨d1, d2, d3⟩ := h.closes e (hw e he) hc
     exact ⟨d1, d2, fun p hp => d3 p (yoh' (ypp' hB.tree x.ops (S.zxid + 1) d1 (h.sess e (hw e he) hc _ hxm hxc)) hB.tree (ysz' hB.tree _ _ _) p hp)⟩
    ·show _ ∨ (((ybv' S.t x.sess (S.zxid + 1) x.ops).2.1.l.length + ya2' (delW S.wait id) : Nat) : Int) ≤ (ybv' S.t x.sess (S.zxid + 1) x.ops).2.1.room ∨ ((ybv' S.t x.sess (S.zxid + 1) x.ops).2.1.l.length ≤ X.l.length ∧ _)
     rw [yek']
     refine h.cap.imp (fun h => h) (Or.imp (fun h2 => by omega) fun h2 => ⟨?_, fun e he => h2.2 e (hw e he)⟩)
     have := h2.2 _ hxm hid
     omega
theorem ykn' {sess z : Int} : ∀ (l : List OpS) {K : Nat} {S : TreeS}, TreeB K S → ydj' S → (∀ o ∈ l, yb5' o = 0) → (yaq' sess z l S).2.2 = 0 → ∀ r ∈ (yaq' sess z l S).1, r.err = 0 ∧ r.path.data.toList ≠ []
 | [], _, _, _, _, _, _, r, hr => by cases hr
 | o :: l, K, S, hB, hG, hg, h, r, hr => by
  have h0 := yjg' h
  rw [yhz' l h0] at h hr
  rcases List.mem_cons.1 hr with rfl | hr
  ·refine ⟨h0, ?_⟩
   have hne : ∀ p : Bs, ybn' p = true → p ≠ [] := fun p hp e => by rw [e] at hp; cases hp
   have hgo := ysf' (hg o k_s)
   have hop : o.path.data.toList ≠ [] := hne o.p hgo
   unfold doT at h0 ⊢
   by_cases h1 : yb5' o ≠ 0
   ·exact absurd (hg o k_s) h1
   rw [if_neg h1] at h0 ⊢
   by_cases h2 : sess < 1 ∨ z < 0
   ·rw [if_pos h2] at h0; exact absurd h0 (by show (1 : Int) ≠ 0; decide)
   rw [if_neg h2] at h0 ⊢
   by_cases h3 : o.kind = 1
   ·rw [if_pos h3] at h0 ⊢
    unfold yb1' at h0 ⊢
    by_cases h4 : (ya4' S o).1 ≠ 0
    ·rw [if_pos h4] at h0; exact absurd h0 h4
    rw [if_neg h4]
    have := ytg' hgo (by omega : (ya4' S o).1 = 0)
    exact hne _ this
   rw [if_neg h3] at h0 ⊢
   by_cases h4 : o.kind = 2 ∨ o.kind = 3 ∨ o.kind = 4
   ·rw [if_pos h4] at h0 ⊢
    unfold yby' at h0 ⊢
    cases hn : yal' o.p S.l with
    | none => rw [hn] at h0; exact absurd h0 (by show (4 : Int) ≠ 0; decide)
    | some n =>
     rw [hn] at h0
     dsimp only at h0 ⊢
     by_cases g1 : yf4' o n = true
     ·rw [if_pos g1] at h0; exact absurd h0 (by show (6 : Int) ≠ 0; decide)
     rw [if_neg g1] at h0 ⊢
     by_cases g2 : o.kind = 2 ∧ 0 < n.names.length
     ·rw [if_pos g2] at h0; exact absurd h0 (by show (7 : Int) ≠ 0; decide)
     rw [if_neg g2]
     by_cases g3 : o.kind = 2
     ·rw [if_pos g3]; exact hop
     rw [if_neg g3]
     by_cases g4 : o.kind = 3
     ·rw [if_pos g4]; exact hop
     rw [if_neg g4]; exact hop
   rw [if_neg h4] at h0 ⊢
   unfold yi9' at h0 ⊢
   cases hn : yal' o.p S.l with
   | none => rw [hn] at h0; exact absurd h0 (by show (4 : Int) ≠ 0; decide)
   | some n => exact hop
  ·exact ykn' l (do_b hB o sess z) (do_g hG o sess z) (fun x hx => hg x (k_n _ hx)) h r hr
theorem Fore.done {K K' : Nat} {ops : List OpS} {X : TreeS} {S : PartS} {z : Int} (h : Fore ops X S) (hX : TreeB K X) (hB : PartB K' S) (hz : 0 ≤ S.zxid) (h0 : (yaq' 1 z ops X).2.2 = 0) (hg : ∀ o ∈ ops, yb5' o = 0) (hne : ops ≠ []) (h16 : ops.length ≤ 16) :
  (ybo' S 7 true).1.2 = 0 ∧ (ybo' S 7 true).1.1.length = ops.length ∧ ∀ r ∈ (ybo' S 7 true).1.1, r.err = 0 ∧ r.path.data.toList ≠ [] := by
 have hs : (yaq' 1 (S.zxid + 1) ops S.t).2.2 = 0 := by
  refine ynf' (by omega) ops h.sim hX hB.tree h.room (fun o ho p hp => List.mem_flatMap.2 ⟨o, ho, hp⟩) h0 ?_
  have hw := h.want
  rcases h.cap with h1 | h1 | h1
  ·left; have := hB.tree.len; omega
  ·left; omega
  ·right; exact h1.1
 have hm : ybv' S.t 1 (S.zxid + 1) ops = (⟨0, S.zxid + 1, 0, -1, (yaq' 1 (S.zxid + 1) ops S.t).1⟩, (yaq' 1 (S.zxid + 1) ops S.t).2.1, true) := by
  unfold ybv'
  rw [if_neg (by omega), if_neg (by intro e; exact hne (List.eq_nil_of_length_eq_zero e)), if_neg (fun hh => hh hs)]
 unfold ybo'
 rw [h.look]
 dsimp only
 rw [if_neg (by simp), if_neg (by simp), hm]
 refine ⟨rfl, yg4' ops _ hs, ?_⟩
 exact ykn' ops hB.tree hB.good hg hs
theorem Fore.not {ops : List OpS} {X : TreeS} {S : PartS} (h : Fore ops X S) : (ybo' S 7 false).1 = ([], 0) ∧ (ybo' S 7 false).2.t = S.t := by
 unfold ybo'
 rw [h.look]
 dsimp only
 rw [if_pos (by simp)]
 exact ⟨rfl, rfl⟩
end Go.Av

namespace Go.Av
open Go.RowKit
def ylx' (rs : List ResS) : Prop := rs.length ≤ 16 ∧ ∀ r ∈ rs, r.names.length ≤ 100000
theorem ybg' : ylx' [] := ⟨by simp, by simp⟩
theorem yvf' {K : Nat} {S : TreeS} (h : TreeB K S) (o : OpS) (sess zxid : Int) : (doT S o sess zxid).1.names.length ≤ K := by
 unfold doT
 split
 ·simp [yb3']
 ·split
  ·simp [yb3']
  ·split
   ·unfold yb1'
    split <;> simp [yb3']
   ·split
    ·unfold yby'
     split
     ·simp [yb3']
     ·split
      ·simp [yb3']
      ·split
       ·simp [yb3']
       ·split
        ·simp
        ·split <;> simp
    ·unfold yi9'
     split
     ·simp [yb3']
     ·rename_i n hn
      have h1 : ∃ e ∈ S.l, e.2 = n := by
       unfold yal' at hn
       obtain ⟨e, he, rfl⟩ := Option.map_eq_some_iff.1 hn
       exact ⟨e, List.mem_of_find?_eq_some he, rfl⟩
      obtain ⟨e, he, rfl⟩ := h1
      have := (h.nodes e he).few
      dsimp only
      split
      ·exact this
      ·simp
theorem yjh' {sess zxid : Int} : ∀ (l : List OpS) {K : Nat} {S : TreeS}, TreeB K S → ∀ r ∈ (yaq' sess zxid l S).1, r.names.length ≤ K + l.length
 | [], _, _, _, r, hr => by cases hr
 | o :: l, K, S, h, r, hr => by
  unfold yaq' at hr
  split at hr
  ·cases hr
  ·rcases List.mem_cons.1 hr with rfl | hr
   ·have := yvf' h o sess zxid
    omega
   ·have := yjh' l (do_b h o sess zxid) r hr
    rw [List.length_cons]
    omega
theorem yfk' (num e at_ n : Int) : ylx' (yeg' num e at_ n).rs := by
 unfold yeg'
 dsimp only
 split
 ·exact ybg'
 ·refine ⟨by rw [yj0']; omega, fun r hr => ?_⟩
  unfold yf0' at hr
  obtain ⟨i, -, rfl⟩ := List.mem_map.1 hr
  simp [yb3']
theorem ypi' {K : Nat} {S : TreeS} (h : TreeB K S) (hK : K ≤ 90000) (sess zxid : Int) (ops : List OpS) : ylx' (ybv' S sess zxid ops).1.rs := by
 unfold ybv'
 split
 ·exact yfk' ..
 ·split
  ·exact yfk' ..
  ·split
   ·exact yfk' ..
   ·rename_i h1 h2 h3
    have h4 := yg4' (sess := sess) (zxid := zxid) ops S (by omega)
    refine ⟨by show (yaq' sess zxid ops S).1.length ≤ 16; omega, fun r hr => ?_⟩
    have := yjh' ops h r hr
    omega
theorem yst' {K : Nat} {S : PartS} (h : PartB K S) (hK : K ≤ 1000) (sess num : Int) (ops : List OpS) : ylx' (yb4' S sess num ops).1.rs := by
 unfold yb4'
 split
 ·exact yfk' ..
 ·split
  ·dsimp only
   exact yfk' ..
  ·unfold ya3'
   dsimp only
   split
   ·exact yfk' ..
   ·exact ypi' h.tree (by omega) ..
theorem yqm' {K : Nat} {S : PartS} (h : PartB K S) (hK : K ≤ 1000) (id : Int) (yes : Bool) : ylx' (ybo' S id yes).1.1 := by
 unfold ybo'
 split
 ·exact ybg'
 ·split
  ·exact ybg'
  ·split
   ·exact ybg'
   ·exact ypi' h.tree (by omega) ..
end Go.Av
namespace Go.Proofs.YtcnkifbjlihaoaaGreatDoor
open Go.RowKit Go.Av
def yp8' (o : OutS) : Prop := ylx' o.reply.rs ∧ ylx' o.rs
theorem yyj' : yp8' badO := ⟨ybg', ybg'⟩
theorem yrx' (S : CoS) (id : Int) (l : List Int) : (yia' S id l).2.length ≤ S.length + 1 := by
 unfold yia'
 split
 ·exact Nat.le_succ _
 ·split
  ·exact Nat.le_succ _
  ·simp
theorem yll' (id : Int) (φ : EntS → EntS) (S : CoS) : (putS id φ S).length = S.length := by unfold putS; rw [List.length_map]
theorem yw8' (S : CoS) (id k : Int) (ok : Bool) : (yno' S id k ok).2.length = S.length := by
 unfold yno'
 split
 ·rfl
 ·split
  ·rfl
  ·exact yll' ..
theorem yvh' (S : CoS) (id k : Int) : (yma' S id k).2.length = S.length := by
 unfold yma'
 split
 ·rfl
 ·split
  ·rfl
  ·split
   ·rfl
   ·exact yll' ..
theorem yrv' (S : CoS) (id : Int) : (yfz' S id).2.2.length = S.length := by
 unfold yfz'
 split
 ·rfl
 ·exact yll' ..
structure ShB (K : Nat) (S : ShardS) : Prop where
 p : PartC K S.p
 c : S.c.length ≤ K
 known : ∀ e ∈ S.known, yp8' e.2
 played : 0 ≤ S.played ∧ S.played ≤ K
theorem ylf' (room : Int) (h : 1 ≤ room ∧ room ≤ 500) : ShB 0 (yd0' room) := ⟨y0n' room h, by simp [yd0'], by simp [yd0'], by simp [yd0']⟩
theorem y0f' {K : Nat} {S : ShardS} (hp : PartC K S.p) (hc : S.c.length ≤ K) (hK : K ≤ 1000) (c : CmdS) : yp8' (doC S c).1 ∧ PartC (K + 1) (doC S c).2.p ∧ (doC S c).2.c.length ≤ K + 1 ∧ (doC S c).2.known = S.known ∧ (doC S c).2.played = S.played := by
 have hp1 : PartC (K + 1) S.p := hp.mono (Nat.le_succ _)
 unfold doC
 split
 ·exact ⟨⟨yst' hp.b hK .., ybg'⟩, yy7' hp .., Nat.le_succ_of_le hc, rfl, rfl⟩
 split
 ·exact ⟨⟨ybg', ybg'⟩, y0t' hp .., Nat.le_succ_of_le hc, rfl, rfl⟩
 split
 ·exact ⟨⟨ybg', ybg'⟩, yyn' hp .., Nat.le_succ_of_le hc, rfl, rfl⟩
 split
 ·exact ⟨⟨ybg', yqm' hp.b hK ..⟩, yu9' hp .., Nat.le_succ_of_le hc, rfl, rfl⟩
 split
 ·exact ⟨⟨ybg', ybg'⟩, hp1, by have := yrx' S.c c.id c.shards; dsimp only; omega, rfl, rfl⟩
 split
 ·exact ⟨⟨ybg', ybg'⟩, hp1, by have := yw8' S.c c.id c.shard c.yes; dsimp only; omega, rfl, rfl⟩
 split
 ·exact ⟨⟨ybg', ybg'⟩, hp1, by have := yvh' S.c c.id c.shard; dsimp only; omega, rfl, rfl⟩
 ·exact ⟨⟨ybg', ybg'⟩, hp1, by have := yrv' S.c c.id; dsimp only; omega, rfl, rfl⟩
theorem yi1' {b : Bs} {K : List (Bs × OutS)} {o : OutS} (h : yhr' b K = some o) : (b, o) ∈ K := by
 unfold yhr' at h
 obtain ⟨e, he, rfl⟩ := Option.map_eq_some_iff.1 h
 have h1 := List.find?_some he
 have h2 : e.1 = b := of_decide_eq_true h1
 rw [← h2]
 exact List.mem_of_find?_eq_some he
theorem ypr' {K : Nat} {S : ShardS} (h : ShB K S) (hK : K ≤ 1000) (b : Bs) : yp8' (ya8' S b).1 ∧ ShB (K + 1) (ya8' S b).2 := by
 have h0 : ShB (K + 1) { S with played := S.played + 1 } := ⟨h.p.mono (Nat.le_succ _), Nat.le_succ_of_le h.c, h.known, by have := h.played; dsimp only; omega⟩
 unfold ya8'
 split
 ·exact ⟨yyj', h0⟩
 ·rename_i c hc
  split
  ·rename_i o ho
   exact ⟨h.known _ (yi1' ho), h0⟩
  ·obtain ⟨a1, a2, a3, a4, a5⟩ := y0f' (S := { S with played := S.played + 1 }) h.p h.c hK c
   refine ⟨a1, ⟨a2, a3, fun e he => ?_, ?_⟩⟩
   ·rcases List.mem_append.1 he with he | he
    ·exact h.known e he
    ·rw [List.mem_singleton] at he
     rw [he]
     exact a1
   ·show 0 ≤ (doC { S with played := S.played + 1 } c).2.played ∧ _
    rw [a5]
    exact h0.played
theorem yse' {b : Bs} {c : CmdS} (h : getC b = some c) : 1 ≤ c.kind ∧ c.kind ≤ 8 := by
 unfold getC at h
 split at h
 ·rename_i hc
  injection h with h
  subst h
  obtain ⟨h1, h2, h3⟩ := hc
  by_cases hk : 1 ≤ (rawC b).1.kind ∧ (rawC b).1.kind ≤ 8
  ·exact hk
  ·exfalso
   have hp : putC (rawC b).1 = [] := by
    unfold putC
    rw [if_neg (by omega), if_neg (by omega), if_neg (by omega), if_neg (by omega), if_neg (by omega), if_neg (by omega), if_neg (by omega), if_neg (by omega)]
   rw [hp] at h3
   subst h3
   revert h2
   decide
 ·cases h
def same0 (S S' : ShardS) : Prop := S.p = S'.p ∧ S.c = S'.c ∧ S.known = S'.known
theorem yve' {S S' : ShardS} (h : same0 S S') (c : CmdS) : (doC S c).1 = (doC S' c).1 ∧ same0 (doC S c).2 (doC S' c).2 := by
 obtain ⟨p, co, n, kn⟩ := S
 obtain ⟨p', co', n', kn'⟩ := S'
 obtain ⟨h1, h2, h3⟩ := h
 dsimp only at h1 h2 h3
 subst h1 h2 h3
 unfold doC
 repeat' split
 all_goals exact ⟨rfl, rfl, rfl, rfl⟩
theorem yth' {S S' : ShardS} (h : same0 S S') (b : Bs) : (ya8' S b).1 = (ya8' S' b).1 ∧ same0 (ya8' S b).2 (ya8' S' b).2 := by
 obtain ⟨p, co, n, kn⟩ := S
 obtain ⟨p', co', n', kn'⟩ := S'
 obtain ⟨h1, h2, h3⟩ := h
 dsimp only at h1 h2 h3
 subst h1 h2 h3
 unfold ya8'
 cases getC b with
 | none => exact ⟨rfl, rfl, rfl, rfl⟩
 | some c =>
  dsimp only
  cases yhr' b kn with
  | some o => exact ⟨rfl, rfl, rfl, rfl⟩
  | none =>
   dsimp only
   obtain ⟨a1, a2, a3, -⟩ := yve' (S := ⟨p, co, n + 1, kn⟩) (S' := ⟨p, co, n' + 1, kn⟩) ⟨rfl, rfl, rfl⟩ c
   rw [a1]
   exact ⟨rfl, a2, a3, rfl⟩
theorem ysu' {b : Bs} {K : List (Bs × OutS)} (o : OutS) (h : yhr' b K = none) : yhr' b (K ++ [(b, o)]) = some o := by
 unfold yhr' at h ⊢
 have h1 : K.find? (fun e => decide (e.1 = b)) = none := by
  cases hf : K.find? (fun e => decide (e.1 = b)) with
  | none => rfl
  | some e => rw [hf] at h; cases h
 rw [List.find?_append, h1]
 simp
theorem yq3' (S : ShardS) (b : Bs) : (ya8' (ya8' S b).2 b).1 = (ya8' S b).1 ∧ same0 (ya8' (ya8' S b).2 b).2 (ya8' S b).2 := by
 cases hg : getC b with
 | none =>
  unfold ya8'
  rw [hg]
  exact ⟨rfl, rfl, rfl, rfl⟩
 | some c =>
  cases hk : yhr' b S.known with
  | some o =>
   have e : ya8' S b = (o, { S with played := S.played + 1 }) := by unfold ya8'; rw [hg]; dsimp only; rw [hk]
   rw [e]
   dsimp only
   have e2 : ya8' { S with played := S.played + 1 } b = (o, { S with played := S.played + 1 + 1 }) := by unfold ya8'; rw [hg]; dsimp only; rw [hk]
   rw [e2]
   exact ⟨rfl, rfl, rfl, rfl⟩
  | none =>
   obtain ⟨q, hq⟩ : ∃ q, doC { S with played := S.played + 1 } c = q := ⟨_, rfl⟩
   have e : ya8' S b = (q.1, { q.2 with known := S.known ++ [(b, q.1)] }) := by unfold ya8'; rw [hg]; dsimp only; rw [hk, hq]
   rw [e]
   dsimp only
   have e2 : ya8' { q.2 with known := S.known ++ [(b, q.1)] } b = (q.1, { q.2 with known := S.known ++ [(b, q.1)], played := q.2.played + 1 }) := by
    unfold ya8'
    rw [hg]
    dsimp only
    rw [ysu' _ hk]
   rw [e2]
   exact ⟨rfl, rfl, rfl, rfl⟩
def yf1' (l : List Bs) (S : ShardS) : ShardS := l.foldl (fun S b => (ya8' S b).2) S
theorem yps' : ∀ (l : List Bs) {K : Nat} {S : ShardS}, ShB K S → K + l.length ≤ 1000 → ShB (K + l.length) (yf1' l S)
 | [], _, _, h, _ => h
 | b :: l, K, S, h, hK => by
  rw [List.length_cons] at hK ⊢
  have := yps' l (ypr' h (by omega) b).2 (by omega)
  rw [show K + 1 + l.length = K + (l.length + 1) by omega] at this
  exact this
theorem ykc' : ∀ (l : List Bs) (b : Bs) (S : ShardS), ycr' (l ++ [b]) S = ((ycr' l S).1 ++ [(ya8' (ycr' l S).2 b).1], (ya8' (ycr' l S).2 b).2)
 | [], b, S => rfl
 | a :: l, b, S => by
  have ih := ykc' l b (ya8' S a).2
  show ((ya8' S a).1 :: (ycr' (l ++ [b]) (ya8' S a).2).1, (ycr' (l ++ [b]) (ya8' S a).2).2) = _
  rw [ih]
  rfl
theorem ylj' : ∀ (l : List Bs) (S : ShardS), (ycr' l S).2 = yf1' l S
 | [], S => rfl
 | a :: l, S => ylj' l (ya8' S a).2
theorem yhu' : ∀ (l : List Bs) (S : ShardS), (ycr' l S).1.length = l.length
 | [], S => rfl
 | a :: l, S => by
  show (_ :: (ycr' l (ya8' S a).2).1).length = _
  rw [List.length_cons, List.length_cons, yhu' l]
end Go.Proofs.YtcnkifbjlihaoaaGreatDoor

namespace Go.Proofs.YtcnkifbjlihaoaaGreatDoor
open Go.RowKit Go.Av
def cmdV (c : CmdS) (vo vs : Value) : Array Value := #[.int .i64 c.kind, .int .i64 c.id, .int .i64 c.sess, .int .i64 c.rs, .int .i64 c.rn, vo, vs, .int .i64 c.shard, .bool c.yes]
section
variable {w0 w : World} {P P' : List PRow} {R : List Thing} {rows : List (Value × Bs)}
set_option maxRecDepth 100000 in
set_option maxHeartbeats 8000000 in
theorem yje' (h : Sep w0 w (yab' w0 P :: R) rows) (hd : DoorN w0) (c : CmdS) (vo vs : Value) (hvo : (5, vo, c.ops.flatMap OpS.cells) ∈ P) (hvs : (1, vs, c.shards.map ivn) ∈ P) (hp : ∀ o ∈ c.ops, o.path.size ≤ 100000) (hs : c.shards.length ≤ 1000) :
  Calls Tryz.prog 41 #[.agg (cmdV c vo vs)] w (yip' w0 (putC c) (yab' w0 P :: R) rows) := by
 obtain ⟨E, hE⟩ := h.poolGet hvo
 obtain ⟨oa, on, oc, rfl, -⟩ := _root_.id hE
 obtain ⟨E, hE⟩ := h.poolGet hvs
 obtain ⟨sa, sn, sc, rfl, -⟩ := _root_.id hE
 have HV := Lib.hid (show _ ∧ _ ∧ _ ∧ _ from ⟨hvo, hvs, hp, hs⟩)
 have HX := Lib.hid h
 clear h hE hvo hvs hp hs
 obtain ⟨k0, id, sess, rs, rn, ops, shards, shard, yes⟩ := c
 unfold cmdV
 dsimp only at HV ⊢
 by_cases h1 : k0 = 1
 ·subst h1
  obtain ⟨bs, hbs⟩ : ∃ bs, putR rs rn ops = bs := ⟨_, rfl⟩
  have HB := Lib.hid (show _ ∧ _ from ⟨hbs, (by rw [← hbs]; exact ygy' rs rn ops : bs.length ≤ 19864)⟩)
  clear hbs
  go_enter Tryz.func41, Tryz.ntmps41
  go_wp2_with (first | refine u0 ?_ | (refine uS ?_; clear HX; intro w HX) | (refine uA ?_; clear HX; (first | (have hq := b2; clear hq; intro w b3 HX) | (have hq := b; clear hq; intro w b2 HX) | intro w b HX)))
  refine (ye2' (l := []) (xs := [1, id]) (n := 2) ((HX.out.newCell _).nilRow 1) rfl (by omega) (by simp)).mono ?_
  rintro e w ⟨v3, rfl, hx⟩
  rw [show ([] : Bs) ++ [1, id].flatMap yah' = yah' 1 ++ yah' id by simp] at hx
  replace HX := Lib.hid hx
  clear hx
  go_wp2_with (first | refine u0 ?_ | (refine uS ?_; clear HX; intro w HX) | (refine uA ?_; clear HX; (first | (have hq := b2; clear hq; intro w b3 HX) | (have hq := b; clear hq; intro w b2 HX) | intro w b HX)))
  refine (ymv' HX.out.up2 hd rs rn ops _ HV.out.1 HV.out.2.2.1).mono ?_
  rw [HB.out.1]
  rintro e w ⟨v4, rfl, hx⟩
  replace HX := Lib.hid hx
  clear hx
  go_wp2_with (first | refine u0 ?_ | (refine uS ?_; clear HX; intro w HX) | (refine uA ?_; clear HX; (first | (have hq := b2; clear hq; intro w b3 HX) | (have hq := b; clear hq; intro w b2 HX) | intro w b HX)) | (refine yxz' HX Tryz.underlying71 Tryz.underlying5 Tryz.underlying9 rfl rfl ?_; simp only [Act.put, k_a, k_b, k_c]))
  have hz : (⟨bs.toArray⟩ : ByteArray).size = bs.length := by show bs.toArray.size = _; simp
  refine (ylq' HX.out.up2 ⟨bs.toArray⟩ (by simp [yar']) (by have := HB.out.2; omega)).mono ?_
  rintro e w ⟨v5, rfl, hx⟩
  replace HX := Lib.hid hx
  clear hx
  clear hz
  go_wp2_with (first | refine u0 ?_ | (refine uS ?_; clear HX; intro w HX) | (refine uA ?_; clear HX; (first | (have hq := b2; clear hq; intro w b3 HX) | (have hq := b; clear hq; intro w b2 HX) | intro w b HX)))
  go_ret
  refine ⟨v5, rfl, ?_⟩
  unfold putC
  rw [if_pos rfl]
  dsimp only
  rw [HB.out.1]
  exact HX.out.pm 4 [0, 2] rfl rfl
 have HLB := Lib.hid (show ∀ x : Int, (yah' k0 ++ yah' id).length = 16 from fun _ => by rw [List.length_append, yar', yar'])
 by_cases h2 : k0 = 2
 ·subst h2
  obtain ⟨bs, hbs⟩ : ∃ bs, putR sess id ops = bs := ⟨_, rfl⟩
  have HB := Lib.hid (show _ ∧ _ from ⟨hbs, (by rw [← hbs]; exact ygy' sess id ops : bs.length ≤ 19864)⟩)
  clear hbs h1 HLB
  go_enter Tryz.func41, Tryz.ntmps41
  go_wp2_with (first | refine u0 ?_ | (refine uS ?_; clear HX; intro w HX) | (refine uA ?_; clear HX; (first | (have hq := b2; clear hq; intro w b3 HX) | (have hq := b; clear hq; intro w b2 HX) | intro w b HX)))
  refine (ye2' (l := []) (xs := [2, id]) (n := 2) ((HX.out.newCell _).nilRow 1) rfl (by omega) (by simp)).mono ?_
  rintro e w ⟨v3, rfl, hx⟩
  rw [show ([] : Bs) ++ [2, id].flatMap yah' = yah' 2 ++ yah' id by simp] at hx
  replace HX := Lib.hid hx
  clear hx
  go_wp2_with (first | refine u0 ?_ | (refine uS ?_; clear HX; intro w HX) | (refine uA ?_; clear HX; (first | (have hq := b2; clear hq; intro w b3 HX) | (have hq := b; clear hq; intro w b2 HX) | intro w b HX)))
  refine rM (fun W => (∃ Ts, Sep w0 W (yac' b (.cells #[.int .i64 2, .int .i64 id, .int .i64 sess, .int .i64 rs, .int .i64 rn, .slice oa on oc, .slice sa sn sc, .int .i64 shard, .bool yes] 70 (0, 0)) :: yac' b2 (.cells #[.int .i64 sess, .int .i64 id, .slice oa on oc] 42 (0, 0)) :: Ts) rows)) 11 ?_
  intro KEEPX
  replace HX := Lib.hid HX.out.drew
  have hl : ∀ V, (∃ Ts, Sep w0 V (yac' b (.cells #[.int .i64 2, .int .i64 id, .int .i64 sess, .int .i64 rs, .int .i64 rn, .slice oa on oc, .slice sa sn sc, .int .i64 shard, .bool yes] 70 (0, 0)) :: yac' b2 (.cells #[.int .i64 sess, .int .i64 id, .slice oa on oc] 42 (0, 0)) :: Ts) rows) → (Instr.loadAt 2 (.pointer (some ⟨b, 2, none⟩))).run Tryz.prog V = .ok (.int .i64 sess) V := by
   rintro V ⟨Ts, hV⟩
   exact yae' (by kernel_rfl) (yaa' hV.blk 2 rfl)
  have hl2 : ∀ V, (∃ Ts, Sep w0 V (yac' b (.cells #[.int .i64 2, .int .i64 id, .int .i64 sess, .int .i64 rs, .int .i64 rn, .slice oa on oc, .slice sa sn sc, .int .i64 shard, .bool yes] 70 (0, 0)) :: yac' b2 (.cells #[.int .i64 sess, .int .i64 id, .slice oa on oc] 42 (0, 0)) :: Ts) rows) → (Instr.loadAt 68 (.pointer (some ⟨b, 6, none⟩))).run Tryz.prog V = .ok (.slice sa sn sc) V := by
   rintro V ⟨Ts, hV⟩
   exact yae' (by kernel_rfl) (yaa' hV.blk 6 rfl)
  have hl3 : ∀ V, (∃ Ts, Sep w0 V (yac' b (.cells #[.int .i64 2, .int .i64 id, .int .i64 sess, .int .i64 rs, .int .i64 rn, .slice oa on oc, .slice sa sn sc, .int .i64 shard, .bool yes] 70 (0, 0)) :: yac' b2 (.cells #[.int .i64 sess, .int .i64 id, .slice oa on oc] 42 (0, 0)) :: Ts) rows) → (Instr.loadAt 42 (.pointer (some ⟨b2, 0, none⟩))).run Tryz.prog V = .ok (.agg #[.int .i64 sess, .int .i64 id, .slice oa on oc]) V := by
   rintro V ⟨Ts, hV⟩
   exact ya1' sn_req.1 hV.up1.blk (Nat.le_refl 3)
  refine rT [(0, false), (1, false), (2, true), (4, false), (5, true), (7, true)] 6 ?_
  apply Exists.intro; refine ⟨?_, ⟨_, HX.out.up2⟩, ?_⟩
  ·iterate 6 (refine xE ?_)
   exact rfl
  clear hl hl2 hl3
  refine r1 5 3 fun K hK => ?_
  go_wp2_with fail
  refine (yix' HX.out.up1 sess (by simp [yar'])).mono ?_
  rintro e w ⟨v4, rfl, hx⟩
  replace HX := Lib.hid hx
  clear hx
  go_wp2_with fail
  refine hK _ _ ⟨_, HX.out.up1.up2⟩ ?_
  clear hK
  refine r1 4 6 fun K hK => ?_
  go_wp2_with fail
  refine (yhx' v4 _ (HX.out.up3.up1) _ shards HV.out.2.1 (by simp [yar']) HV.out.2.2.2).mono ?_
  rintro e w ⟨v5, rfl, hx⟩
  replace HX := Lib.hid hx
  clear hx
  go_wp2_with fail
  refine hK _ _ ⟨_, HX.out.up2.up3⟩ ?_
  clear hK
  refine r1 3 8 fun K hK => ?_
  go_wp2_with fail
  refine (ymv' HX.out.up1 hd sess id ops _ HV.out.1 HV.out.2.2.1).mono ?_
  rw [HB.out.1]
  rintro e w ⟨v6, rfl, hx⟩
  replace HX := Lib.hid hx
  clear hx
  go_wp2_with fail
  refine hK _ _ ⟨_, HX.out.up3.up4⟩ ?_
  clear hK
  refine r1 2 9 fun K hK => ?_
  go_wp2_with (first | refine u0 ?_ | (refine uS ?_; clear HX; intro w HX) | (refine uA ?_; clear HX; (first | (have hq := b2; clear hq; intro w b3 HX) | (have hq := b; clear hq; intro w b2 HX) | intro w b HX)) | (refine yxz' HX Tryz.underlying71 Tryz.underlying5 Tryz.underlying9 rfl rfl ?_; simp only [Act.put, k_a, k_b, k_c]))
  refine hK _ _ ⟨_, HX.out.up3.up4⟩ ?_
  clear hK
  refine r1 1 10 fun K hK => ?_
  go_wp2_with fail
  have hz : (⟨bs.toArray⟩ : ByteArray).size = bs.length := by show bs.toArray.size = _; simp
  refine (ylq' HX.out.up2 ⟨bs.toArray⟩ (by have := HV.out.2.2.2; unfold shB; simp only [List.length_append, yar', ydl']; omega) (by have := HB.out.2; omega)).mono ?_
  rintro e w ⟨v7, rfl, hx⟩
  replace HX := Lib.hid hx
  clear hx
  clear hz
  go_wp2_with fail
  refine hK _ _ ⟨_, HX.out.up3.up4⟩ ?_
  clear hK
  refine rL [11] 0 ?_
  simp only [List.filterMap_cons, List.filterMap_nil, k_i, k_j, k_k]
  go_wp2_with (first | refine u0 ?_ | (refine uS ?_; clear HX; intro w HX) | (refine uA ?_; clear HX; (first | (have hq := b2; clear hq; intro w b3 HX) | (have hq := b; clear hq; intro w b2 HX) | intro w b HX)))
  go_ret
  refine ⟨v7, rfl, ?_⟩
  unfold putC
  dsimp only
  rw [if_neg (show ¬ (2 : Int) = 1 by decide), if_pos rfl, HB.out.1]
  exact HX.out.pm 5 [0, 2] rfl rfl
 by_cases h3 : k0 = 3
 ·subst h3
  clear h1 h2 HLB
  go_enter Tryz.func41, Tryz.ntmps41
  go_wp2_with (first | refine u0 ?_ | (refine uS ?_; clear HX; intro w HX) | (refine uA ?_; clear HX; (first | (have hq := b2; clear hq; intro w b3 HX) | (have hq := b; clear hq; intro w b2 HX) | intro w b HX)))
  refine (ye2' (l := []) (xs := [3, id]) (n := 2) ((HX.out.newCell _).nilRow 1) rfl (by omega) (by simp)).mono ?_
  rintro e w ⟨v3, rfl, hx⟩
  rw [show ([] : Bs) ++ [3, id].flatMap yah' = yah' 3 ++ yah' id by simp] at hx
  replace HX := Lib.hid hx
  clear hx
  go_wp2_with (first | refine u0 ?_ | (refine uS ?_; clear HX; intro w HX) | (refine uA ?_; clear HX; (first | (have hq := b2; clear hq; intro w b3 HX) | (have hq := b; clear hq; intro w b2 HX) | intro w b HX)))
  refine rM (fun W => (∃ Ts, Sep w0 W (yac' b (.cells #[.int .i64 3, .int .i64 id, .int .i64 sess, .int .i64 rs, .int .i64 rn, .slice oa on oc, .slice sa sn sc, .int .i64 shard, .bool yes] 70 (0, 0)) :: Ts) rows)) 7 ?_
  intro KEEPX
  replace HX := Lib.hid HX.out.drew
  have hl : ∀ V, (∃ Ts, Sep w0 V (yac' b (.cells #[.int .i64 3, .int .i64 id, .int .i64 sess, .int .i64 rs, .int .i64 rn, .slice oa on oc, .slice sa sn sc, .int .i64 shard, .bool yes] 70 (0, 0)) :: Ts) rows) → (Instr.loadAt 2 (.pointer (some ⟨b, 2, none⟩))).run Tryz.prog V = .ok (.int .i64 sess) V := by
   rintro V ⟨Ts, hV⟩
   exact yae' (by kernel_rfl) (yaa' hV.blk 2 rfl)
  have hl2 : ∀ V, (∃ Ts, Sep w0 V (yac' b (.cells #[.int .i64 3, .int .i64 id, .int .i64 sess, .int .i64 rs, .int .i64 rn, .slice oa on oc, .slice sa sn sc, .int .i64 shard, .bool yes] 70 (0, 0)) :: Ts) rows) → (Instr.loadAt 68 (.pointer (some ⟨b, 6, none⟩))).run Tryz.prog V = .ok (.slice sa sn sc) V := by
   rintro V ⟨Ts, hV⟩
   exact yae' (by kernel_rfl) (yaa' hV.blk 6 rfl)
  refine rT [(0, false), (1, false), (2, true), (4, false), (5, true)] 3 ?_
  apply Exists.intro; refine ⟨?_, ⟨_, HX.out.up1⟩, ?_⟩
  ·iterate 5 (refine xE ?_)
   exact rfl
  clear hl hl2
  refine r1 2 3 fun K hK => ?_
  go_wp2_with fail
  refine (yix' HX.out sess (by simp [yar'])).mono ?_
  rintro e w ⟨v4, rfl, hx⟩
  replace HX := Lib.hid hx
  clear hx
  go_wp2_with fail
  refine hK _ _ ⟨_, HX.out.up1⟩ ?_
  clear hK
  refine r1 1 6 fun K hK => ?_
  go_wp2_with fail
  refine (yhx' v4 _ HX.out.up2.up1 _ shards HV.out.2.1 (by simp [yar']) HV.out.2.2.2).mono ?_
  rintro e w ⟨v5, rfl, hx⟩
  replace HX := Lib.hid hx
  clear hx
  go_wp2_with fail
  refine hK _ _ ⟨_, HX.out.up2⟩ ?_
  clear hK
  refine rL [7] 0 ?_
  simp only [List.filterMap_cons, List.filterMap_nil, k_i, k_j, k_k]
  go_wp2_with (first | refine u0 ?_ | (refine uS ?_; clear HX; intro w HX) | (refine uA ?_; clear HX; (first | (have hq := b2; clear hq; intro w b3 HX) | (have hq := b; clear hq; intro w b2 HX) | intro w b HX)))
  go_ret
  refine ⟨v5, rfl, ?_⟩
  unfold putC
  dsimp only
  rw [if_neg (show ¬ (3 : Int) = 1 by decide), if_neg (show ¬ (3 : Int) = 2 by decide), if_pos rfl]
  exact HX.out.pm 3 [0, 1] rfl rfl
 by_cases h4 : k0 = 4
 ·subst h4
  clear h1 h2 h3 HLB
  go_enter Tryz.func41, Tryz.ntmps41
  go_wp2_with (first | refine u0 ?_ | (refine uS ?_; clear HX; intro w HX) | (refine uA ?_; clear HX; (first | (have hq := b2; clear hq; intro w b3 HX) | (have hq := b; clear hq; intro w b2 HX) | intro w b HX)))
  refine (ye2' (l := []) (xs := [4, id]) (n := 2) ((HX.out.newCell _).nilRow 1) rfl (by omega) (by simp)).mono ?_
  rintro e w ⟨v3, rfl, hx⟩
  rw [show ([] : Bs) ++ [4, id].flatMap yah' = yah' 4 ++ yah' id by simp] at hx
  replace HX := Lib.hid hx
  clear hx
  go_wp2_with (first | refine u0 ?_ | (refine uS ?_; clear HX; intro w HX) | (refine uA ?_; clear HX; (first | (have hq := b2; clear hq; intro w b3 HX) | (have hq := b; clear hq; intro w b2 HX) | intro w b HX)))
  refine (yry' yes _).mono ?_
  rintro e w1 ⟨rfl, rfl⟩
  go_wp2_with (first | refine u0 ?_ | (refine uS ?_; clear HX; intro w HX) | (refine uA ?_; clear HX; (first | (have hq := b2; clear hq; intro w b3 HX) | (have hq := b; clear hq; intro w b2 HX) | intro w b HX)))
  refine (yix' HX.out (bitI yes) (by simp [yar'])).mono ?_
  rintro e w ⟨v5, rfl, hx⟩
  replace HX := Lib.hid hx
  clear hx
  go_wp2_with (first | refine u0 ?_ | (refine uS ?_; clear HX; intro w HX) | (refine uA ?_; clear HX; (first | (have hq := b2; clear hq; intro w b3 HX) | (have hq := b; clear hq; intro w b2 HX) | intro w b HX)))
  go_ret
  refine ⟨v5, rfl, ?_⟩
  unfold putC
  dsimp only
  rw [if_neg (show ¬ (4 : Int) = 1 by decide), if_neg (show ¬ (4 : Int) = 2 by decide), if_neg (show ¬ (4 : Int) = 3 by decide), if_pos rfl]
  exact HX.out.pm 3 [0, 2] rfl rfl
 by_cases h5 : k0 = 5
 ·subst h5
  clear h1 h2 h3 h4 HLB
  go_enter Tryz.func41, Tryz.ntmps41
  go_wp2_with (first | refine u0 ?_ | (refine uS ?_; clear HX; intro w HX) | (refine uA ?_; clear HX; (first | (have hq := b2; clear hq; intro w b3 HX) | (have hq := b; clear hq; intro w b2 HX) | intro w b HX)))
  refine (ye2' (l := []) (xs := [5, id]) (n := 2) ((HX.out.newCell _).nilRow 1) rfl (by omega) (by simp)).mono ?_
  rintro e w ⟨v3, rfl, hx⟩
  rw [show ([] : Bs) ++ [5, id].flatMap yah' = yah' 5 ++ yah' id by simp] at hx
  replace HX := Lib.hid hx
  clear hx
  go_wp2_with (first | refine u0 ?_ | (refine uS ?_; clear HX; intro w HX) | (refine uA ?_; clear HX; (first | (have hq := b2; clear hq; intro w b3 HX) | (have hq := b; clear hq; intro w b2 HX) | intro w b HX)))
  refine (yhx' v3 _ HX.out.up2.up1 _ shards HV.out.2.1 (by simp [yar']) HV.out.2.2.2).mono ?_
  rintro e w ⟨v5, rfl, hx⟩
  replace HX := Lib.hid hx
  clear hx
  go_wp2_with (first | refine u0 ?_ | (refine uS ?_; clear HX; intro w HX) | (refine uA ?_; clear HX; (first | (have hq := b2; clear hq; intro w b3 HX) | (have hq := b; clear hq; intro w b2 HX) | intro w b HX)))
  go_ret
  refine ⟨v5, rfl, ?_⟩
  unfold putC
  dsimp only
  rw [if_neg (show ¬ (5 : Int) = 1 by decide), if_neg (show ¬ (5 : Int) = 2 by decide), if_neg (show ¬ (5 : Int) = 3 by decide), if_neg (show ¬ (5 : Int) = 4 by decide), if_pos rfl]
  exact HX.out.pm 3 [0, 1] rfl rfl
 by_cases h6 : k0 = 6
 ·subst h6
  clear h1 h2 h3 h4 h5 HLB
  go_enter Tryz.func41, Tryz.ntmps41
  go_wp2_with (first | refine u0 ?_ | (refine uS ?_; clear HX; intro w HX) | (refine uA ?_; clear HX; (first | (have hq := b2; clear hq; intro w b3 HX) | (have hq := b; clear hq; intro w b2 HX) | intro w b HX)))
  refine (ye2' (l := []) (xs := [6, id]) (n := 2) ((HX.out.newCell _).nilRow 1) rfl (by omega) (by simp)).mono ?_
  rintro e w ⟨v3, rfl, hx⟩
  rw [show ([] : Bs) ++ [6, id].flatMap yah' = yah' 6 ++ yah' id by simp] at hx
  replace HX := Lib.hid hx
  clear hx
  go_wp2_with (first | refine u0 ?_ | (refine uS ?_; clear HX; intro w HX) | (refine uA ?_; clear HX; (first | (have hq := b2; clear hq; intro w b3 HX) | (have hq := b; clear hq; intro w b2 HX) | intro w b HX)))
  refine rM (fun W => (∃ Ts, Sep w0 W (yac' b (.cells #[.int .i64 6, .int .i64 id, .int .i64 sess, .int .i64 rs, .int .i64 rn, .slice oa on oc, .slice sa sn sc, .int .i64 shard, .bool yes] 70 (0, 0)) :: Ts) rows)) 8 ?_
  intro KEEPX
  replace HX := Lib.hid HX.out.drew
  have hl : ∀ V, (∃ Ts, Sep w0 V (yac' b (.cells #[.int .i64 6, .int .i64 id, .int .i64 sess, .int .i64 rs, .int .i64 rn, .slice oa on oc, .slice sa sn sc, .int .i64 shard, .bool yes] 70 (0, 0)) :: Ts) rows) → (Instr.loadAt 3 (.pointer (some ⟨b, 7, none⟩))).run Tryz.prog V = .ok (.int .i64 shard) V := by
   rintro V ⟨Ts, hV⟩
   exact yae' (by kernel_rfl) (yaa' hV.blk 7 rfl)
  have hl2 : ∀ V, (∃ Ts, Sep w0 V (yac' b (.cells #[.int .i64 6, .int .i64 id, .int .i64 sess, .int .i64 rs, .int .i64 rn, .slice oa on oc, .slice sa sn sc, .int .i64 shard, .bool yes] 70 (0, 0)) :: Ts) rows) → (Instr.loadAt 4 (.pointer (some ⟨b, 8, none⟩))).run Tryz.prog V = .ok (.bool yes) V := by
   rintro V ⟨Ts, hV⟩
   exact yae' (by kernel_rfl) (yaa' hV.blk 8 rfl)
  refine rT [(0, false), (1, false), (2, true), (3, false), (4, true)] 4 ?_
  apply Exists.intro; refine ⟨?_, ⟨_, HX.out.up1⟩, ?_⟩
  ·iterate 5 (refine xE ?_)
   exact rfl
  clear hl hl2
  refine r1 3 5 fun K hK => ?_
  go_wp2_with fail
  refine (yry' yes _).mono ?_
  rintro e w1 ⟨rfl, rfl⟩
  go_wp2_with fail
  refine hK _ _ ⟨_, HX.out.up1⟩ ?_
  clear hK
  refine r1 2 6 fun K hK => ?_
  go_wp2_with (first | refine u0 ?_ | (refine uS ?_; clear HX; intro w HX) | (refine uA ?_; clear HX; (first | (have hq := b2; clear hq; intro w b3 HX) | (have hq := b; clear hq; intro w b2 HX) | intro w b HX)))
  have hx : Sep w0 (w.alloc (.cells #[.int .i64 shard, .int .i64 (bitI yes)] 2 (0, 0))).drew (yac' w.heap.size (.cells #[.int .i64 shard, .int .i64 (bitI yes)] 2 (0, 0)) :: _) rows := HX.out.newCell (.cells #[.int .i64 shard, .int .i64 (bitI yes)] 2 (0, 0))
  generalize w.heap.size = cb at hx ⊢
  generalize (w.alloc (.cells #[.int .i64 shard, .int .i64 (bitI yes)] 2 (0, 0))).drew = w4 at hx ⊢
  replace HX := Lib.hid hx
  clear hx
  refine hK _ _ ⟨_, HX.out.up2⟩ ?_
  clear hK
  refine r1 1 7 fun K hK => ?_
  go_wp2_with fail
  refine (ye2' (xs := [shard, bitI yes]) (n := 2) HX.out.up1 rfl (by omega) (by simp [yar'])).mono ?_
  rintro e w ⟨v5, rfl, hx⟩
  replace HX := Lib.hid hx
  clear hx
  go_wp2_with fail
  refine hK _ _ ⟨_, HX.out.up1⟩ ?_
  clear hK
  refine rL [8] 0 ?_
  simp only [List.filterMap_cons, List.filterMap_nil, k_i, k_j, k_k]
  go_wp2_with (first | refine u0 ?_ | (refine uS ?_; clear HX; intro w HX) | (refine uA ?_; clear HX; (first | (have hq := b2; clear hq; intro w b3 HX) | (have hq := b; clear hq; intro w b2 HX) | intro w b HX)))
  go_ret
  refine ⟨v5, rfl, ?_⟩
  unfold putC
  dsimp only
  rw [if_neg (show ¬ (6 : Int) = 1 by decide), if_neg (show ¬ (6 : Int) = 2 by decide), if_neg (show ¬ (6 : Int) = 3 by decide), if_neg (show ¬ (6 : Int) = 4 by decide), if_neg (show ¬ (6 : Int) = 5 by decide), if_pos rfl, show yah' 6 ++ yah' id ++ yah' shard ++ yah' (bitI yes) = yah' 6 ++ yah' id ++ [shard, bitI yes].flatMap yah' by simp]
  exact HX.out.pm 3 [0, 2] rfl rfl
 by_cases h7 : k0 = 7
 ·subst h7
  clear h1 h2 h3 h4 h5 h6 HLB
  go_enter Tryz.func41, Tryz.ntmps41
  go_wp2_with (first | refine u0 ?_ | (refine uS ?_; clear HX; intro w HX) | (refine uA ?_; clear HX; (first | (have hq := b2; clear hq; intro w b3 HX) | (have hq := b; clear hq; intro w b2 HX) | intro w b HX)))
  refine (ye2' (l := []) (xs := [7, id]) (n := 2) ((HX.out.newCell _).nilRow 1) rfl (by omega) (by simp)).mono ?_
  rintro e w ⟨v3, rfl, hx⟩
  rw [show ([] : Bs) ++ [7, id].flatMap yah' = yah' 7 ++ yah' id by simp] at hx
  replace HX := Lib.hid hx
  clear hx
  go_wp2_with (first | refine u0 ?_ | (refine uS ?_; clear HX; intro w HX) | (refine uA ?_; clear HX; (first | (have hq := b2; clear hq; intro w b3 HX) | (have hq := b; clear hq; intro w b2 HX) | intro w b HX)))
  refine (yix' HX.out shard (by simp [yar'])).mono ?_
  rintro e w ⟨v5, rfl, hx⟩
  replace HX := Lib.hid hx
  clear hx
  go_wp2_with (first | refine u0 ?_ | (refine uS ?_; clear HX; intro w HX) | (refine uA ?_; clear HX; (first | (have hq := b2; clear hq; intro w b3 HX) | (have hq := b; clear hq; intro w b2 HX) | intro w b HX)))
  go_ret
  refine ⟨v5, rfl, ?_⟩
  unfold putC
  dsimp only
  rw [if_neg (show ¬ (7 : Int) = 1 by decide), if_neg (show ¬ (7 : Int) = 2 by decide), if_neg (show ¬ (7 : Int) = 3 by decide), if_neg (show ¬ (7 : Int) = 4 by decide), if_neg (show ¬ (7 : Int) = 5 by decide), if_neg (show ¬ (7 : Int) = 6 by decide), if_pos rfl]
  exact HX.out.pm 3 [0, 2] rfl rfl
 by_cases h8 : k0 = 8
 ·subst h8
  clear h1 h2 h3 h4 h5 h6 h7 HLB
  go_enter Tryz.func41, Tryz.ntmps41
  go_wp2_with (first | refine u0 ?_ | (refine uS ?_; clear HX; intro w HX) | (refine uA ?_; clear HX; (first | (have hq := b2; clear hq; intro w b3 HX) | (have hq := b; clear hq; intro w b2 HX) | intro w b HX)))
  refine (ye2' (l := []) (xs := [8, id]) (n := 2) ((HX.out.newCell _).nilRow 1) rfl (by omega) (by simp)).mono ?_
  rintro e w ⟨v3, rfl, hx⟩
  rw [show ([] : Bs) ++ [8, id].flatMap yah' = yah' 8 ++ yah' id by simp] at hx
  replace HX := Lib.hid hx
  clear hx
  go_wp2_with (first | refine u0 ?_ | (refine uS ?_; clear HX; intro w HX) | (refine uA ?_; clear HX; (first | (have hq := b2; clear hq; intro w b3 HX) | (have hq := b; clear hq; intro w b2 HX) | intro w b HX)))
  go_ret
  refine ⟨v3, rfl, ?_⟩
  unfold putC
  dsimp only
  rw [if_neg (show ¬ (8 : Int) = 1 by decide), if_neg (show ¬ (8 : Int) = 2 by decide), if_neg (show ¬ (8 : Int) = 3 by decide), if_neg (show ¬ (8 : Int) = 4 by decide), if_neg (show ¬ (8 : Int) = 5 by decide), if_neg (show ¬ (8 : Int) = 6 by decide), if_neg (show ¬ (8 : Int) = 7 by decide), if_pos rfl]
  exact HX.out.pm 3 [0, 2] rfl rfl
 have q1 : (k0 == 1) = false := by rw [beq_eq_false_iff_ne]; exact h1
 have q2 : (k0 == 2) = false := by rw [beq_eq_false_iff_ne]; exact h2
 have q3 : (k0 == 3) = false := by rw [beq_eq_false_iff_ne]; exact h3
 have q4 : (k0 == 4) = false := by rw [beq_eq_false_iff_ne]; exact h4
 have q5 : (k0 == 5) = false := by rw [beq_eq_false_iff_ne]; exact h5
 have q6 : (k0 == 6) = false := by rw [beq_eq_false_iff_ne]; exact h6
 have q7 : (k0 == 7) = false := by rw [beq_eq_false_iff_ne]; exact h7
 have q8 : (k0 == 8) = false := by rw [beq_eq_false_iff_ne]; exact h8
 have HNO := Lib.hid (show putC ⟨k0, id, sess, rs, rn, ops, shards, shard, yes⟩ = [] by unfold putC; dsimp only; rw [if_neg h1, if_neg h2, if_neg h3, if_neg h4, if_neg h5, if_neg h6, if_neg h7, if_neg h8])
 clear h1 h2 h3 h4 h5 h6 h7 h8 HLB
 go_enter Tryz.func41, Tryz.ntmps41
 go_wp2_with (first | refine u0 ?_ | (refine uS ?_; clear HX; intro w HX) | (refine uA ?_; clear HX; (first | (have hq := b2; clear hq; intro w b3 HX) | (have hq := b; clear hq; intro w b2 HX) | intro w b HX)))
 refine (ye2' (l := []) (xs := [k0, id]) (n := 2) ((HX.out.newCell _).nilRow 1) rfl (by omega) (by simp)).mono ?_
 rintro e w ⟨v3, rfl, hx⟩
 rw [show ([] : Bs) ++ [k0, id].flatMap yah' = yah' k0 ++ yah' id by simp] at hx
 replace HX := Lib.hid hx
 clear hx
 go_wp2_with (first | refine u0 ?_ | (refine uS ?_; clear HX; intro w HX) | (refine uA ?_; clear HX; (first | (have hq := b2; clear hq; intro w b3 HX) | (have hq := b; clear hq; intro w b2 HX) | intro w b HX)))
 go_ret
 refine ⟨_, rfl, ?_⟩
 rw [HNO.out]
 exact (HX.out.pm 3 [2] rfl rfl).nilRow 1
end
end Go.Proofs.YtcnkifbjlihaoaaGreatDoor

namespace Go.Proofs.YtcnkifbjlihaoaaGreatDoor
open Go.RowKit Go.Av
theorem yic' {w W : World} (h : W.heap = w.heap) (a : Addr) : W.cell? a = w.cell? a := by unfold World.cell?; rw [h]
theorem ywy' {l1 l2 : Bs} {p : Nat} (h : l1.take p = l2.take p) (h1 : p < l1.length) (h2 : p < l2.length) (he : l1[p] = l2[p]) : l1.take (p + 1) = l2.take (p + 1) := by
 rw [List.take_succ_eq_append_getElem h1, List.take_succ_eq_append_getElem h2, h, he]
set_option maxRecDepth 100000 in
set_option maxHeartbeats 1000000 in
theorem yyw' (v1 v2 : Value) (l1 l2 : Bs) (E1 E2 : List Nat) (w : World) (h1 : ReadRow w 1 v1 (l1.map bv) E1) (h2 : ReadRow w 1 v2 (l2.map bv) E2) :
  Calls Tryz.prog 108 #[v1, v2] w fun e w' => e = .returned (.bool (decide (l1 = l2))) ∧ Upd w w' [] [] := by
 obtain ⟨a1, n1, c1, rfl, -⟩ := id h1
 obtain ⟨hn1, hnc1, hcm1, hcell1⟩ := yck' h1
 obtain ⟨a2, n2, c2, rfl, -⟩ := id h2
 obtain ⟨hn2, hnc2, hcm2, hcell2⟩ := yck' h2
 rw [List.length_map] at hn1 hn2
 subst hn1
 subst hn2
 unfold maxLen at hcm1 hcm2
 have HC1 := Lib.hid hcell1
 have HC2 := Lib.hid hcell2
 clear hcell1 hcell2 h1 h2
 by_cases hll : l1.length = l2.length
 case neg =>
  have hb : ((l1.length : Int) != (l2.length : Int)) = true := by simp; omega
  have HD := Lib.hid (show decide (l1 = l2) = false by simp; intro e; exact hll (by rw [e]))
  clear hll
  go_enter Tryz.func108, Tryz.ntmps108
  go_wp2_with fail
  go_ret
  rw [HD.out]
  exact ⟨rfl, Upd.refl _ _⟩
 have hb : ((l1.length : Int) != (l2.length : Int)) = false := by simp; omega
 have HLL := Lib.hid hll
 clear hll
 go_enter Tryz.func108, Tryz.ntmps108
 go_wp2_with fail
 go_loopg [5, 13] l1.length (fun k _ i wr => ∃ p : Nat, p ≤ l1.length ∧ k = l1.length - p ∧ i = .int .i64 (p : Int) ∧ l1.take p = l2.take p ∧ wr.heap = w.heap ∧ Upd w wr [] [])
 case atStart => exact ⟨0, Nat.zero_le _, rfl, rfl, rfl, rfl, Upd.refl _ _⟩
 case round =>
  obtain ⟨p, hp, hk, hv, ht, hh, hu⟩ := hrel
  subst hv
  by_cases hlt : p < l1.length
  ·have hlt2 : p < l2.length := by rw [← HLL.out]; exact hlt
   obtain ⟨x1, rfl, hs1, hx1⟩ := HC1.out (by omega)
   obtain ⟨x2, rfl, hs2, hx2⟩ := HC2.out (by omega)
   have k1 := fun (W : World) (hW : W.heap = wr.heap) => (yic' (hW.trans hh) _).trans (hx1 p (bv l1[p]) (by rw [List.getElem?_map, List.getElem?_eq_getElem hlt]; rfl))
   have k2 := fun (W : World) (hW : W.heap = wr.heap) => (yic' (hW.trans hh) _).trans (hx2 p (bv l2[p]) (by rw [List.getElem?_map, List.getElem?_eq_getElem hlt2]; rfl))
   obtain ⟨u1, hu1⟩ : ∃ u, l1[p] = u := ⟨_, rfl⟩
   obtain ⟨u2, hu2⟩ : ∃ u, l2[p] = u := ⟨_, rfl⟩
   rw [hu1] at k1
   rw [hu2] at k2
   unfold bv at k1 k2
   have HT := Lib.hid (show _ ∧ _ ∧ _ ∧ _ ∧ _ from ⟨ht, hu1, hu2, hh, hu⟩)
   clear hx1 hx2 ht hu1 hu2 hh hu
   obtain ⟨b, hbb⟩ : ∃ b, ((u1.toNat : Int) != (u2.toNat : Int)) = b := ⟨_, rfl⟩
   have HB := Lib.hid hbb
   go_wp2_with fail
   refine yao' (fun W => W.heap = wr.heap) 9 (by kernel_rfl) ?_
   refine rT [(0, false), (1, false), (2, false), (3, true), (4, false), (5, false), (6, false), (7, true), (8, false)] 0 ?_
   apply Exists.intro; refine ⟨?_, rfl, ?_⟩
   ·iterate 9 ((first | (apply yca'; (· (simp only [k_i, k_j, k_k]; try rfl)); (· rfl)) | ((first | apply yax' | apply yas'); (· (simp only [k_i, k_j, k_k]; try rfl)); (· rfl); (· (intros; go_simp; try with_reducible rfl)))); (· (simp only [Act.put, k_a, k_b, k_c]; try rfl)))
    exact rfl
   refine yag' (by kernel_rfl) ?_ _
   cases b with
   | true =>
    have hne : u1 ≠ u2 := by rintro rfl; have := HB.out; simp at this
    have HNE := Lib.hid hne
    clear hne
    go_wp2_with fail
    go_ret
    obtain ⟨ht, hu1, hu2, hh, hu⟩ := HT.out
    refine ⟨?_, hu.drew⟩
    have : decide (l1 = l2) = false := by
     simp
     intro e
     subst e
     exact HNE.out (hu1.symm.trans hu2)
    rw [this]
    rfl
   | false =>
    have heq : u1 = u2 := by have := HB.out; simp at this; exact UInt8.toNat_inj.1 (by omega)
    have HEQ := Lib.hid heq
    clear heq
    go_wp2_with fail
    go_roundg (l1.length - (p + 1))
    case rel =>
     obtain ⟨ht, hu1, hu2, hh, hu⟩ := HT.out
     exact ⟨p + 1, by omega, rfl, by go_num, ywy' ht hlt hlt2 (by rw [hu1, hu2, HEQ.out]), hh, hu.drew⟩
    case measure => omega
  ·obtain rfl : p = l1.length := by omega
   have HU := Lib.hid (show _ ∧ _ from ⟨ht, hu⟩)
   clear ht hu hh
   go_wp2_with fail
   go_ret
   obtain ⟨ht, hu⟩ := HU.out
   rw [List.take_length, HLL.out, List.take_length] at ht
   exact ⟨by simp [ht], hu⟩
theorem yyx' {w0 w : World} {P : List PRow} {R : List Thing} {rows : List (Value × Bs)} (h : Sep w0 w (yab' w0 P :: R) rows) {v1 v2 : Value} {l1 l2 : Bs} (h1 : (1, v1, l1.map bv) ∈ P) (h2 : (1, v2, l2.map bv) ∈ P) :
  Calls Tryz.prog 108 #[v1, v2] w fun e w' => e = .returned (.bool (decide (l1 = l2))) ∧ Sep w0 w' (yab' w0 P :: R) rows := by
 obtain ⟨E1, e1⟩ := h.poolGet h1
 obtain ⟨E2, e2⟩ := h.poolGet h2
 exact (yyw' v1 v2 l1 l2 E1 E2 w e1 e2).mono fun e w' hh => ⟨hh.1, h.keep hh.2⟩
end Go.Proofs.YtcnkifbjlihaoaaGreatDoor
