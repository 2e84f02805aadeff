/-
  Decisions: Vote, Done.
-/
import Derived.Test.YtebmmbommkpjaaaCoordE
namespace Go.Proofs.Ytebmmbommkpjaaa
open Go.RowKit Go.Av

theorem idxQ_any (q : Int → Bool) (l : List Int) : decide (0 ≤ idxQ q l) = l.any q := by
  unfold idxQ
  cases h : findF q l with
  | none =>
    have := findF_none h
    symm
    rw [show (l.any q) = false from List.any_eq_false.2 fun x hx => by rw [this x hx]; simp]
    rfl
  | some i =>
    obtain ⟨h1, h2⟩ := findF_some h
    have : l.any q = true := by
      cases hb : l.any q with
      | true => rfl
      | false =>
        have hf : (l.take (i + 1)).filter (fun x => !q x) = l.take (i + 1) := List.filter_eq_self.2 fun x hx => by
          have := List.any_eq_false.1 hb x (List.mem_of_mem_take hx)
          simpa using this
        rw [hf] at h2
        have := congrArg List.length h2
        simp at this
        omega
    rw [this]
    simp
theorem idxF_lt {k : Int} : ∀ {l : List Int} {i : Nat}, idxF k l = some i → i < l.length
  | [], i, h => by cases h
  | x :: r, i, h => by
    rw [idxF_cons] at h
    by_cases hx : x = k
    · rw [if_pos hx] at h; cases h; simp
    · rw [if_neg hx] at h
      cases hr : idxF k r with
      | none => rw [hr] at h; cases h
      | some j =>
        rw [hr] at h
        cases h
        have := idxF_lt hr
        simp; omega

theorem whole1_any (x : Int) (w : World) : Calls Try.prog 59 #[.int .i64 x] w fun e w' => e = .returned (.bool (x != 1)) ∧ w' = w := by
  obtain ⟨b, hb⟩ : ∃ b, (x != 1) = b := ⟨_, rfl⟩
  rw [hb]
  go_enter Try.func59, Try.ntmps59
  go_wp2_with fail
  go_ret
  exact ⟨rfl, rfl⟩

section
variable {w0 w : World} {c m : Nat} {S : CoS} {l1 l2 : List EntG} {g : EntG} {R : List Thing} {rows : List (Value × Bs)}

theorem containsW_any (v : Value) (l : List Int) (E : List Nat) (w : World) (h : ReadRow w 1 v (l.map iv) E) :
    Calls Try.prog 58 #[v, .func (.func 59) #[] #[]] w fun e w' => e = .returned (.bool (l.any fun x => x != 1)) ∧ w' = w := by
  have hi := indexFunc_whole v l (fun x => x != 1) E w h (fun x => whole1_any x w)
  obtain ⟨k, hk⟩ : ∃ k, idxQ (fun x => x != 1) l = k := ⟨_, rfl⟩
  have ha := idxQ_any (fun x => x != 1) l
  rw [hk] at hi ha
  rw [← ha]
  have HI := Lib.hid hi
  clear hi hk ha h
  go_enter Try.func58, Try.ntmps58
  go_wp2_with fail
  refine HI.out.mono ?_
  rintro e w1 ⟨rfl, rfl⟩
  go_wp2_with fail
  go_ret
  exact ⟨rfl, rfl⟩

def wholeS (l : List Int) : Bool := l.all fun x => x == 1
theorem whole_any (h : CoF w0 w c m l1 g l2 R rows) :
    Calls Try.prog 36 #[.pointer (some ⟨g.p, 0, none⟩)] w fun e w' => e = .returned (.bool (wholeS g.x.votes)) ∧ w' = w := by
  obtain ⟨hc, hl, hp⟩ := h.facts
  have c1 := cell_of hp 1 rfl
  obtain ⟨E, hE⟩ := (h.2.perm (List.perm_middle (l₁ := [_, _]))).readRow
  have hw := containsW_any _ _ E w hE
  have he : wholeS g.x.votes = !(g.x.votes.any fun x => x != 1) := by
    unfold wholeS
    rw [List.all_eq_not_any_not]
    rfl
  obtain ⟨b, hb⟩ : ∃ b, (g.x.votes.any fun x => x != 1) = b := ⟨_, rfl⟩
  rw [he, hb]
  rw [hb] at hw
  have HW := Lib.hid hw
  clear h hl hp hE hw he hb
  go_enter Try.func36, Try.ntmps36
  go_wp2_with fail
  refine HW.out.mono ?_
  rintro e w1 ⟨rfl, rfl⟩
  go_wp2_with fail
  go_ret
  exact ⟨rfl, rfl⟩

def voteF (i : Nat) (ok : Bool) (x : EntS) : EntS :=
  if x.votes.getD i 0 ≠ 0 ∨ x.dec ≠ 0 then x else
    { x with votes := x.votes.set i (if ok then 1 else 2), dec := if ok then (if wholeS (x.votes.set i 1) then 1 else 0) else 2 }
def voteS (S : CoS) (id k : Int) (ok : Bool) : Int × CoS := match lookS id S with
  | none => (4, S)
  | some x => match idxF k x.shards with | none => (4, S) | some i => (0, putS id (voteF i ok) S)

set_option maxRecDepth 100000 in
set_option maxHeartbeats 1000000 in
theorem vote_any (h : Co w0 w c S R rows) (id k : Int) (ok : Bool) :
    Calls Try.prog 13 #[.pointer (some ⟨c, 0, none⟩), .int .i64 id, .int .i64 k, .bool ok] w fun e w' => e = .returned (.int .i64 (voteS S id k ok).1) ∧ Co w0 w' c (voteS S id k ok).2 R rows := by
  unfold voteS
  cases hx : lookS id S with
  | none =>
    have hf := find_no h id k hx
    have H := Lib.hid h
    have HF := Lib.hid hf
    clear h hx hf
    go_enter Try.func13, Try.ntmps13
    go_wp2_with fail
    refine HF.out.mono ?_
    rintro e w1 ⟨rfl, rfl⟩
    go_wp2_with fail
    go_ret
    exact ⟨rfl, H.out⟩
  | some x =>
    obtain ⟨m, l1, g, l2, rfl, rfl, hF, -, hSS⟩ := h.take hx
    have hf := find_yes hF k
    unfold idxS at hf
    dsimp only
    cases hi : idxF k g.x.shards with
    | none =>
      rw [hi] at hf
      have H := Lib.hid h
      have HF := Lib.hid hf
      clear h hx hf hF hSS hi
      go_enter Try.func13, Try.ntmps13
      go_wp2_with fail
      refine HF.out.mono ?_
      rintro e w1 ⟨rfl, rfl⟩
      go_wp2_with fail
      go_ret
      exact ⟨rfl, H.out⟩
    | some i =>
      rw [hi] at hf
      simp only at hf
      have hiv : i < g.x.votes.length := by rw [hF.wf.1]; exact idxF_lt hi
      have hi4 : g.x.votes.length ≤ 4 := by rw [hF.wf.1]; exact hF.wf.2.1
      obtain ⟨hc, hl, hp⟩ := hF.facts
      have c1 := cell_of hp 1 rfl
      have c2 := cell_of hp 2 rfl
      obtain ⟨y, n, c', hvv, hn, hnc, hcm, hsp, hcell, hfr, hset⟩ := hF.setVote hiv
      have hgd : g.x.votes.getD i 0 = g.x.votes[i] := by rw [List.getD_eq_getElem?_getD, List.getElem?_eq_getElem hiv]; rfl
      have hin : i < n := by omega
      have hSB := hF.back
      rw [← hSS] at hSB
      have c1' : w.cell? ⟨g.p, 1, none⟩ = some (.slice (some y) n c') := by rw [c1, ← hvv]; rfl
      show Calls _ _ _ _ (fun e w' => e = .returned (.int .i64 0) ∧ Co w0 w' c (putS g.id (voteF i ok) S) R rows)
      by_cases hu : g.x.votes[i] = 0
      case neg =>
        have hput := hF.put (x := g.x) (voteF i ok) (by unfold voteF; rw [if_pos (.inl (by rw [hgd]; exact hu))])
        rw [show g.upd g.x = g from rfl, ← hSS] at hput
        rw [← hput]
        obtain ⟨u, huu⟩ : ∃ u, g.x.votes[i] = u := ⟨_, rfl⟩
        rw [huu] at hcell hu
        have hb : (u != 0) = true := by simp [hu]
        have H := Lib.hid hSB
        have HF := Lib.hid hf
        clear h hx hf hF hSS hi hgd hset hput hSB hvv hp c1 hu huu hl
        go_enter Try.func13, Try.ntmps13
        go_wp2_with fail
        refine HF.out.mono ?_
        rintro e w1 ⟨rfl, rfl⟩
        go_wp2_with fail
        go_ret
        exact ⟨rfl, H.out⟩
      rw [hu] at hcell
      by_cases hd : g.x.dec = 0
      case neg =>
        have hput := hF.put (x := g.x) (voteF i ok) (by unfold voteF; rw [if_pos (.inr hd)])
        rw [show g.upd g.x = g from rfl, ← hSS] at hput
        rw [← hput]
        have hb : (g.x.dec != 0) = true := by simp [hd]
        have H := Lib.hid hSB
        have HF := Lib.hid hf
        clear h hx hf hF hSS hi hgd hset hput hSB hvv hp c1 hd hu hl
        go_enter Try.func13, Try.ntmps13
        go_wp2_with fail
        refine HF.out.mono ?_
        rintro e w1 ⟨rfl, rfl⟩
        go_wp2_with fail
        go_ret
        exact ⟨rfl, H.out⟩
      have hvF : voteF i ok g.x = { g.x with votes := g.x.votes.set i (if ok then 1 else 2), dec := if ok then (if wholeS (g.x.votes.set i 1) then 1 else 0) else 2 } := by
        unfold voteF
        rw [if_neg (by rw [hgd]; simp [hu, hd])]
      have c2' : w.cell? ⟨g.p, 2, none⟩ = some (.int .i64 0) := by rw [c2]; simp [hd]
      have F1 := hset 2
      obtain ⟨hc1, -, hp1⟩ := F1.facts
      have c11 : (w.setCell (y.add i) (.int .i64 2)).cell? ⟨g.p, 1, none⟩ = some (.slice (some y) n c') := (cell_of hp1 1 rfl).trans (by rw [← hvv]; rfl)
      have y12 : (w.setCell (y.add i) (.int .i64 2)).frozen? ⟨g.p, 2, none⟩ = false := frz_of hp1 2
      have c12 : (w.setCell (y.add i) (.int .i64 2)).cell? ⟨g.p, 2, none⟩ = some (.int .i64 g.x.dec) := cell_of hp1 2 rfl
      cases ok with
      | false =>
        have F2 := (F1.setDec 2).back
        have hput := hF.put (x := { g.x with votes := g.x.votes.set i 2, dec := 2 }) (voteF i false) (by rw [hvF]; rfl)
        rw [← hSS] at hput
        have H := Lib.hid (show Co w0 _ c (putS g.id (voteF i false) S) R rows by rw [← hput]; exact F2)
        have HF := Lib.hid hf
        clear h hx hf hF hSS hi hgd hset hput hSB hvv hp c1 hd hu hl F1 F2 hvF c2 hp1
        go_enter Try.func13, Try.ntmps13
        go_wp2_with fail
        refine HF.out.mono ?_
        rintro e w1 ⟨rfl, rfl⟩
        go_wp2_with fail
        go_ret
        exact ⟨rfl, H.out⟩
      | true =>
        obtain ⟨y2, n2, c2'', hvv2, hn2, -, -, -, hcell2, hfr2, hset2⟩ := F1.setVote (i := i) (by simpa [EntG.upd] using hiv)
        rw [show (g.upd { g.x with votes := g.x.votes.set i 2 }).vv = g.vv from rfl, hvv] at hvv2
        cases hvv2
        have F2 := hset2 1
        obtain ⟨-, -, hp2⟩ := F2.facts
        have c22 : ((w.setCell (y.add i) (.int .i64 2)).setCell (y.add i) (.int .i64 1)).cell? ⟨g.p, 2, none⟩ = some (.int .i64 g.x.dec) := cell_of hp2 2 rfl
        have y22 : ((w.setCell (y.add i) (.int .i64 2)).setCell (y.add i) (.int .i64 1)).frozen? ⟨g.p, 2, none⟩ = false := frz_of hp2 2
        have hss : (((g.upd { g.x with votes := g.x.votes.set i 2 }).x.votes).set i 1) = g.x.votes.set i 1 := by simp [EntG.upd, List.set_set]
        have hwh : Calls Try.prog 36 #[.pointer (some ⟨g.p, 0, none⟩)] ((w.setCell (y.add i) (.int .i64 2)).setCell (y.add i) (.int .i64 1)) fun e w' => e = .returned (.bool (wholeS (g.x.votes.set i 1))) ∧ w' = ((w.setCell (y.add i) (.int .i64 2)).setCell (y.add i) (.int .i64 1)) := by
          have := whole_any F2
          rw [show ((g.upd { g.x with votes := g.x.votes.set i 2 }).upd { (g.upd { g.x with votes := g.x.votes.set i 2 }).x with votes := (g.upd { g.x with votes := g.x.votes.set i 2 }).x.votes.set i 1 }).x.votes = g.x.votes.set i 1 from hss] at this
          exact this
        cases hww : wholeS (g.x.votes.set i 1) with
        | true =>
          rw [hww] at hwh
          have F3 := (F2.setDec 1).back
          have hput := hF.put (x := { g.x with votes := g.x.votes.set i 1, dec := 1 }) (voteF i true) (by rw [hvF, hww]; rfl)
          rw [← hSS] at hput
          have H := Lib.hid (show Co w0 _ c (putS g.id (voteF i true) S) R rows by rw [← hput]; simpa [EntG.upd, EntG.ent, List.set_set] using F3)
          have HF := Lib.hid hf
          have HW := Lib.hid hwh
          clear h hx hf hF hSS hi hgd hset hput hSB hvv hp c1 hd hu hl F1 F2 F3 hvF c2 hp1 hp2 hset2 hss hwh hww hn2
          go_enter Try.func13, Try.ntmps13
          go_wp2_with fail
          refine HF.out.mono ?_
          rintro e w1 ⟨rfl, rfl⟩
          go_wp2_with fail
          refine HW.out.mono ?_
          rintro e w1 ⟨rfl, rfl⟩
          go_wp2_with fail
          go_ret
          exact ⟨rfl, H.out⟩
        | false =>
          rw [hww] at hwh
          have F3 := F2.back
          have hput := hF.put (x := { g.x with votes := g.x.votes.set i 1, dec := 0 }) (voteF i true) (by rw [hvF, hww]; rfl)
          rw [← hSS] at hput
          have H := Lib.hid (show Co w0 _ c (putS g.id (voteF i true) S) R rows by rw [← hput]; simpa [EntG.upd, EntG.ent, List.set_set, hd] using F3)
          have HF := Lib.hid hf
          have HW := Lib.hid hwh
          clear h hx hf hF hSS hi hgd hset hput hSB hvv hp c1 hd hu hl F1 F2 F3 hvF c2 hp1 hp2 hset2 hss hwh hww hn2
          go_enter Try.func13, Try.ntmps13
          go_wp2_with fail
          refine HF.out.mono ?_
          rintro e w1 ⟨rfl, rfl⟩
          go_wp2_with fail
          refine HW.out.mono ?_
          rintro e w1 ⟨rfl, rfl⟩
          go_wp2_with fail
          go_ret
          exact ⟨rfl, H.out⟩
end
end Go.Proofs.Ytebmmbommkpjaaa
