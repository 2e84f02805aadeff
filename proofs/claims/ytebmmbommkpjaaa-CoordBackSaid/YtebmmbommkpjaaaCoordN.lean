/-
  Decisions in bytes: all is written.
-/
import Derived.Test.YtebmmbommkpjaaaCoordM
namespace Go.Proofs.Ytebmmbommkpjaaa
open Go.RowKit Go.Av

section
variable {w0 w : World} {c : Nat} {S : CoS} {R : List Thing} {rows : List (Value × Bs)}

/-- What stands beside, taken up by itself; and laid back. -/
theorem Co.side {A : List Thing} (h : Co w0 w c S (A ++ R) rows) : ∃ X, Sep w0 w (A ++ X) rows ∧ ∀ (w' : World) (A' : List Thing), Sep w0 w' (A' ++ X) rows → Co w0 w' c S (A' ++ R) rows := by
  obtain ⟨m, gs, h1, h2, hS⟩ := h
  have e : ∀ B : List Thing, (B ++ (coHead c m (gs.map EntG.kv) ++ (gs.flatMap EntG.th ++ R))).Perm (coHead c m (gs.map EntG.kv) ++ (gs.flatMap EntG.th ++ (B ++ R))) := fun B => by
    refine (List.perm_append_comm_assoc _ _ _).trans (List.Perm.append_left _ ?_)
    exact List.perm_append_comm_assoc _ _ _
  exact ⟨_, hS.perm (e A).symm, fun w' A' hS' => ⟨m, gs, h1, h2, hS'.perm (e A')⟩⟩

/-- A number is written behind an owned row. -/
theorem packSep {v : Value} {l : Bs} (h : Sep w0 w (ThRow 1 v (l.map bv) :: R) rows) (x : Int) (hl : l.length ≤ 1073741824) :
    Calls Try.prog 51 #[v, .int .i64 x] w fun e w' => ∃ v', e = .returned v' ∧ Sep w0 w' (ThRow 1 v' ((l ++ packI x).map bv) :: R) rows := by
  obtain ⟨E, hE⟩ := h.readRow
  refine (pack_any v l E x w hE hl).mono ?_
  rintro e w' ⟨v', D, rfl, ho, hu⟩
  exact ⟨v', rfl, (h.drop).addRow ho hu⟩
theorem numsSep {v u : Value} {l : Bs} {xs : List Int} (h : Sep w0 w (ThRow 1 v (l.map bv) :: R) rows) (hu : ThRow 1 u (xs.map iv) ∈ R) (hl : l.length ≤ 1000000) (hx : xs.length ≤ 1000) :
    Calls Try.prog 52 #[v, u] w fun e w' => ∃ v', e = .returned v' ∧ Sep w0 w' (ThRow 1 v' ((l ++ numsS xs).map bv) :: R) rows := by
  obtain ⟨E, hE⟩ := h.readRow
  obtain ⟨F, hF⟩ := h.has (T := ThRow 1 u (xs.map iv)) (by simp [hu])
  obtain ⟨F', hF', -⟩ := OwnRow.read hF
  refine (numbers_any v u l xs E F' w hE hF' hl hx).mono ?_
  rintro e w' ⟨v', D, rfl, ho, hu⟩
  exact ⟨v', rfl, (h.drop).addRow ho hu⟩

theorem Co.packC {v : Value} {l : Bs} (h : Co w0 w c S (ThRow 1 v (l.map bv) :: R) rows) (x : Int) (hl : l.length ≤ 1073741824) :
    Calls Try.prog 51 #[v, .int .i64 x] w fun e w' => ∃ v', e = .returned v' ∧ Co w0 w' c S (ThRow 1 v' ((l ++ packI x).map bv) :: R) rows := by
  obtain ⟨X, hS, hb⟩ := Co.side (A := [_]) h
  refine (packSep hS x hl).mono ?_
  rintro e w' ⟨v', rfl, h'⟩
  exact ⟨v', rfl, hb _ [_] h'⟩
end

section
variable {w0 w : World} {c m : Nat} {S : CoS} {l1 l2 : List EntG} {g : EntG} {R : List Thing} {T : Thing} {rows : List (Value × Bs)}
/-- The same with one entry taken up. -/
theorem CoF.side {A : List Thing} (h : CoF w0 w c m l1 g l2 (A ++ R) rows) : ∃ X, Sep w0 w (A ++ (g.th ++ X)) rows ∧ ∀ (w' : World) (A' : List Thing), Sep w0 w' (A' ++ (g.th ++ X)) rows → CoF w0 w' c m l1 g l2 (A' ++ R) rows := by
  obtain ⟨h1, hS⟩ := h
  have e : ∀ B : List Thing, (B ++ (g.th ++ (coHead c m ((l1 ++ g :: l2).map EntG.kv) ++ ((l1 ++ l2).flatMap EntG.th ++ R)))).Perm (g.th ++ (coHead c m ((l1 ++ g :: l2).map EntG.kv) ++ ((l1 ++ l2).flatMap EntG.th ++ (B ++ R)))) := fun B => by
    refine (List.perm_append_comm_assoc _ _ _).trans (List.Perm.append_left _ ?_)
    refine (List.perm_append_comm_assoc _ _ _).trans (List.Perm.append_left _ ?_)
    exact List.perm_append_comm_assoc _ _ _
  exact ⟨_, hS.perm (e A).symm, fun w' A' hS' => ⟨h1, hS'.perm (e A')⟩⟩
theorem CoF.packC {v : Value} {l : Bs} (h : CoF w0 w c m l1 g l2 (ThRow 1 v (l.map bv) :: R) rows) (x : Int) (hl : l.length ≤ 1073741824) :
    Calls Try.prog 51 #[v, .int .i64 x] w fun e w' => ∃ v', e = .returned v' ∧ CoF w0 w' c m l1 g l2 (ThRow 1 v' ((l ++ packI x).map bv) :: R) rows := by
  obtain ⟨X, hS, hb⟩ := CoF.side (A := [_]) h
  refine (packSep hS x hl).mono ?_
  rintro e w' ⟨v', rfl, h'⟩
  exact ⟨v', rfl, hb _ [_] h'⟩
theorem CoF.numsC {v u : Value} {l : Bs} {xs : List Int} (h : CoF w0 w c m l1 g l2 (ThRow 1 v (l.map bv) :: R) rows) (hu : ThRow 1 u (xs.map iv) ∈ g.th) (hl : l.length ≤ 1000000) (hx : xs.length ≤ 1000) :
    Calls Try.prog 52 #[v, u] w fun e w' => ∃ v', e = .returned v' ∧ CoF w0 w' c m l1 g l2 (ThRow 1 v' ((l ++ numsS xs).map bv) :: R) rows := by
  obtain ⟨X, hS, hb⟩ := CoF.side (A := [_]) h
  refine (numsSep hS (by simp [hu]) hl hx).mono ?_
  rintro e w' ⟨v', rfl, h'⟩
  exact ⟨v', rfl, hb _ [_] h'⟩
theorem CoF.row {v : Value} {xs : List Value} (h : CoF w0 w c m l1 g l2 R rows) (hv : ThRow 1 v xs ∈ g.th) : ∃ a n cp, v = .slice a n cp ∧ xs.length = n ∧ n ≤ cp ∧ cp ≤ maxLen ∧ ∀ {i : Nat} {x : Value}, xs[i]? = some x → ∃ y : Addr, a = some y ∧ y.spot = none ∧ w.cell? (y.add i) = some x := by
  obtain ⟨D, hD⟩ := h.2.has (T := ThRow 1 v xs) (by simp [hv])
  obtain ⟨a, n, cp, rfl, hl, hn, hm, -⟩ := id hD
  exact ⟨a, n, cp, rfl, by omega, hn, hm, fun hx => ownCell hD hx⟩
theorem CoF.permR (h : CoF w0 w c m l1 g l2 R rows) {R' : List Thing} (hp : R.Perm R') : CoF w0 w c m l1 g l2 R' rows := by
  obtain ⟨h1, hS⟩ := h
  exact ⟨h1, hS.perm (List.Perm.append_left _ (List.Perm.append_left _ (List.Perm.append_left _ hp)))⟩
end
end Go.Proofs.Ytebmmbommkpjaaa
