/-
  Routes: what is too long; what stands beside a grid.
-/
import Derived.Test.YtfncdgnhiinmjaaDoorRouteW
namespace Go.Proofs.YtfncdgnhiinmjaaDoor
open Go.RowKit Go.Av

def longO (o : OpS) : Bool := decide (300 < (o.path.size : Int)) || decide (1100 < (o.data.size : Int))
def longS (l : List OpS) : Bool := decide (20 < (l.length : Int)) || l.any longO
set_option maxHeartbeats 1000000 in
theorem long_any (a : Option Addr) (len cap : Nat) (ops : List OpS) (w : World) (h : IsOps w a len cap ops) :
    Calls Tryd.prog 14 #[.slice a len cap] w fun e w' => e = .returned (.bool (longS ops)) ∧ w' = w := by
  have hl : ops.length = len := h.1
  subst hl
  have hcap := h.2.1
  have hcm := h.2.2.1
  unfold maxLen at hcm
  have H := Lib.hid h
  clear h
  by_cases h20 : 20 < (ops.length : Int)
  · have HL := Lib.hid (show longS ops = true by unfold longS; simp [h20])
    go_enter Tryd.func14, Tryd.ntmps14
    go_wp2_with fail
    go_ret
    rw [HL.out]
    exact ⟨rfl, rfl⟩
  go_enter Tryd.func14, Tryd.ntmps14
  go_wp2_with fail
  go_loop [3] (fun i => ∃ p : Nat, p ≤ ops.length ∧ i = .int .i64 p ∧ (ops.take p).any longO = false) (fun i => ops.length - (intOf i).toNat)
  case atStart => exact ⟨0, Nat.zero_le _, rfl, rfl⟩
  case round =>
    obtain ⟨p, hp, rfl, ha⟩ := hrel
    by_cases hlt : p < ops.length
    · obtain ⟨x, rfl, -, g1, g2, -, -, hs1, hs2⟩ := H.out.at hlt
      have hmm : ops[p] ∈ ops := List.getElem_mem hlt
      have hts : ops.take (p + 1) = ops.take p ++ [ops[p]] := by rw [List.take_succ_eq_append_getElem hlt]
      obtain ⟨o, ho⟩ : ∃ o, ops[p] = o := ⟨_, rfl⟩
      rw [ho] at g1 g2 hs1 hs2 hmm hts
      unfold maxLen at hs1 hs2
      have hL : longO o = true → longS ops = true := fun h => by
        unfold longS
        rw [List.any_eq_true.2 ⟨o, hmm, h⟩, Bool.or_true]
      have HX := Lib.hid (show _ ∧ _ ∧ _ from ⟨hL, hts, ha⟩)
      clear hL hts ha hmm ho
      by_cases h1 : 300 < (o.path.size : Int)
      · go_wp2_with fail
        go_ret
        rw [HX.out.1 (by unfold longO; simp [h1])]
        exact ⟨rfl, rfl⟩
      by_cases h2 : 1100 < (o.data.size : Int)
      · go_wp2_with fail
        go_ret
        rw [HX.out.1 (by unfold longO; simp [h2])]
        exact ⟨rfl, rfl⟩
      go_wp2_with fail
      go_round
      case rel =>
        refine ⟨p + 1, by omega, by go_num, ?_⟩
        rw [HX.out.2.1, List.any_append, HX.out.2.2, List.any_cons, List.any_nil]
        unfold longO
        simp [h1, h2]
      case measure => simp [intOf]; omega
    · obtain rfl : p = ops.length := by omega
      rw [List.take_length] at ha
      have HA := Lib.hid ha
      clear ha
      go_wp2_with fail
      go_ret
      refine ⟨?_, rfl⟩
      unfold longS
      rw [HA.out]
      simp [h20]

section
variable {w0 w : World} {t : Nat} {S : RtS} {R : List Thing} {rows : List (Value × Bs)} {v : Value} {ls : List (List Int)}
theorem RtG.side {A : List Thing} (h : RtG w0 w t S v ls (A ++ R) rows) : ∃ X, Sep w0 w (A ++ X) rows ∧ ∀ (w' : World) (A' : List Thing), Sep w0 w' (A' ++ X) rows → RtG w0 w' t S v ls (A' ++ R) rows := by
  obtain ⟨vs, hl, m, hS⟩ := h
  have e : ∀ B : List Thing, (B ++ (rtTh t m S ++ ThRow 1 v vs :: (zipT vs ls ++ R))).Perm (rtTh t m S ++ ThRow 1 v vs :: (zipT vs ls ++ (B ++ R))) := fun B => by
    refine (List.perm_append_comm_assoc B (rtTh t m S) _).trans (List.Perm.append_left _ ?_)
    refine (List.perm_middle).trans (List.Perm.cons _ ?_)
    exact List.perm_append_comm_assoc _ _ _
  exact ⟨_, hS.perm (e A).symm, fun w' A' hS' => ⟨vs, hl, m, hS'.perm (e A')⟩⟩
theorem RtG.table2 (h : RtG w0 w t S v ls R rows) : ∃ R', Rt w0 w t S R' rows := by
  obtain ⟨R', h1, -⟩ := h.table
  exact ⟨R', h1⟩
theorem RtG.row {v' : Value} {xs : List Value} (h : RtG w0 w t S v ls (ThRow 1 v' xs :: R) rows) : ∃ D, OwnRow w 1 v' xs D := by
  obtain ⟨X, hS, -⟩ := RtG.side (A := [_]) h
  exact hS.fst
theorem RtG.rowSet {y : Addr} {n c : Nat} {xs : List Value} (h : RtG w0 w t S v ls (ThRow 1 (.slice (some y) n c) xs :: R) rows) {i : Nat} (hi : i < n) (u : Value) :
    w.frozen? (y.add i) = false ∧ (∃ u, w.cell? (y.add i) = some u) ∧ RtG w0 (w.setCell (y.add i) u) t S v ls (ThRow 1 (.slice (some y) n c) (xs.set i u) :: R) rows := by
  obtain ⟨X, hS, hb⟩ := RtG.side (A := [_]) h
  obtain ⟨f1, -, f3, f4⟩ := hS.rowSet hi u
  exact ⟨f1, f3, hb _ [_] f4⟩
end
end Go.Proofs.YtfncdgnhiinmjaaDoor
