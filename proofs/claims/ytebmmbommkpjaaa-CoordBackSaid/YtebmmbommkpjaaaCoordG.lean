/-
  Decisions: Done.
-/
import Derived.Test.YtebmmbommkpjaaaCoordF
namespace Go.Proofs.Ytebmmbommkpjaaa
open Go.RowKit Go.Av

section
variable {w0 w : World} {c m : Nat} {S : CoS} {l1 l2 : List EntG} {g : EntG} {R : List Thing} {T : Thing} {rows : List (Value × Bs)}

theorem perm_last (A B R : List Thing) (T : Thing) : (T :: (A ++ (B ++ R))).Perm (A ++ (B ++ T :: R)) := by
  have := (List.perm_middle (a := T) (l₁ := A ++ B) (l₂ := R)).symm
  simpa [List.append_assoc] using this
theorem Co.newCell (h : Co w0 w c S R rows) (o : Obj) : Co w0 (w.alloc o) c S (ThCell w.heap.size o :: R) rows := by
  obtain ⟨m, gs, h1, h2, hS⟩ := h
  exact ⟨m, gs, h1, h2, (hS.newCell o).perm (perm_last _ _ _ _)⟩
theorem Co.addR (h : Co w0 w c S R rows) {w' : World} {D' : List Nat} (hu : Upd w w' [] D') (hT : T.P w' D') : Co w0 w' c S (T :: R) rows := by
  obtain ⟨m, gs, h1, h2, hS⟩ := h
  exact ⟨m, gs, h1, h2, (hS.add hu hT).perm (perm_last _ _ _ _)⟩
theorem Co.dropR (h : Co w0 w c S (T :: R) rows) : Co w0 w c S R rows := by
  obtain ⟨m, gs, h1, h2, hS⟩ := h
  exact ⟨m, gs, h1, h2, (hS.perm (perm_last _ _ _ _).symm).drop⟩

def doneF (k : Int) (x : EntS) : EntS := { x with owes := x.owes.filter fun y => !decide (y = k) }
def doneS (S : CoS) (id k : Int) : Int × CoS := match lookS id S with
  | none => (4, S)
  | some x => match idxF k x.shards with | none => (4, S) | some _ => if x.dec = 0 then (15, S) else (0, putS id (doneF k) S)

set_option maxRecDepth 100000 in
set_option maxHeartbeats 1000000 in
theorem done_any (h : Co w0 w c S R rows) (id k : Int) :
    Calls Try.prog 14 #[.pointer (some ⟨c, 0, none⟩), .int .i64 id, .int .i64 k] w fun e w' => e = .returned (.int .i64 (doneS S id k).1) ∧ Co w0 w' c (doneS S id k).2 R rows := by
  have h0 := h.newCell (.cells #[.int .i64 k] 3 (0, 0))
  have hq0 : w.heap.size < (w.alloc (.cells #[.int .i64 k] 3 (0, 0))).heap.size := by simp
  obtain ⟨q, hq⟩ : ∃ q, q = w.heap.size := ⟨_, rfl⟩
  have hqc : (w.alloc (.cells #[.int .i64 k] 3 (0, 0))).cell? ⟨w.heap.size, 0, none⟩ = some (.int .i64 k) := cell_of (heap_alloc_new w _) 0 rfl
  obtain ⟨w1, hw1⟩ : ∃ w1, w1 = w.alloc (.cells #[.int .i64 k] 3 (0, 0)) := ⟨_, rfl⟩
  unfold doneS
  cases hx : lookS id S with
  | none =>
    have hf := find_no h0 id k hx
    have H := Lib.hid h0
    have HF := Lib.hid hf
    clear h h0 hx hf hq hw1 hq0
    go_enter Try.func14, Try.ntmps14
    go_wp2_with fail
    refine HF.out.mono ?_
    rintro e w2 ⟨rfl, rfl⟩
    go_wp2_with fail
    go_ret
    exact ⟨rfl, H.out.dropR⟩
  | some x =>
    obtain ⟨m, l1, g, l2, rfl, rfl, hF, -, hSS⟩ := h0.take hx
    have hf := find_yes hF k
    unfold idxS at hf
    dsimp only
    cases hi : idxF k g.x.shards with
    | none =>
      rw [hi] at hf
      have H := Lib.hid h0
      have HF := Lib.hid hf
      clear h h0 hx hf hF hSS hi hq hw1 hq0
      go_enter Try.func14, Try.ntmps14
      go_wp2_with fail
      refine HF.out.mono ?_
      rintro e w2 ⟨rfl, rfl⟩
      go_wp2_with fail
      go_ret
      exact ⟨rfl, H.out.dropR⟩
    | some i =>
      rw [hi] at hf
      simp only at hf
      obtain ⟨hc, hl, hp⟩ := hF.facts
      have c2 := cell_of hp 2 rfl
      have c3 := cell_of hp 3 rfl
      show Calls _ _ _ _ (fun e w' => e = .returned (.int .i64 (if g.x.dec = 0 then (15, S) else (0, putS g.id (doneF k) S)).1) ∧ Co w0 w' c (if g.x.dec = 0 then (15, S) else (0, putS g.id (doneF k) S)).2 R rows)
      by_cases hd : g.x.dec = 0
      · rw [if_pos hd]
        have c2' : (w.alloc (.cells #[.int .i64 k] 3 (0, 0))).cell? ⟨g.p, 2, none⟩ = some (.int .i64 0) := by rw [c2]; simp [hd]
        have H := Lib.hid h0
        have HF := Lib.hid hf
        clear h h0 hx hf hF hSS hi hq hw1 hq0 c2 c3 hp hl hd
        go_enter Try.func14, Try.ntmps14
        go_wp2_with fail
        refine HF.out.mono ?_
        rintro e w2 ⟨rfl, rfl⟩
        go_wp2_with fail
        go_ret
        exact ⟨rfl, H.out.dropR⟩
      · rw [if_neg hd]
        have hd' : (g.x.dec == 0) = false := by simp [hd]
        have hput := hF.put (x := doneF k g.x) (doneF k) rfl
        rw [← hSS] at hput
        obtain ⟨R', hrow, hin, hall, hback⟩ := hF.setOwes (fun y => !decide (y = k))
        have hqR : ThCell w.heap.size (.cells #[.int .i64 k] 3 (0, 0)) ∈ R' := hall _ (List.mem_cons_self ..)
        have hdel := deleteFunc_any _ g.x.owes k w.heap.size 3 hrow hqR
        have HF := Lib.hid hf
        have HD := Lib.hid hdel
        have HB := Lib.hid hback
        have HP := Lib.hid hput
        have hmf : ∀ (fn : Fn) (first cap : Array Value) (w : World), (Instr.makeFunc fn first cap).run Try.prog w = .ok (.func fn first cap) w := fun _ _ _ _ => rfl
        clear h h0 hx hf hF hSS hi hq hw1 hq0 hp hl hd hput hrow hin hall hback hqR hdel
        go_enter Try.func14, Try.ntmps14
        go_wp2_with fail
        refine HF.out.mono ?_
        rintro e w2 ⟨rfl, rfl⟩
        go_wp2_with fail
        refine HD.out.mono ?_
        rintro e w3 ⟨v3, rfl, h3⟩
        obtain ⟨a3, n3, cc3, rfl, -⟩ := h3.rowLen
        obtain ⟨hp3, hF3⟩ := HB.out w3 _ h3
        have y3 := frz_of hp3 3
        have c3 := cell_of hp3 3 rfl
        have H3 := Lib.hid hF3
        clear h3 hp3 hF3
        go_wp2_with fail
        go_ret
        refine ⟨rfl, ?_⟩
        have := H3.out.back
        rw [show (l1 ++ ({ g with vo := .slice a3 n3 cc3, x := { g.x with owes := g.x.owes.filter fun y => !decide (y = k) } } : EntG) :: l2).map EntG.ent = (l1 ++ g.upd (doneF k g.x) :: l2).map EntG.ent by simp [EntG.ent, EntG.upd, doneF], HP.out] at this
        exact this.dropR
end
end Go.Proofs.Ytebmmbommkpjaaa
