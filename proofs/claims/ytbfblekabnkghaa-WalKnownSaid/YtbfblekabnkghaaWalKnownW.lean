/-
  WalKnown: what chapter 8 says of bounds, of one that is done.
-/
import Derived.Test.YtbfblekabnkghaaWalRestartsW
import Derived.Test.YtbfblekabnkghaaWalFullW
namespace Go.Proofs.Ytbfblekabnkghaa
open Go.RowKit Go.Av

/-- A base with more behind it is none. -/
theorem base_more {room lv n : Int} {x : Bool} {b : Bs} {s : Nat} {S : DiskS} (h : Dk room lv false x b s [baseF n] S) (hfit : ((b.length + 20 + 1 : Nat) : Int) ≤ room) :
    ∃ S', S.append nmBase [120] = (0, S') ∧ baseS S' = (0, 3) := by
  have ht : total S.fs = b.length + 20 := by rw [h.total, total_base]
  have hh : hasN nmBase (putApp nmBase [120] S.fs) = true ∧ getN nmBase (putApp nmBase [120] S.fs) = frameS (packI n) ++ [120] := by
    obtain ⟨-, -, -, A, B, hf, hO, -⟩ := h
    have hn : nmLog ≠ nmBase := ne_bl.symm
    rw [hf]
    cases A with
    | nil =>
      rw [List.nil_append] at hO
      subst hO
      cases x <;> simp [lfs, hasN, getN, baseF, hn, putApp]
    | cons a A =>
      rw [List.cons_append] at hO
      injection hO with ha hO
      subst ha
      simp [hasN, getN, baseF, putApp]
  refine ⟨{ S with fs := putApp nmBase [120] S.fs }, ?_, ?_⟩
  · unfold DiskS.append
    rw [if_neg (by simp [h.may nmBase good_base]), if_neg (by rw [ht, h.1]; simp only [List.length_singleton]; omega)]
  · have hm : DiskS.may { S with fs := putApp nmBase [120] S.fs } [nmBase] = 0 := h.may nmBase good_base
    have ha : DiskS.ask { S with fs := putApp nmBase [120] S.fs } nmBase = 0 := by
      unfold DiskS.ask
      rw [hm, if_neg (by simp), if_pos hh.1]
    have hsc : (scanS (frameS (packI n) ++ [120])).2.2 = 1 := by
      rw [scanS_frame _ _ (by rw [packI_length]; omega)]
      rfl
    unfold baseS
    rw [ha, if_neg (by decide), if_neg (by decide)]
    unfold DiskS.read
    rw [ha, if_pos rfl, hh.2]
    unfold baseB
    rw [if_neg (by rw [hsc]; simp)]

section
variable {w0 w : World} {g d : Nat} {room lv n : Int} {x off : Bool} {ls : List Bs} {b : Bs} {s : Nat} {O : List FileS} {R : List Thing} {rows : List (Value × Bs)} {L : LogS}
theorem Dl.syncOff (h : Dl w0 w d room lv true x b s O (ThLog g d L :: R) rows) :
    Calls Try.prog 14 #[.pointer (some ⟨g, 0, none⟩)] w (fun e w' => e = .returned (.int .i64 10) ∧ Dl w0 w' d room lv true x b s O (ThLog g d (doneS L) :: R) rows) := by
  obtain ⟨S, hD, hS⟩ := h
  have e1 : syncS L S = (10, doneS L, S) := by
    unfold syncS
    rw [if_pos (by unfold offS; rw [hD.2.1]; simp)]
  refine (logSync_any hS.swap).mono fun e w' hp => ?_
  rw [e1] at hp
  exact ⟨hp.1, S, hD, hp.2.swap⟩
theorem Dl.addDone (h : Dl w0 w d room lv off x b s O (ThLog g d L :: R) rows) (hd : L.done = true) (hs : (frames L.recs).length ≤ 1048576) :
    Calls Try.prog 13 #[.pointer (some ⟨g, 0, none⟩), .slice none 0 0] w (fun e w' => e = .returned (.int .i64 10) ∧ Dl w0 w' d room lv off x b s O (ThLog g d (doneS L) :: R) rows) := by
  obtain ⟨S, hD, hS⟩ := h
  have e1 : addS L S [] = (10, doneS L, S) := by
    unfold addS
    rw [if_pos (by unfold offS; rw [hd]; simp)]
  refine (add_any (List.mem_cons_self ..) (by omega) hS.swap.nil).mono fun e w' hp => ?_
  rw [e1] at hp
  exact ⟨hp.1, S, hD, hp.2.swap.drop_row⟩
theorem Wl.baseMore (h : Wl w0 w g d room lv n x ls s [baseF n] R rows) {v : Value} (hv : (v, [120]) ∈ rows) (hfit : (((frames ls).length + 20 + 1 : Nat) : Int) ≤ room) :
    Calls Try.prog 22 #[.pointer (some ⟨d, 0, none⟩), .string nmBase, v] w (fun e w' => e = .returned (.int .i64 0) ∧ ∃ S', baseS S' = (0, 3) ∧ Sep w0 w' (ThDisk d S' :: ThLog g d (lg lv n ls) :: R) rows) := by
  obtain ⟨S, hD, h1, h2, h3, hS⟩ := h
  obtain ⟨S', e1, e2⟩ := base_more hD hfit
  exact (SD.append hS.swap nmBase (by decide) hv e1).mono fun e w' ⟨he, hS'⟩ => ⟨he, S', e2, hS'⟩
theorem open_noBase {S : DiskS} (h : Sep w0 w (ThDisk d S :: R) rows) (e : baseS S = (0, 3)) :
    Calls Try.prog 12 #[.pointer (some ⟨d, 0, none⟩)] w (fun e w' => e = .returned (.tuple #[.pointer none, .int .i64 3]) ∧ Sep w0 w' (ThDisk d S :: R) rows) := by
  have e1 : openS S = openNo S 3 := by
    unfold openS
    rw [e, if_pos (by simp)]
  refine (open_any h).mono fun e w' hp => ?_
  rw [e1] at hp
  rcases hp with ⟨_, he, hS'⟩ | ⟨h0, _⟩
  · exact ⟨he, hS'⟩
  · simp [openNo] at h0
end

theorem zero_row2 (w : World) (z : Nat) (hz : z ≤ 30000) : ReadRow (w.alloc (.cells (madeCells #[.int .u8 0] z) 5)) 1 (.slice (some ⟨w.heap.size, 0, none⟩) z z) ((List.replicate z (0 : UInt8)).map bv) [w.heap.size] := by
  have hh : (w.alloc (.cells (madeCells #[.int .u8 0] z) 5)).heap[w.heap.size]? = some (.cells (madeCells #[.int .u8 0] z) 5 (0, 0)) := heap_alloc_new w _
  refine ⟨_, z, z, rfl, by simp, Nat.le_refl _, by unfold maxLen; omega, by simp, .inr ⟨w.heap.size, 0, rfl, rfl, by simp, fun i x hx => ?_⟩⟩
  rw [cell_of_row _ _ _ _ _ _ hh, Nat.zero_add, ← Array.getElem?_toList, toList_madeCells_one]
  rw [List.map_replicate] at hx
  exact hx

set_option maxRecDepth 100000 in
set_option maxHeartbeats 2000000 in
theorem walKnown_walk (w : World) :
    Calls Try.prog 9 #[] w fun e w' => e = .returned (.bool true) ∧ Below w.heap.size w w' := by
  have kc := fun (W : World) (C : Array Value) (n c : Nat) => Lib.run_convert_bytes_const (P := Try.prog) W 31 5 C n c Try.underlying31 Try.underlying5
  have hmk : ∀ W, (Instr.makeSlice 31 (.int .i64 20001) (.int .i64 20001)).run Try.prog W = .ok (.slice (some ⟨W.heap.size, 0, none⟩) 20001 20001) (W.alloc (.cells (madeCells #[.int .u8 0] 20001) 5)) :=
    fun W => run_make_row' (P := Try.prog) 31 5 (.int .u8 0) 1 Try.underlying31 info5 rfl .i64 .i64 20001 (by omega) (by omega) W
  go_enter Try.func9, Try.ntmps9
  go_wp2_with fail
  refine (awake8_any _).mono ?_
  rintro e w1 ⟨rfl, hu1⟩
  go_wp2_with fail
  refine (Dl.new ((Sep.start w).keep hu1) 65536 (by decide) (by decide)).mono ?_
  rintro e w2 ⟨d, rfl, H⟩
  go_wp2_with fail
  refine (Dl.open (n := 1) H (fun S hS => base_none hS) (by decide) (by decide) (scan_whole [] (by simp)) (by decide) rfl (by simp)).mono ?_
  clear H hu1
  rintro e w3 ⟨g, rfl, H⟩
  go_wp2_with fail
  refine ((H.row (Upd.alloc1 w3 _ []) (zero_row2 w3 20001 (by omega)) (by simp)).addBig (List.mem_cons_self ..) (by rw [List.length_replicate]; omega)).mono ?_
  clear H
  rintro e w4 ⟨rfl, H⟩
  have HH := Lib.hid H.drop_row
  clear H
  go_wp2_with fail
  refine (HH.out.atNo (.inr (by simp))).mono ?_
  rintro e w5 ⟨v5, rfl, H⟩
  go_wp2_with fail
  refine (H.cutNo (.inr (by simp))).mono ?_
  clear H
  rintro e w6 ⟨rfl, H⟩
  go_wp2_with fail
  refine (H.restartNo 0 (.inl (by decide))).mono ?_
  clear H
  rintro e w7 ⟨rfl, H⟩
  go_wp2_with fail
  refine (H.restart 9 (by decide) (by decide) (by decide)).mono ?_
  clear H
  rintro e w8 ⟨rfl, H⟩
  go_wp2_with fail
  refine ((H.byte 120 _ _).add (List.mem_cons_self ..) (by simp) (by rw [total_base]; simp [frames])).mono ?_
  clear H
  rintro e w9 ⟨rfl, H⟩
  go_wp2_with fail
  refine H.next.mono ?_
  clear H
  rintro e w10 ⟨rfl, H⟩
  have hc := H.crash 99
  have ht : 0 + min (99 : Int).toNat ((frames ([] ++ [[120]])).length - 0) = (frames ([] ++ [[120]])).length := by
    rw [frames_push]; simp [frames]
  rw [ht, List.take_length] at hc
  simp only [if_true, List.map_cons, List.map_nil, baseF_crash] at hc
  have HC := Lib.hid hc
  clear H hc ht
  go_wp2_with fail
  refine HC.out.mono ?_
  rintro e w11 ⟨rfl, H⟩
  go_wp2_with fail
  refine H.syncOff.mono ?_
  clear H
  rintro e w12 ⟨rfl, H⟩
  go_wp2_with fail
  refine (H.on (lv' := 2) (by kernel_rfl)).mono ?_
  clear H
  rintro e w13 ⟨rfl, H⟩
  go_wp2_with fail
  refine (H.addDone rfl (by show (frames ([] ++ [[120]])).length ≤ _; rw [frames_push]; simp [frames])).mono ?_
  clear H
  rintro e w14 ⟨rfl, H⟩
  go_wp2_with fail
  refine (Dl.open (n := 9) H (fun S hS => base_some hS (by decide) (by decide)) (by decide) (by decide) (scan_whole _ (by simp)) (by decide) (List.take_length ..) (Nat.le_refl _)).mono ?_
  clear H
  rintro e w15 ⟨g2, rfl, H⟩
  go_wp2_with fail
  refine H.first.mono ?_
  clear H
  rintro e w16 ⟨rfl, H⟩
  go_wp2_with fail
  refine ((H.byte 120 _ _).baseMore (List.mem_cons_self ..) (by rw [frames_push]; simp [frames])).mono ?_
  clear H
  rintro e w17 ⟨rfl, S', e3, hS'⟩
  have HS := Lib.hid (show _ ∧ _ from ⟨e3, hS'⟩)
  clear e3 hS' HC
  go_wp2_with fail
  refine (open_noBase HS.out.2 HS.out.1).mono ?_
  rintro e w18 ⟨rfl, H⟩
  have HB := Lib.hid H.below
  clear H
  go_wp2_with fail
  go_ret
  exact ⟨rfl, HB.out⟩
end Go.Proofs.Ytbfblekabnkghaa
