/-
  CoordKnown: what chapter 20 says of noes, of aborts, of what is over.
-/
import Derived.Test.YtebmmbommkpjaaaCoordJ
import Derived.Test.YtebmmbommkpjaaaPackC
namespace Go.Proofs.Ytebmmbommkpjaaa
open Go.RowKit Go.Av

theorem nil_bytes (w : World) : ReadRow w 1 (.slice none 0 0) (([] : Bs).map bv) [] := ⟨none, 0, 0, rfl, by simp, Nat.le_refl _, by decide, fun _ => rfl, .inl ⟨by simp, rfl⟩⟩
theorem nil_ints (w : World) : ReadRow w 1 (.slice none 0 0) (([] : List Int).map iv) [] := ⟨none, 0, 0, rfl, by simp, Nat.le_refl _, by decide, fun _ => rfl, .inl ⟨by simp, rfl⟩⟩
theorem cnt_nil (most : Int) : cntS [] false most = ([], true, 0) := by unfold cntS; rw [if_pos (by simp)]

set_option maxRecDepth 100000 in
set_option maxHeartbeats 1000000 in
theorem get_nil (w : World) : Calls Try.prog 21 #[.slice none 0 0] w fun e w' => e = .returned (.tuple #[.pointer none, .int .i64 3]) ∧ Upd w w' [] [] := by
  go_enter Try.func21, Try.ntmps21
  go_wp2_with fail
  refine (new_coord (Sep.start w)).mono ?_
  rintro e w1 ⟨c, rfl, H⟩
  have HU := Lib.hid (Upd.of_below H.below)
  clear H
  go_wp2_with fail
  refine (rdr_new _ [] [] w1 (nil_bytes _) (by simp)).mono ?_
  rintro e w2 ⟨r, D, rfl, hR, hu⟩
  have HR := Lib.hid (rdr_count r [] false 1048576 (by decide) D w2 hR)
  have HU2 := Lib.hid (HU.out.trans hu)
  clear hR hu
  go_wp2_with fail
  refine HR.out.mono ?_
  rintro e w3 ⟨rfl, D3, hR3, hu3⟩
  rw [cnt_nil] at hR3 ⊢
  have HE := Lib.hid (rdr_end r [] true D3 w3 hR3)
  have HU3 := Lib.hid ((HU2.out.trans hu3).mono (E' := []) (fun b hb => hb) (by simp))
  clear hR3 hu3
  go_wp2_with fail
  go_loopg [14] 0 (fun k v wr => k = 0 ∧ v = .int .i64 0 ∧ wr = w3)
  case atStart => exact ⟨rfl, rfl, rfl⟩
  case round =>
    obtain ⟨hk, hv, hw⟩ := hrel
    subst hv
    subst hw
    go_wp2_with fail
    refine HE.out.mono ?_
    rintro e w4 ⟨rfl, rfl⟩
    go_wp2_with fail
    go_ret2
    exact ⟨rfl, HU3.out⟩

def kE0 : EntS := newE [0, 2]
def kS1 : CoS := [(1, kE0)]
def kS2 : CoS := [(1, { kE0 with votes := [0, 2], dec := 2 })]
def kS3 : CoS := [(1, { kE0 with votes := [0, 2], dec := 2, owes := [2] })]
def kS4 : CoS := [(1, { kE0 with votes := [0, 2], dec := 2, owes := [] })]

set_option maxRecDepth 100000 in
set_option maxHeartbeats 2000000 in
theorem coordKnown_walk (w : World) : Calls Try.prog 6 #[] w fun e w' => e = .returned (.bool true) ∧ Below w.heap.size w w' := by
  go_enter Try.func6, Try.ntmps6
  go_wp2_with fail
  refine (awake20_any _).mono ?_
  rintro e w1 ⟨rfl, hu1⟩
  go_wp2_with fail
  refine (new_coord ((Sep.start w).keep hu1)).mono ?_
  clear hu1
  rintro e w2 ⟨c, rfl, H⟩
  go_wp2_with fail
  have hr : ReadRow (w2.alloc (.cells #[.int .i64 1] 3 (0, 0))) 1 (.slice (some ⟨w2.heap.size, 0, none⟩) 1 1) (([1] : List Int).map iv) [w2.heap.size] := read_cells w2 #[.int .i64 1] 3 (0, 0) (by decide)
  have hb := begin_any (H.keep (Upd.alloc0 w2 _ [])) 0 _ [1] _ (by decide) hr
  rw [show beginS [] 0 [1] = (1, []) by rfl] at hb
  refine hb.mono ?_
  clear H hr hb
  rintro e w3 ⟨rfl, H⟩
  go_wp2_with fail
  have hb := begin_any H 1 _ [] _ (by decide) (nil_ints _)
  rw [show beginS [] 1 [] = (1, []) by rfl] at hb
  refine hb.mono ?_
  clear H hb
  rintro e w4 ⟨rfl, H⟩
  go_wp2_with fail
  have hr : ReadRow (w4.alloc (.cells #[.int .i64 1, .int .i64 0] 3 (0, 0))) 1 (.slice (some ⟨w4.heap.size, 0, none⟩) 2 2) (([1, 0] : List Int).map iv) [w4.heap.size] := read_cells w4 #[.int .i64 1, .int .i64 0] 3 (0, 0) (by decide)
  have hb := begin_any (H.keep (Upd.alloc0 w4 _ [])) 1 _ [1, 0] _ (by decide) hr
  rw [show beginS [] 1 [1, 0] = (1, []) by rfl] at hb
  refine hb.mono ?_
  clear H hr hb
  rintro e w5 ⟨rfl, H⟩
  go_wp2_with fail
  have hr : ReadRow (w5.alloc (.cells #[.int .i64 0, .int .i64 4] 3 (0, 0))) 1 (.slice (some ⟨w5.heap.size, 0, none⟩) 2 2) (([0, 4] : List Int).map iv) [w5.heap.size] := read_cells w5 #[.int .i64 0, .int .i64 4] 3 (0, 0) (by decide)
  have hb := begin_any (H.keep (Upd.alloc0 w5 _ [])) 1 _ [0, 4] _ (by decide) hr
  rw [show beginS [] 1 [0, 4] = (1, []) by rfl] at hb
  refine hb.mono ?_
  clear H hr hb
  rintro e w6 ⟨rfl, H⟩
  go_wp2_with fail
  have hr : ReadRow (w6.alloc (.cells #[.int .i64 0, .int .i64 2] 3 (0, 0))) 1 (.slice (some ⟨w6.heap.size, 0, none⟩) 2 2) (([0, 2] : List Int).map iv) [w6.heap.size] := read_cells w6 #[.int .i64 0, .int .i64 2] 3 (0, 0) (by decide)
  have hb := begin_any (H.keep (Upd.alloc0 w6 _ [])) 1 _ [0, 2] _ (by decide) hr
  rw [show beginS [] 1 [0, 2] = (0, kS1) by rfl] at hb
  refine hb.mono ?_
  clear H hr hb
  rintro e w7 ⟨rfl, H⟩
  go_wp2_with fail
  have hr : ReadRow (w7.alloc (.cells #[.int .i64 0] 3 (0, 0))) 1 (.slice (some ⟨w7.heap.size, 0, none⟩) 1 1) (([0] : List Int).map iv) [w7.heap.size] := read_cells w7 #[.int .i64 0] 3 (0, 0) (by decide)
  have hb := begin_any (H.keep (Upd.alloc0 w7 _ [])) 1 _ [0] _ (by decide) hr
  rw [show beginS kS1 1 [0] = (5, kS1) by rfl] at hb
  refine hb.mono ?_
  clear H hr hb
  rintro e w8 ⟨rfl, H⟩
  go_wp2_with fail
  have hb := vote_any H 1 1 true
  rw [show voteS kS1 1 1 true = (4, kS1) by rfl] at hb
  refine hb.mono ?_
  clear H hb
  rintro e w9 ⟨rfl, H⟩
  go_wp2_with fail
  have hb := done_any H 1 0
  rw [show doneS kS1 1 0 = (15, kS1) by rfl] at hb
  refine hb.mono ?_
  clear H hb
  rintro e w10 ⟨rfl, H⟩
  go_wp2_with fail
  have hb := vote_any H 1 2 false
  rw [show voteS kS1 1 2 false = (0, kS2) by rfl] at hb
  refine hb.mono ?_
  clear H hb
  rintro e w11 ⟨rfl, H⟩
  go_wp2_with fail
  have hb := vote_any H 1 0 true
  rw [show voteS kS2 1 0 true = (0, kS2) by rfl] at hb
  refine hb.mono ?_
  clear H hb
  rintro e w12 ⟨rfl, H⟩
  go_wp2_with fail
  have hb := decision_any H 1
  rw [show decS kS2 1 = (false, true) by rfl] at hb
  refine hb.mono ?_
  clear H hb
  rintro e w13 ⟨rfl, H⟩
  go_wp2_with fail
  have hb := abort_any H 1
  rw [show abortS kS2 1 = (false, 0, kS2) by rfl] at hb
  refine hb.mono ?_
  clear H hb
  rintro e w14 ⟨rfl, H⟩
  go_wp2_with fail
  have hb := done_any H 1 0
  rw [show doneS kS2 1 0 = (0, kS3) by rfl] at hb
  refine hb.mono ?_
  clear H hb
  rintro e w15 ⟨rfl, H⟩
  have HH := Lib.hid H
  clear H
  go_wp2_with fail
  have hv := owes_any HH.out 1
  rw [show owesS kS3 1 = [2] by rfl] at hv
  refine hv.mono ?_
  clear hv
  rintro e v1 ⟨v7, D7, rfl, ho, hu⟩
  obtain ⟨E7, hr7, -⟩ := ho.read
  have H7 := Lib.hid (HH.out.keep hu)
  have HR7 := Lib.hid hr7
  clear ho hu hr7
  go_wp2_with fail
  have hr8 : ReadRow (v1.alloc (.cells #[.int .i64 2] 3 (0, 0))) 1 (.slice (some ⟨v1.heap.size, 0, none⟩) 1 1) (([2] : List Int).map iv) [v1.heap.size] := read_cells v1 #[.int .i64 2] 3 (0, 0) (by decide)
  refine (same_any _ _ [2] [2] E7 _ _ (HR7.out.frame ((Upd.alloc0 v1 _ []).same HR7.out.lt (by simp))) hr8).mono ?_
  clear hr8
  rintro e v2 ⟨rfl, hu⟩
  have H := ((H7.out.keep (Upd.alloc0 v1 _ [])).keep hu)
  clear hu
  go_wp2_with fail
  have hb := done_any H 1 2
  rw [show doneS kS3 1 2 = (0, kS4) by rfl] at hb
  refine hb.mono ?_
  clear H hb
  rintro e w16 ⟨rfl, H⟩
  go_wp2_with fail
  have hb := abort_any H 2
  rw [show abortS kS4 2 = (false, 4, kS4) by rfl] at hb
  refine hb.mono ?_
  clear H hb
  rintro e w17 ⟨rfl, H⟩
  have HH8 := Lib.hid H
  clear H
  go_wp2_with fail
  refine (get_nil _).mono ?_
  rintro e v3 ⟨rfl, hu⟩
  have HH9 := Lib.hid (HH8.out.keep hu)
  clear hu
  go_wp2_with fail
  have hv := open_coord HH9.out (by decide)
  rw [show openSt kS4 = [] by (have : keysS kS4 = [1] := by simp [keysS, kS4]); unfold openSt; rw [this]; rfl] at hv
  refine hv.mono ?_
  clear hv
  rintro e v4 ⟨v9, rfl, H⟩
  obtain ⟨D9, ho, -⟩ := H.row
  obtain ⟨a9, n9, c9, rfl, hl9, -⟩ := _root_.id ho
  obtain rfl : 0 = n9 := by simpa using hl9
  have HH10 := Lib.hid H.dropR
  clear H ho hl9
  go_wp2_with fail
  have hv := owes_any HH10.out 9
  rw [show owesS kS4 9 = [] by rfl] at hv
  refine hv.mono ?_
  clear hv
  rintro e v5 ⟨v10, D10, rfl, ho, hu⟩
  obtain ⟨a10, n10, c10, rfl, hl10, -⟩ := _root_.id ho
  obtain rfl : 0 = n10 := by simpa using hl10
  have HB := Lib.hid (HH10.out.keep hu).below
  clear ho hu hl10
  go_wp2_with fail
  go_ret
  exact ⟨rfl, HB.out⟩
end Go.Proofs.Ytebmmbommkpjaaa
