/-
  The walk of a frame that is put.
-/
import Derived.Test.YtbfblekabnkghaaFrameY
namespace Go.Proofs.Ytbfblekabnkghaa
open Go.RowKit Go.Av

def PutPost (w : World) (r : Bs) (e : Ending) (w' : World) : Prop :=
  (20000 < r.length ∧ e = .returned (.tuple #[.slice none 0 0, .int .i64 2]) ∧ w' = w) ∨
  (r.length ≤ 20000 ∧ ∃ v D', e = .returned (.tuple #[v, .int .i64 0]) ∧ OwnRow w' 1 v ((frameS r).map bv) D' ∧ Upd w w' [] D')

/-- Two rows in one new block. -/
theorem rows_two {w : World} {v1 v2 : Value} {l1 l2 : Bs} {E1 E2 : List Nat} (T : TypeId) (h1 : ReadRow w 1 v1 (l1.map bv) E1) (h2 : ReadRow w 1 v2 (l2.map bv) E2) :
    RowsAt (w.alloc (.cells #[v1, v2] T (0, 0))) (.slice (some ⟨w.heap.size, 0, none⟩) 2 2) [(v1, l1), (v2, l2)] := by
  have hu := Upd.alloc0 w (.cells #[v1, v2] T (0, 0)) []
  have hh : (w.alloc (.cells #[v1, v2] T (0, 0))).heap[w.heap.size]? = some (.cells #[v1, v2] T (0, 0)) := heap_alloc_new w _
  refine ⟨⟨[w.heap.size], _, 2, 2, rfl, rfl, Nat.le_refl _, by decide, by simp, .inr ⟨w.heap.size, 0, rfl, rfl, by simp, fun i x hx => ?_⟩⟩, fun r hr => ?_⟩
  · rw [cell_of_row _ _ _ _ _ _ hh]
    match i, hx with
    | 0, hx => simpa using hx
    | 1, hx => simpa using hx
    | n + 2, hx => simp at hx
  · have sl : ∀ {v : Value} {l : Bs} {E : List Nat}, ReadRow w 1 v (l.map bv) E → (∃ E, ReadRow (w.alloc (.cells #[v1, v2] T (0, 0))) 1 v (l.map bv) E) ∧ ∃ a c, v = .slice a l.length c := by
      intro v l E h
      refine ⟨⟨E, h.frame (hu.same h.lt (by simp))⟩, ?_⟩
      obtain ⟨a, n, c, hv, hl, _⟩ := h
      obtain rfl : n = l.length := by simpa using hl.symm
      exact ⟨a, c, hv⟩
    simp only [List.mem_cons, List.not_mem_nil, or_false] at hr
    rcases hr with rfl | rfl
    · exact sl h1
    · exact sl h2

theorem nil_row (w : World) : ReadRow w 1 (.slice none 0 0) (([] : Bs).map bv) [] := ⟨none, 0, 0, rfl, by simp, Nat.le_refl _, by decide, fun _ => rfl, .inl ⟨rfl, rfl⟩⟩

set_option maxRecDepth 100000 in
set_option maxHeartbeats 1000000 in
theorem put_any (v : Value) (r : Bs) (E : List Nat) (w : World) (h : ReadRow w 1 v (r.map bv) E) :
    Calls Try.prog 33 #[.slice none 0 0, v] w (PutPost w r) := by
  obtain ⟨i0, hi0, hz0, hz1, hz2⟩ := info_parts info5
  obtain ⟨a, n, c, rfl, -⟩ := id h
  obtain ⟨hn, hnc, hcm, -⟩ := row_cell h
  rw [List.length_map] at hn
  subst hn
  unfold maxLen at hcm
  by_cases hbig : 20000 < r.length
  · clear h
    go_enter Try.func33, Try.ntmps33
    go_wp2_with fail
    go_ret2
    exact .inl ⟨hbig, rfl, rfl⟩
  · have e1 : IntKind.u32.wrap (r.length : Int) = ((r.length : Nat) : Int) := by rw [IntKind.wrap_u32]; omega
    have e2 := not_u32 (c := r.length) (by omega)
    obtain ⟨nn, hnn⟩ : ∃ nn : Nat, nn = 4294967295 - r.length := ⟨_, rfl⟩
    rw [← hnn] at e2
    have HN := Lib.hid hnn
    clear hnn
    have H := Lib.hid h
    clear h
    go_enter Try.func33, Try.ntmps33
    go_wp2_with fail
    refine (number_any _ [] [] r.length _ (OwnRow.nil _ _) (by simp)).mono ?_
    rintro e w1 ⟨v1, D1, rfl, hown1, hu1⟩
    go_wp2_with fail
    refine (number_any v1 _ D1 nn _ hown1 (by simp [be4])).mono ?_
    rintro e w2 ⟨v2, D2, rfl, hown2, hu2⟩
    have hu2w := hu1.trans hu2
    have hhd : [] ++ be4 r.length ++ be4 nn = headS r.length := by rw [HN.out]; rfl
    rw [hhd] at hown2
    obtain ⟨E2, hr2, hE2⟩ := hown2.read
    obtain ⟨a2, n2, c2, rfl, hl2⟩ := hown2.len
    obtain rfl : n2 = 8 := by simpa [headS_length] using hl2.symm
    have hR := rows_two 31 (nil_row w2) hr2
    have hrw : ReadRow w2 1 (.slice a r.length c) (r.map bv) E := H.out.frame (hu2w.same H.out.lt (by simp))
    clear hu1 hu2 hown1 hl2
    have HU2 := Lib.hid hu2w
    have HR := Lib.hid hR
    have HR2 := Lib.hid hr2
    have HRW := Lib.hid hrw
    clear hu2w hR hr2 hrw hown2
    go_wp2_with fail
    refine (concat_any _ _ _ HR.out (by simp [lens, headS_length])).mono ?_
    rintro e w3 ⟨v3, D3, rfl, hown3, hu3⟩
    have hu3w : Upd w2 w3 [] D3 := (Upd.alloc0 w2 _ []).trans hu3
    simp only [List.flatMap_cons, List.flatMap_nil, List.nil_append, List.append_nil] at hown3
    have hr3 := HR2.out.frame (hu3w.same HR2.out.lt (by simp))
    have hrw3 := HRW.out.frame (hu3w.same HRW.out.lt (by simp))
    have hR3 := rows_two 31 hr3 hrw3
    have HR3 := Lib.hid hR3
    have HU3 := Lib.hid (HU2.out.trans (hu3w.mono (by simp) (fun b hb => .inl hb)))
    have HRW3 := Lib.hid hrw3
    have hua := Upd.alloc0 w3 (.cells #[.slice a2 8 c2, .slice a r.length c] 31 (0, 0)) []
    have hown4 := hown3.frame (hua.same hown3.lt (by simp))
    have hrw4 := hrw3.frame (hua.same hrw3.lt (by simp))
    have hd4 : ∀ x ∈ E, x ∉ D3 := fun x hx hd => by
      have hx0 := H.out.lt x hx
      have h0 := HU2.out.size
      rcases hu3w.new x hd with h | h
      · cases h
      · omega
    have HO4 := Lib.hid hown4
    have HRW4 := Lib.hid hrw4
    have HUA := Lib.hid (Upd.alloc0 w3 (.cells #[.slice a2 8 c2, .slice a r.length c] 31 (0, 0)) D3)
    have HD4 := Lib.hid hd4
    clear hown4 hrw4 hua hd4 hr3 hrw3 hR3 hown3 hu3 hu3w
    go_wp2_with fail
    refine (crc_any _ _ _ HR3.out).mono ?_
    rintro e w4 ⟨rfl, hw4⟩
    subst w4
    simp only [List.flatMap_cons, List.flatMap_nil, List.append_nil]
    go_wp2_with fail
    refine (number_any _ _ D3 _ _ HO4.out (by simp [headS_length])).mono ?_
    rintro e w5 ⟨v5, D5, rfl, hown5, hu5⟩
    have hr5 := HRW4.out.frame (hu5.same HRW4.out.lt HD4.out)
    obtain ⟨nb, hnb, hsrc⟩ := hr5.src (P := Try.prog) (tx := 31) Try.underlying31 bv_one
    rw [List.length_map, Nat.mul_one] at hnb
    subst hnb
    have HU5 := Lib.hid hu5
    have HBD := Lib.hid (show ∀ n', ((headS r.length ++ be4 (crcS (headS r.length ++ r))).map bv).length = n' * 1 → n' + r.length ≤ 140737488355328 ∧ (n' + r.length) * i0.bytes ≤ 140737488355328 from fun n' hn' => by simp [headS_length, be4] at hn'; rw [hz2]; omega)
    clear hr5 hu5
    go_wp2_with (at_builtin; go_must (refine wpList_app rfl _ _ 31 31 rfl 1 _ _ _ rfl hown5 _ i0 _ Try.underlying31 hi0 hz0 hz1 rfl _ _ _ rfl hsrc HBD.out ?_); intro a6 n6 c6 w6 D6 hown6 hu6)
    go_ret2
    refine .inr ⟨by omega, _, D6, rfl, ?_, (HU3.out.trans HUA.out).trans (HU5.out.trans hu6)⟩
    rw [← List.map_append] at hown6
    exact hown6
end Go.Proofs.Ytbfblekabnkghaa
