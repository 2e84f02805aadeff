/-
  Names that rise: the walks of the library's search, clone, insert, delete.
-/
import Derived.Test.YtjeaoopamebgjaaDoorNamesA
import Derived.Test.YtjeaoopamebgjaaDoorPathN
import Derived.Test.YtjeaoopamebgjaaDoorLayT
import Derived.Test.YtjeaoopamebgjaaDoorPool
import Derived.Laws.IdiomCopy
namespace Go.Av
open Go.RowKit
theorem own_by_cells {w : World} {g off n c : Nat} {xs : List Value} {cur : Array Value} {T : TypeId} (hb : w.heap[g]? = some (.cells cur T (0, 0))) (hs : off + c ≤ cur.size) (hl : xs.length = n) (hn : n ≤ c) (hc : c ≤ maxLen)
    (hcell : ∀ j (hj : j < xs.length), w.cell? ⟨g, off + j, none⟩ = some xs[j]) : OwnRow w 1 (.slice (some ⟨g, off, none⟩) n c) xs [g] := by
  refine ⟨_, n, c, rfl, by omega, hn, hc, by simp, .inr ⟨g, off, cur, T, rfl, rfl, hb, by omega, ?_⟩⟩
  apply List.ext_getElem?
  intro j
  rw [List.getElem?_take]
  by_cases hj : j < n * 1
  · rw [if_pos hj, List.getElem?_drop]
    have h1 := hcell j (by omega)
    rw [cell_of_row w g (off + j) cur T _ hb] at h1
    rw [Array.getElem?_toList, h1, List.getElem?_eq_getElem (by omega)]
  · rw [if_neg hj, List.getElem?_eq_none (by omega)]
theorem blk_setCells {w : World} {g o : Nat} {vs : List Value} {cur : Array Value} {T : TypeId} (hb : w.heap[g]? = some (.cells cur T (0, 0))) (h : o + vs.length ≤ cur.size) :
    ∃ cur', (w.setCells g o vs).heap[g]? = some (.cells cur' T (0, 0)) ∧ cur'.size = cur.size := by
  refine ⟨_, heap_setCells_same g T vs o w cur hb h, ?_⟩
  simp
  omega
theorem upd_setCells (w : World) (g o : Nat) (vs : List Value) : Upd w (w.setCells g o vs) [g] [g] := by
  obtain ⟨h1, h2, h3⟩ := rest_setCells g vs o w
  exact ⟨h1, h2, h3, by rw [size_setCells]; exact Nat.le_refl _, fun b _ hn => heap_setCells_other g b (fun e => hn (by simp [e])) vs o w, fun b hb => .inl hb⟩
end Go.Av
namespace Go.Proofs.YtjeaoopamebgjaaDoor
open Go.RowKit Go.Av Go.Sort
set_option maxRecDepth 100000 in
theorem search_any (v : Value) (l : List Bs) (E : List Nat) (w : World) (s : ByteArray) (h : ReadRow w 1 v (l.map sv) E) (hr : RiseS l) (hl : l.length ≤ 1000000) :
    Calls Tryd.prog 45 #[v, .string s] w fun e w' => e = .returned (.tuple #[.int .i64 (placeS l s.data.toList : Nat), .bool (hasS l s.data.toList)]) ∧ Upd w w' [] [] := by
  obtain ⟨a, n, c, rfl, hln, hn, hc, ha, hrr⟩ := h
  rw [List.length_map, Nat.mul_one] at hln
  subst hln
  by_cases h0 : l.length = 0
  · have : l = [] := List.length_eq_zero_iff.1 h0
    subst this
    refine (Any2.slices_BinarySearch_string_empty Tryd.laysNm226 a c s w).mono ?_
    rintro e w' ⟨rfl, rfl⟩
    exact ⟨rfl, Upd.refl _ _⟩
  · rcases hrr with ⟨hx, -⟩ | ⟨g, off, rfl, -, hg, hcell⟩
    · simp at hx; exact absurd (by rw [hx]; rfl) h0
    · have hc2 : ∀ j, j < l.length → w.cell? ⟨g, off + j, none⟩ = some (.string ((l.map fun b => (⟨b.toArray⟩ : ByteArray)).getD j ByteArray.empty)) := fun j hj => by
        refine hcell j _ ?_
        rw [List.getElem?_map, List.getElem?_eq_getElem hj]
        simp [List.getD, List.getElem?_map, List.getElem?_eq_getElem hj, sv]
      refine (Any2.slices_BinarySearch_string Tryd.laysNm226 g off l.length c _ s w (by omega) hc2).mono ?_
      have hbs := bs_place (s := s.data.toList) hr (fun t => Op.bytesLess ((l.map fun b => (⟨b.toArray⟩ : ByteArray)).getD t ByteArray.empty).toList s.toList) (fun j hj => by
        rw [bytesLess_eq, Lib.toList_data, Lib.toList_data]
        simp [List.getD, List.getElem?_map, List.getElem?_eq_getElem hj]) l.length rfl
      rintro e w' ⟨rfl, q, rfl⟩
      rw [hbs]
      refine ⟨?_, (Upd.refl w []).drewN q⟩
      have hhas : (decide (placeS l s.data.toList < l.length ∧ (l.map fun b => (⟨b.toArray⟩ : ByteArray)).getD (placeS l s.data.toList) ByteArray.empty = s)) = hasS l s.data.toList := by
        unfold hasS
        apply decide_eq_decide.2
        constructor
        · rintro ⟨h1, h2⟩
          rw [List.getElem?_eq_getElem h1]
          have e := congrArg (fun z : ByteArray => z.data.toList) h2
          simp only [List.getD, List.getElem?_map, List.getElem?_eq_getElem h1, Option.map_some, Option.getD_some] at e
          exact congrArg some e
        · intro h1
          obtain ⟨h2, h3⟩ := List.getElem?_eq_some_iff.1 h1
          refine ⟨h2, ?_⟩
          simp only [List.getD, List.getElem?_map, h1, Option.map_some, Option.getD_some]
      rw [hhas]
def NewS (w : World) (xs : List Value) (e : Ending) (w' : World) : Prop := ∃ v' D, e = .returned v' ∧ OwnRow w' 1 v' xs D ∧ Upd w w' [] D
theorem oneS {xs : List Bs} : ∀ u ∈ xs.map sv, u.oneCell' = true := sv_one
set_option maxRecDepth 100000 in
set_option maxHeartbeats 1000000 in
theorem cloneS_any (v : Value) (b : List Bs) (E : List Nat) (w : World) (hb : ReadRow w 1 v (b.map sv) E) (hlen : b.length ≤ 1048576) :
    Calls Tryd.prog 14 #[v] w (NewS w (b.map sv)) := by
  obtain ⟨i0, hi0, hz0, hz1, hz2⟩ := info_parts infoStr
  obtain ⟨nb, hnb, hsrc⟩ := hb.src (P := Tryd.prog) (tx := 38) Tryd.underlying38 sv_one
  obtain rfl : b.length = nb := by simpa using hnb
  obtain ⟨a, n, c, rfl, hl, hn, hc, ha, hr⟩ := hb
  obtain rfl : b.length = n := by simpa using hl
  have hnil := fun (W : World) (a : Option Addr) (n c n' c' : Nat) => Lib.run_eql_slice_nil (P := Tryd.prog) W 38 9 a n c n' c' Tryd.underlying38
  cases a with
  | none =>
    obtain rfl : c = 0 := ha rfl
    have hb0 : b.length = 0 := by omega
    have H0 := Lib.hid (show b = [] by simpa using hb0)
    clear hl hn hnb hb0 hsrc hr
    go_enter Tryd.func14, Tryd.ntmps14
    go_wp2_with fail
    go_ret
    rw [H0.out]
    exact ⟨_, [], rfl, OwnRow.nil _ _, Upd.refl _ _⟩
  | some ad =>
    have HBD := Lib.hid (show ∀ n, ([] : List Value).length = n * 1 → n + b.length ≤ 140737488355328 ∧ (n + b.length) * i0.bytes ≤ 140737488355328 from fun n hn => by simp at hn; rw [hz2]; omega)
    have hread : ReadRow w 1 (.slice (some ad) b.length c) (b.map sv) E := ⟨_, _, _, rfl, hl, hn, hc, ha, hr⟩
    have HR := Lib.hid hread
    clear hread hr hl hnb
    go_enter Tryd.func14, Tryd.ntmps14
    obtain ⟨nb', hnb', hsrc'⟩ := (HR.out.frame ((Upd.alloc0 w (.cells #[] 9) []).same HR.out.lt (by simp))).src (P := Tryd.prog) (tx := 38) Tryd.underlying38 sv_one
    obtain rfl : b.length = nb' := by simpa using hnb'
    clear hsrc hnb'
    go_wp2_with (at_builtin; go_must (refine wpList_app rfl _ _ 38 38 rfl 1 _ _ _ rfl (OwnRow.zero _ _ _) _ i0 _ Tryd.underlying38 hi0 hz0 hz1 rfl _ _ _ rfl hsrc' HBD.out ?_); intro a3 n3 c3' w4 D3 hown3 hu4)
    go_ret
    exact ⟨_, D3, rfl, by simpa using hown3, (Upd.alloc0 _ _ _).trans hu4⟩
set_option maxHeartbeats 1000000 in
theorem insert_any (v : Value) (l : List Bs) (D : List Nat) (w : World) (k : Nat) (x : Bs) (vb : Nat) (Tv : TypeId) (h : OwnRow w 1 v (l.map sv) D) (hk : k ≤ l.length) (hl : l.length ≤ 1000000) (hvb : w.heap[vb]? = some (.cells #[sv x] Tv (0, 0))) (hne : vb ∉ D) :
    Calls Tryd.prog 46 #[v, .int .i64 (k : Nat), .slice (some ⟨vb, 0, none⟩) 1 1] w fun e w' => ∃ v' D', e = .returned v' ∧ OwnRow w' 1 v' ((l.take k ++ x :: l.drop k).map sv) D' ∧ Upd w w' D D' := by
  obtain ⟨a, n, c, rfl, hln, hn, hc, ha, hr⟩ := h
  rw [List.length_map, Nat.mul_one] at hln
  subst hln
  have hvs : ∀ (j : Nat) v, [sv x][j]? = some v → w.cell? ⟨vb, 0 + j, none⟩ = some v := fun j v hj => by
    match j, hj with
    | 0, hj => cases hj; exact cell_of hvb 0 rfl
    | j + 1, hj => cases hj
  have h1v : ∀ v ∈ [sv x], v.oneCell' = true := by simp [sv, Value.oneCell']
  unfold maxLen at hc
  have hlen2 : ((l.take k ++ x :: l.drop k).map sv).length = l.length + 1 := by
    simp only [List.length_map, List.length_append, List.length_take, List.length_cons, List.length_drop]
    omega
  have hg0 := grownCap_ge w (l.length + 1) c 9
  have hg1 := grownCap_le_maxLen w (l.length + 1) c 9 (by unfold maxLen; omega)
  by_cases hkn : k = l.length
  · have htk : (l.take k ++ x :: l.drop k).map sv = l.map sv ++ [sv x] := by
      rw [hkn, List.take_length, List.drop_length, List.map_append]
      rfl
    rw [htk] at hlen2 ⊢
    by_cases hroom : l.length + 1 ≤ c
    · rcases hr with ⟨h0, -⟩ | ⟨g, off, cur, T, rfl, rfl, h3, h4, h5⟩
      · omega
      · have hbk : ∀ j, j < l.length → w.cell? ⟨g, off + j, none⟩ = (l.map sv)[j]? := fun j hj => by
          rw [cell_of_row w g _ cur T _ h3, ← h5, List.getElem?_take, if_pos (by omega), List.getElem?_drop, Array.getElem?_toList]
        have := Any2.slices_Insert_string_end_room Tryd.laysNm222 g off l.length c vb 0 1 1 [sv x] w (by omega) hroom (by omega) rfl (fun j hj => by
          obtain rfl : j = 0 := by omega
          rw [cell_of_row w g _ cur T _ h3]
          simp
          omega) (fun j _ => frz_of h3 _) hvs h1v
        rw [hkn]
        refine this.mono ?_
        rintro e w' ⟨rfl, rfl⟩
        obtain ⟨cur', hb', hs'⟩ := blk_setCells (vs := [sv x]) (o := off + l.length) h3 (by simp; omega)
        refine ⟨_, [g], rfl, own_by_cells hb' (by omega) hlen2 hroom (by unfold maxLen; omega) (fun j hj => ?_), upd_setCells _ _ _ _⟩
        rw [hlen2] at hj
        by_cases hjl : j < l.length
        · rw [World.cell?_setCells_out _ _ _ _ _ (fun _ _ => .inl (by show off + j < off + l.length; omega)), hbk j hjl, List.getElem_append_left (by simpa using hjl), List.getElem?_eq_getElem (by simpa using hjl)]
        · obtain rfl : j = l.length := by omega
          have := World.cell?_setCells_in g [sv x] (off + l.length) w (fun i hi => by
            obtain rfl : i = 0 := by simpa using hi
            rw [cell_of_row w g _ cur T _ h3]
            simp
            omega) 0 (by simp)
          rw [Nat.add_zero] at this
          rw [this, List.getElem_append_right (by simp)]
          simp
    · have := Any2.slices_Insert_string_end_grow Tryd.laysNm222 a l.length c vb 0 1 1 (l.map sv) [sv x] w (by omega) hn (by omega) (by omega) (by simp) rfl (fun h => by have := ha h; omega) (fun ad had j u hj => by
          rcases hr with ⟨h0, -⟩ | ⟨g, off, cur, T, h1, rfl, h3, h4, h5⟩
          · have : l = [] := List.length_eq_zero_iff.1 (by omega)
            subst this
            cases hj
          · rw [h1] at had
            cases had
            rw [Addr.add_lit, cell_of_row w g _ cur T _ h3]
            rw [← h5, List.getElem?_take] at hj
            split at hj
            · rw [List.getElem?_drop, Array.getElem?_toList] at hj; exact hj
            · cases hj) hvs h1v
      rw [hkn]
      refine this.mono ?_
      rintro e w' ⟨rfl, rfl⟩
      refine ⟨_, [w.heap.size], rfl, ?_, ?_⟩
      · refine OwnRow.made w.drew 9 1 (l.length + 1) _ _ _ (by omega) hg0 hg1 ?_ ?_
        · rw [Array.size_append, size_zeroCells]
          simp only [List.size_toArray]
          rw [hlen2, show (Value.string ⟨#[]⟩).cells.size = 1 from rfl]
          omega
        · rw [Array.toList_append, List.take_append_of_le_length (by rw [hlen2]; omega)]
          exact List.take_of_length_le (by rw [hlen2]; omega)
      · exact ((Upd.refl w []).drew.trans (Upd.alloc1 w.drew _ [])).mono (by simp) (fun b hb => .inl hb)
  · rcases hr with ⟨h0, -⟩ | ⟨g, off, cur, T, rfl, rfl, h3, h4, h5⟩
    · omega
    have hvg : vb ≠ g := fun e => hne (by simp [e])
    have hbk : ∀ j, j < l.length → w.cell? ⟨g, off + j, none⟩ = (l.map sv)[j]? := fun j hj => by
      rw [cell_of_row w g _ cur T _ h3, ← h5, List.getElem?_take, if_pos (by omega), List.getElem?_drop, Array.getElem?_toList]
    have hcs : ∀ (j : Nat) v, (l.map sv)[j]? = some v → w.cell? ⟨g, off + j, none⟩ = some v := fun j v hj => by
      have : j < l.length := by have := (List.getElem?_eq_some_iff.1 hj).1; simpa using this
      rw [hbk j this]; exact hj
    have hdl : ((l.map sv).drop k).length = l.length - k := by simp
    -- what stands at each place behind the call
    have hat : ∀ j (hj : j < ((l.take k ++ x :: l.drop k).map sv).length), ((l.take k ++ x :: l.drop k).map sv)[j] = if h : j < k then (l.map sv)[j]'(by simp; omega) else if h' : j = k then sv x else (l.map sv)[j - 1]'(by rw [hlen2] at hj; simp; omega) := fun j hj => by
      rw [hlen2] at hj
      simp only [List.getElem_map]
      split
      · rename_i h
        rw [List.getElem_append_left (by simp; omega), List.getElem_take]
      · rename_i h
        split
        · rename_i h'
          subst h'
          rw [List.getElem_append_right (by rw [List.length_take]; omega)]
          simp only [List.length_take, Nat.min_eq_left (show j ≤ l.length by omega), Nat.sub_self, List.getElem_cons_zero]
        · rename_i h'
          rw [List.getElem_append_right (by simp; omega)]
          simp only [List.length_take, Nat.min_eq_left (show k ≤ l.length by omega)]
          rw [List.getElem_cons]
          rw [dif_neg (by omega), List.getElem_drop]
          congr 2
          omega
    by_cases hroom : l.length + 1 ≤ c
    · have hsz : ∀ o, o < c → (w.cell? ⟨g, off + o, none⟩).isSome = true := fun o ho => by
        rw [cell_of_row w g _ cur T _ h3]
        simp
        omega
      have := Any2.slices_Insert_string_shift Tryd.laysNm222 g off l.length c k vb 0 1 1 (l.map sv) [sv x] w (by omega) (by omega) hroom (by omega) hvg (by simp) rfl hcs (fun j hj => hsz j (by omega)) (fun j _ => frz_of h3 _) hvs sv_one h1v Tv T 1 cur.size
        (by unfold World.shape?; rw [hvb]; rfl) (by unfold World.shape?; rw [h3]) (by omega) (frz_of hvb 0) (frz_of hvb 1)
      refine this.mono ?_
      rintro e w' ⟨rfl, rfl⟩
      have h3d : w.drew.heap[g]? = some (.cells cur T (0, 0)) := h3
      obtain ⟨cur1, hb1, hs1⟩ := blk_setCells (vs := (l.map sv).drop k) (o := off + (k + 1)) h3d (by rw [hdl]; omega)
      obtain ⟨cur2, hb2, hs2⟩ := blk_setCells (vs := [sv x]) (o := off + k) hb1 (by simp; omega)
      have hz1 : ∀ o, o < c → ((w.drew.setCells g (off + (k + 1)) ((l.map sv).drop k)).cell? ⟨g, off + o, none⟩).isSome = true := fun o ho => by
        rw [cell_of_row _ g _ cur1 T _ hb1]
        simp
        omega
      refine ⟨_, [g], rfl, own_by_cells hb2 (by omega) hlen2 hroom (by unfold maxLen; omega) (fun j hj => ?_), ((Upd.refl w [g]).drew.trans (upd_setCells _ _ _ _)).trans (upd_setCells _ _ _ _)⟩
      rw [hat j hj]
      rw [hlen2] at hj
      by_cases hjk : j < k
      · rw [dif_pos hjk, World.cell?_setCells_out _ _ _ _ _ (fun _ _ => .inl (by show off + j < off + k; omega)), World.cell?_setCells_out _ _ _ _ _ (fun _ _ => .inl (by show off + j < off + (k + 1); omega))]
        refine (hbk j (by omega)).trans ?_
        rw [List.getElem?_eq_getElem (by simp; omega)]
      · rw [dif_neg hjk]
        by_cases hje : j = k
        · rw [dif_pos hje]
          subst hje
          have := World.cell?_setCells_in g [sv x] (off + j) (w.drew.setCells g (off + (j + 1)) ((l.map sv).drop j)) (fun i hi => by
            obtain rfl : i = 0 := by simpa using hi
            exact hz1 j (by omega)) 0 (by simp)
          rw [Nat.add_zero] at this
          exact this
        · rw [dif_neg hje, World.cell?_setCells_out _ _ _ _ _ (fun _ _ => .inr (by show off + k + 1 ≤ off + j; omega))]
          have := World.cell?_setCells_in g ((l.map sv).drop k) (off + (k + 1)) w.drew (fun i hi => by
            rw [hdl] at hi
            have := hsz (k + 1 + i) (by omega)
            rw [← Nat.add_assoc] at this
            exact this) (j - (k + 1)) (by rw [hdl]; omega)
          rw [show off + (k + 1) + (j - (k + 1)) = off + j by omega] at this
          rw [this, List.getElem_drop]
          congr 2
          omega
    · have := Any2.slices_Insert_string_grow Tryd.laysNm222 g off l.length c k vb 0 1 1 (l.map sv) [sv x] w (by omega) (by omega) hn (by omega) (by omega) (by simp) rfl hcs hvs sv_one h1v
      refine this.mono ?_
      rintro e w' ⟨rfl, rfl⟩
      obtain ⟨gc, hgc⟩ : ∃ gc, grownCap w (l.length + 1) c 9 = gc := ⟨_, rfl⟩
      rw [hgc] at hg0 hg1
      rw [show Tryd.laysNm222_ren.t 9 = 9 from rfl, hgc]
      obtain ⟨cur0, hcur0⟩ : ∃ cur0, cur0 = ((l.map sv).take k).toArray ++ Builtin.zeroCells (Value.string ⟨#[]⟩).cells (l.length + 1 - k) ++ Builtin.zeroCells (Value.string ⟨#[]⟩).cells (gc - (l.length + 1)) := ⟨_, rfl⟩
      have hz0 : cur0.size = gc := by
        rw [hcur0, Array.size_append, Array.size_append, size_zeroCells, size_zeroCells, show (Value.string ⟨#[]⟩).cells.size = 1 from rfl]
        simp only [List.size_toArray, List.length_take, List.length_map, Nat.min_eq_left (show k ≤ l.length by omega)]
        omega
      have hk0 : ∀ j (hj : j < k), cur0[j]? = (l.map sv)[j]? := fun j hj => by
        rw [hcur0, Array.append_assoc, Array.getElem?_append_left (by simp; omega)]
        rw [List.getElem?_toArray, List.getElem?_take, if_pos hj]
      rw [← hcur0]
      have hb0 : (w.alloc (.cells cur0 9)).drew.heap[w.heap.size]? = some (.cells cur0 9 (0, 0)) := heap_alloc_new w _
      obtain ⟨cur1, hb1, hs1⟩ := blk_setCells (vs := [sv x]) (o := k) hb0 (by simp; omega)
      have hb1' : (((w.alloc (.cells cur0 9)).drew.setCells w.heap.size k [sv x]).drew).heap[w.heap.size]? = some (.cells cur1 9 (0, 0)) := hb1
      obtain ⟨cur2, hb2, hs2⟩ := blk_setCells (vs := (l.map sv).drop k) (o := k + 1) hb1' (by rw [hdl]; omega)
      refine ⟨_, [w.heap.size], rfl, own_by_cells hb2 (by omega) hlen2 hg0 hg1 (fun j hj => ?_), ?_⟩
      · rw [hat j hj, Nat.zero_add]
        rw [hlen2] at hj
        by_cases hjk : j < k
        · rw [dif_pos hjk, World.cell?_setCells_out _ _ _ _ _ (fun _ _ => .inl (by show j < k + 1; omega))]
          refine (World.cell?_setCells_out _ [sv x] k (w.alloc (.cells cur0 9)).drew _ (fun _ _ => .inl (by show j < k; omega))).trans ?_
          rw [cell_of_row _ _ _ cur0 _ _ hb0, hk0 j hjk, List.getElem?_eq_getElem (by simp; omega)]
        · rw [dif_neg hjk]
          by_cases hje : j = k
          · rw [dif_pos hje]
            subst hje
            rw [World.cell?_setCells_out _ _ _ _ _ (fun _ _ => .inl (by show j < j + 1; omega))]
            have := World.cell?_setCells_in w.heap.size [sv x] j (w.alloc (.cells cur0 9)).drew (fun i hi => by
              obtain rfl : i = 0 := by simpa using hi
              rw [cell_of_row _ _ _ cur0 _ _ hb0]
              simp
              omega) 0 (by simp)
            exact this
          · rw [dif_neg hje]
            have := World.cell?_setCells_in w.heap.size ((l.map sv).drop k) (k + 1) (((w.alloc (.cells cur0 9)).drew.setCells w.heap.size k [sv x]).drew) (fun i hi => by
              rw [hdl] at hi
              rw [cell_of_row _ _ _ cur1 _ _ hb1']
              simp
              omega) (j - (k + 1)) (by rw [hdl]; omega)
            rw [show k + 1 + (j - (k + 1)) = j by omega] at this
            rw [this, List.getElem_drop]
            congr 2
            omega
      · refine (((((Upd.alloc1 w (.cells cur0 9) []).drew).trans (upd_setCells _ _ _ _)).drew).trans (upd_setCells _ _ _ _)).mono (by simp) (fun b hb => .inl hb)
set_option maxHeartbeats 1000000 in
/-- One name is taken out. -/
theorem delete_any (v : Value) (l : List Bs) (D : List Nat) (w : World) (k : Nat) (h : OwnRow w 1 v (l.map sv) D) (hk : k < l.length) (hl : l.length ≤ 1000000) :
    Calls Tryd.prog 47 #[v, .int .i64 (k : Nat), .int .i64 (k + 1 : Nat)] w fun e w' => ∃ v' D', e = .returned v' ∧ OwnRow w' 1 v' ((l.take k ++ l.drop (k + 1)).map sv) D' ∧ Upd w w' D D' := by
  obtain ⟨a, n, c, rfl, hln, hn, hc, ha, hr⟩ := h
  rw [List.length_map, Nat.mul_one] at hln
  subst hln
  unfold maxLen at hc
  rcases hr with ⟨h0, -⟩ | ⟨g, off, cur, T, rfl, rfl, h3, h4, h5⟩
  · omega
  have hbk : ∀ j (hj : j < l.length), w.cell? ⟨g, off + j, none⟩ = some (.string ((fun j => (⟨(l.getD j []).toArray⟩ : ByteArray)) j)) := fun j hj => by
    have : w.cell? ⟨g, off + j, none⟩ = (l.map sv)[j]? := by
      rw [cell_of_row w g _ cur T _ h3, ← h5, List.getElem?_take, if_pos (by omega), List.getElem?_drop, Array.getElem?_toList]
    rw [this, List.getElem?_map, List.getElem?_eq_getElem hj]
    simp [sv, List.getD, List.getElem?_eq_getElem hj]
  refine (Tryd.slices_Delete_string_cells g off l.length c k (k + 1) _ w hn (by omega) (by omega) (by omega) hbk (fun j _ => frz_of h3 _)).mono ?_
  rintro e w' ⟨rfl, q, rfl⟩
  have hso : Lib.strsOf (fun j => (⟨(l.getD j []).toArray⟩ : ByteArray)) l.length = l := by
    unfold Lib.strsOf
    apply List.ext_getElem
    · simp
    · intro j h1 h2
      simp [List.getD, List.getElem?_eq_getElem h2]
  rw [hso]
  obtain ⟨vs, hvs⟩ : ∃ vs, (l.take k ++ l.drop (k + 1) ++ List.replicate (k + 1 - k) []).map encStr = vs := ⟨_, rfl⟩
  have hvl : vs.length = l.length := by
    rw [← hvs]
    simp only [List.length_map, List.length_append, List.length_take, List.length_drop, List.length_replicate]
    omega
  have hcl : ((l.take k ++ l.drop (k + 1)).map sv).length = l.length - 1 := by
    simp only [List.length_map, List.length_append, List.length_take, List.length_drop]
    omega
  rw [hvs, show l.length - (k + 1 - k) = l.length - 1 by omega]
  have h3d : (w.drewN q).heap[g]? = some (.cells cur T (0, 0)) := h3
  obtain ⟨cur1, hb1, hs1⟩ := blk_setCells (vs := vs) (o := off) h3d (by omega)
  refine ⟨_, [g], rfl, own_by_cells hb1 (by omega) hcl (by omega) (by unfold maxLen; omega) (fun j hj => ?_), ((Upd.refl w [g]).drewN q).trans (upd_setCells _ _ _ _)⟩
  have := World.cell?_setCells_in g vs off (w.drewN q) (fun i hi => by
    rw [cell_of_row _ g _ cur T _ h3d]
    simp
    omega) j (by omega)
  rw [this]
  congr 1
  simp only [← hvs]
  rw [List.getElem_map, List.getElem_map, List.getElem_append_left (by rw [hcl] at hj; simp only [List.length_append, List.length_take, List.length_drop]; omega)]
  rfl
end Go.Proofs.YtjeaoopamebgjaaDoor
