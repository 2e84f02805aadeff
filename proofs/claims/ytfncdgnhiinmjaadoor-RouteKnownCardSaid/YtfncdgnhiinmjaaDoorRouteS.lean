/-
  Routes: the walk of Split.
-/
import Derived.Test.YtfncdgnhiinmjaaDoorRouteP
import Derived.Test.YtfncdgnhiinmjaaDoorOpIn
import Derived.Deep.OwnRows
import Derived.Laws.OwnMore
namespace Go.Av
open Go.RowKit
def ivv (n : Int) : Value := .int .i64 n
/-- Rows of numbers, each beside the others. -/
def zipT (vs : List Value) (ls : List (List Int)) : List Thing := (vs.zip ls).map fun p => ThRow 1 p.1 (p.2.map ivv)
theorem zip_focus : ∀ {vs : List Value} {ls : List (List Int)} {s : Nat}, vs.length = ls.length → s < vs.length → ∃ v l A B, vs[s]? = some v ∧ ls[s]? = some l ∧ zipT vs ls = A ++ ThRow 1 v (l.map ivv) :: B ∧
    ∀ v' l', zipT (vs.set s v') (ls.set s l') = A ++ ThRow 1 v' (l'.map ivv) :: B
  | [], _, s, _, hs => by simp at hs
  | v :: vs, [], s, h, _ => by simp at h
  | v :: vs, l :: ls, 0, _, _ => ⟨v, l, [], zipT vs ls, rfl, rfl, rfl, fun _ _ => rfl⟩
  | v :: vs, l :: ls, s + 1, h, hs => by
    obtain ⟨v1, l1, A, B, h1, h2, h3, h4⟩ := zip_focus (vs := vs) (ls := ls) (s := s) (by simpa using h) (by simpa using hs)
    refine ⟨v1, l1, ThRow 1 v (l.map ivv) :: A, B, by simpa using h1, by simpa using h2, ?_, fun v' l' => ?_⟩
    · show ThRow 1 v (l.map ivv) :: zipT vs ls = _
      rw [h3]; rfl
    · show ThRow 1 v (l.map ivv) :: zipT (vs.set s v') (ls.set s l') = _
      rw [h4]; rfl
theorem Sep.nils {w0 w : World} {R : List Thing} {rows : List (Value × Bs)} (h : Sep w0 w R rows) : ∀ n : Nat, Sep w0 w (zipT (List.replicate n (.slice none 0 0)) (List.replicate n []) ++ R) rows
  | 0 => h
  | n + 1 => (Sep.nils h n).nilRow 1
end Go.Av
namespace Go.Proofs.YtfncdgnhiinmjaaDoor
open Go.RowKit Go.Av

/-- A table in which each name that was moved is a shard's. -/
def RtOK (S : RtS) : Prop := 1 ≤ S.n ∧ S.n ≤ 4 ∧ ∀ e ∈ S.mv, 0 ≤ e.2 ∧ e.2 < S.n
theorem of_bd {S : RtS} (h : RtOK S) (p : Bs) : -1 ≤ ofS S p ∧ ofS S p < S.n := by
  obtain ⟨h1, h2, h3⟩ := h
  unfold ofS
  split
  · omega
  · split
    · rename_i s hs
      obtain ⟨l1, l2, he, -⟩ := lookM_some hs
      have := h3 (topP p, s) (by rw [he]; simp)
      simp only at this
      omega
    · have := Int.emod_nonneg (sumB (topP p) : Int) (show S.n ≠ 0 by omega)
      have := Int.emod_lt_of_pos (sumB (topP p) : Int) (show 0 < S.n by omega)
      omega
theorem set_mem {k : Bs} {v : Int} {l : List (Bs × Int)} {e : Bs × Int} (h : e ∈ setM k v l) : e ∈ l ∨ e = (k, v) := by
  unfold setM at h
  split at h
  · obtain ⟨e0, he, rfl⟩ := List.mem_map.1 h
    split
    · rename_i hk; exact .inr (by rw [hk])
    · exact .inl he
  · simpa using h
theorem move_okS {S : RtS} (h : RtOK S) (top : Bs) (sh : Int) : RtOK (moveS S top sh).2 := by
  by_cases hz : (moveS S top sh).1 = 0
  · obtain ⟨hb, hS⟩ := move_ok hz
    obtain ⟨-, -, h1, h2⟩ := badM_false hb
    rw [hS]
    refine ⟨h.1, h.2.1, fun e he => ?_⟩
    rcases set_mem he with he | rfl
    · exact h.2.2 e he
    · exact ⟨h1, h2⟩
  · rw [move_no hz]; exact h

/-- Whose are the first p Ops? -/
def rowS (S : RtS) (ps : List Bs) (p s : Nat) : List Int := ((List.range p).filter fun i => decide (ofS S (ps.getD i []) = (s : Int))).map Int.ofNat
def gridS (S : RtS) (ps : List Bs) (p : Nat) : List (List Int) := (List.range S.n.toNat).map (rowS S ps p)
theorem row_step (S : RtS) (ps : List Bs) (p s : Nat) : rowS S ps (p + 1) s = if ofS S (ps.getD p []) = (s : Int) then rowS S ps p s ++ [(p : Int)] else rowS S ps p s := by
  unfold rowS
  rw [List.range_succ, List.filter_append, List.filter_cons, List.filter_nil, List.map_append]
  by_cases h : ofS S (ps.getD p []) = (s : Int)
  · rw [if_pos h, if_pos (by simpa using h)]; rfl
  · rw [if_neg h, if_neg (by simpa using h)]; simp
theorem grid_len (S : RtS) (ps : List Bs) (p : Nat) : (gridS S ps p).length = S.n.toNat := by unfold gridS; simp
theorem grid_get {S : RtS} {ps : List Bs} {p s : Nat} (h : s < S.n.toNat) : (gridS S ps p)[s]? = some (rowS S ps p s) := by
  unfold gridS
  rw [List.getElem?_map, List.getElem?_range h]; rfl
theorem grid_none {S : RtS} {ps : List Bs} {p : Nat} (h : ofS S (ps.getD p []) < 0) : gridS S ps (p + 1) = gridS S ps p := by
  unfold gridS
  refine List.map_congr_left fun s _ => ?_
  rw [row_step, if_neg (by omega)]
theorem grid_set {S : RtS} {ps : List Bs} {p s : Nat} (h : ofS S (ps.getD p []) = (s : Int)) (hs : s < S.n.toNat) : gridS S ps (p + 1) = (gridS S ps p).set s (rowS S ps p s ++ [(p : Int)]) := by
  apply List.ext_getElem?
  intro j
  rw [List.getElem?_set, grid_len]
  by_cases hj : s = j
  · subst hj
    rw [if_pos rfl, if_pos hs, grid_get hs, row_step, if_pos h]
  · rw [if_neg hj]
    by_cases hjl : j < S.n.toNat
    · rw [grid_get hjl, grid_get hjl, row_step, if_neg (by omega)]
    · rw [List.getElem?_eq_none (by rw [grid_len]; omega), List.getElem?_eq_none (by rw [grid_len]; omega)]
theorem row_len (S : RtS) (ps : List Bs) (p s : Nat) : (rowS S ps p s).length ≤ p := by
  unfold rowS
  rw [List.length_map]
  have := List.length_filter_le (fun i => decide (ofS S (ps.getD i []) = (s : Int))) (List.range p)
  rw [List.length_range] at this
  exact this
theorem grid_zero (S : RtS) (ps : List Bs) : gridS S ps 0 = List.replicate S.n.toNat [] := by
  unfold gridS rowS
  simp [List.map_const']

theorem infoII : (Tryd.prog.info? 41).map (fun i => (i.zero, i.size, i.bytes)) = some (some (.slice none 0 0), 1, 24) := by kernel_rfl
theorem infoI' : (Tryd.prog.info? 3).map (fun i => (i.zero, i.size, i.bytes)) = some (some (.int .i64 0), 1, 8) := by kernel_rfl
theorem nilRows (w : World) (z : Nat) (hz : z ≤ 30000) : OwnRow (w.alloc (.cells (madeCells #[.slice none 0 0] z) 41)) 1 (.slice (some ⟨w.heap.size, 0, none⟩) z z) (List.replicate z (.slice none 0 0)) [w.heap.size] :=
  OwnRow.made w 41 1 z z (madeCells #[.slice none 0 0] z) _ (by simp) (Nat.le_refl _) (by unfold maxLen; omega) (by rw [size_madeCells]; omega) (by
    rw [toList_madeCells_one, Nat.mul_one, List.take_of_length_le (by simp)])

/-- A grid beside a table. -/
def RtG (w0 w : World) (t : Nat) (S : RtS) (v : Value) (ls : List (List Int)) (R : List Thing) (rows : List (Value × Bs)) : Prop :=
  ∃ vs, vs.length = ls.length ∧ Rt w0 w t S (ThRow 1 v vs :: (zipT vs ls ++ R)) rows
section
variable {w0 w : World} {t : Nat} {S : RtS} {R : List Thing} {rows : List (Value × Bs)}
/-- One row of the grid, taken up; and laid back with another. -/
theorem RtG.take {v : Value} {ls : List (List Int)} (h : RtG w0 w t S v ls R rows) {s : Nat} {l : List Int} (hs : ls[s]? = some l) : ∃ (vi : Value) (D : List Nat), w.cell? ⟨t, 0, none⟩ = some (.int .i64 S.n) ∧
    (∃ a n c, v = .slice (some a) n c ∧ n = ls.length ∧ a.spot = none ∧ w.cell? (a.add s) = some vi) ∧ OwnRow w 1 vi (l.map ivv) D ∧
    ∀ (w' : World) D' vi' l', OwnRow w' 1 vi' (l'.map ivv) D' → Upd w w' D D' → ∀ a n c, v = .slice (some a) n c → w'.frozen? (a.add s) = false ∧ (∃ u, w'.cell? (a.add s) = some u) ∧ RtG w0 (w'.setCell (a.add s) vi') t S v (ls.set s l') R rows := by
  obtain ⟨vs, hlen, m, hS⟩ := h
  have hsl : s < vs.length := by rw [hlen]; exact (List.getElem?_eq_some_iff.1 hs).1
  obtain ⟨vi, l0, A, B, h1, h2, h3, h4⟩ := zip_focus hlen hsl
  have e := hs.symm.trans h2
  injection e with e
  subst e
  have hb := hS.block (b := t) (o := .cells #[.int .i64 S.n, .int .i64 S.ver, .map (some m)] 63 (0, 0)) (by simp [rtTh])
  have hp : ∀ (vs' : List Value) (vi' : Value) (l' : List Int), (ThRow 1 vi' (l'.map ivv) :: ThRow 1 v vs' :: (A ++ B ++ (rtTh t m S ++ R))).Perm (rtTh t m S ++ ThRow 1 v vs' :: ((A ++ ThRow 1 vi' (l'.map ivv) :: B) ++ R)) := fun vs' vi' l' => by
    refine List.Perm.symm ?_
    refine (List.perm_append_comm (l₁ := rtTh t m S)).trans ?_
    rw [List.cons_append]
    refine List.Perm.trans ?_ (List.Perm.swap _ _ _)
    refine List.Perm.cons _ ?_
    rw [List.append_assoc, List.append_assoc, List.cons_append]
    refine List.perm_middle.trans (List.Perm.cons _ ?_)
    rw [List.append_assoc]
    exact List.Perm.append_left _ (List.Perm.append_left _ List.perm_append_comm)
  rw [h3] at hS
  have hS1 := hS.perm (hp vs vi l).symm
  obtain ⟨D, ho, -, back⟩ := hS1.use
  obtain ⟨a, n, c, rfl, hl, hn, hc⟩ := hS1.swap.rowLen
  rw [Nat.mul_one] at hl
  obtain ⟨y, rfl, hys, hcy⟩ := hS1.swap.rowCell (i := s) (x := vi) h1
  refine ⟨vi, D, cell_of hb 0 rfl, ⟨y, n, c, rfl, by omega, hys, hcy⟩, ho, fun w' D' vi' l' ho' hu a' n' c' hv => ?_⟩
  cases hv
  have hS2 := (back w' D' (ThRow 1 vi' (l'.map ivv)) hu ho').swap
  obtain ⟨f1, -, f3, f4⟩ := hS2.rowSet (i := s) (by omega) vi'
  refine ⟨f1, f3, vs.set s vi', by simp [hlen], m, ?_⟩
  rw [h4]
  exact (f4.swap).perm (hp (vs.set s vi') vi' l')

theorem RtG.table {v : Value} {ls : List (List Int)} (h : RtG w0 w t S v ls R rows) : ∃ R', Rt w0 w t S R' rows ∧ ∀ w', Rt w0 w' t S R' rows → RtG w0 w' t S v ls R rows := by
  obtain ⟨vs, h1, h2⟩ := h
  exact ⟨_, h2, fun w' h' => ⟨vs, h1, h'⟩⟩
theorem RtG.keep {v : Value} {ls : List (List Int)} (h : RtG w0 w t S v ls R rows) {w' : World} {D' : List Nat} (hu : Upd w w' [] D') : RtG w0 w' t S v ls R rows := by
  obtain ⟨vs, h1, h2⟩ := h
  exact ⟨vs, h1, h2.keep hu⟩
theorem RtG.below {v : Value} {ls : List (List Int)} (h : RtG w0 w t S v ls R rows) : Below w0.heap.size w0 w := by
  obtain ⟨vs, h1, h2⟩ := h
  exact h2.below

set_option maxRecDepth 100000 in
set_option maxHeartbeats 4000000 in
theorem split_gen (h : Rt w0 w t S R rows) (hd : Door w0) (hok : RtOK S) (a : Option Addr) (len cap : Nat) (ops : List OpS) (hop0 : IsOps w a len cap ops) (hops : ∀ (w' : World) v ls, RtG w0 w' t S v ls R rows → IsOps w' a len cap ops) (hl : ops.length ≤ 1000) :
    Calls Tryd.prog 17 #[.pointer (some ⟨t, 0, none⟩), .slice a len cap] w fun e w' => ∃ v, e = .returned v ∧ RtG w0 w' t S v (gridS S (ops.map fun o => o.path.data.toList) ops.length) R rows := by
  obtain ⟨i0, hi0, hz0, hz1, hz2⟩ := info_parts infoI'
  obtain ⟨N, hN⟩ : ∃ N : Nat, S.n = N := ⟨S.n.toNat, by have := hok.1; omega⟩
  have hN1 : 1 ≤ N := by have := hok.1; omega
  have hN4 : N ≤ 4 := by have := hok.2.1; omega
  obtain ⟨m, hb, -⟩ := h.facts
  have c0 := cell_of hb 0 rfl
  rw [show (#[Value.int .i64 S.n, .int .i64 S.ver, .map (some m)] : Array Value)[0] = .int .i64 (N : Int) by rw [← hN]; rfl] at c0
  have hmk := fun W => run_make_row' (P := Tryd.prog) 39 41 (.slice none 0 0) 24 Tryd.underlying39 infoII rfl .i64 .i64 N (by omega) (by omega) W
  have hla : ops.length = len := hop0.1
  subst hla
  obtain ⟨ps, hps⟩ : ∃ ps, ps = ops.map fun o => o.path.data.toList := ⟨_, rfl⟩
  rw [← hps]
  have hG : RtG w0 (w.alloc (.cells (madeCells #[.slice none 0 0] N) 41)) t S (.slice (some ⟨w.heap.size, 0, none⟩) N N) (gridS S ps 0) R rows := by
    obtain ⟨m', hS⟩ := h
    refine ⟨List.replicate N (.slice none 0 0), by rw [grid_len, hN]; simp, m', ?_⟩
    have h1 := (hS.addRow (nilRows w N (by omega)) (Upd.alloc1 w _ [])).nils N
    rw [grid_zero, hN, Int.toNat_natCast]
    refine h1.perm ?_
    exact (List.perm_append_comm_assoc (zipT (List.replicate N (.slice none 0 0)) (List.replicate N [])) (ThRow 1 (.slice (some ⟨w.heap.size, 0, none⟩) N N) (List.replicate N (.slice none 0 0)) :: rtTh t m' S) R).trans (List.perm_middle (l₁ := rtTh t m' S)).symm
  have HG := Lib.hid hG
  have HD := Lib.hid hd
  have HOK := Lib.hid hok
  have HOP := Lib.hid hops
  have hcap : ops.length ≤ cap := hop0.2.1
  have hcm := hop0.2.2.1
  unfold maxLen at hcm
  have HN := Lib.hid hN
  have hpl : ps.length = ops.length := by rw [hps, List.length_map]
  have HPS := Lib.hid (show _ ∧ _ from ⟨hps, hpl⟩)
  clear h hb hG hd hok hops hop0 hN hps hpl
  go_enter Tryd.func17, Tryd.ntmps17
  go_wp2_with fail
  go_loopg [16] ops.length (fun k vi wr => ∃ p : Nat, p ≤ ops.length ∧ k = ops.length - p ∧ vi = .int .i64 (p : Int) ∧ RtG w0 wr t S (.slice (some ⟨w.heap.size, 0, none⟩) N N) (gridS S ps p) R rows)
  case atStart => exact ⟨0, Nat.zero_le _, rfl, rfl, HG.out⟩
  case round =>
    obtain ⟨p, hp, hk, hvi, H⟩ := hrel
    subst hvi
    clear HG
    by_cases hlt : p < ops.length
    case neg =>
      obtain rfl : p = ops.length := by omega
      have HO := Lib.hid H
      clear H
      go_wp2_with fail
      go_ret
      exact ⟨_, rfl, HO.out⟩
    obtain ⟨x, rfl, g0, g1, g2, g3, g4, hsz, -⟩ := (HOP.out _ _ _ H).at hlt
    have hget : ps.getD p [] = ops[p].path.data.toList := by
      rw [HPS.out.1, List.getD_eq_getElem?_getD, List.getElem?_map, List.getElem?_eq_getElem hlt]; rfl
    obtain ⟨o, ho⟩ : ∃ o, ops[p] = o := ⟨_, rfl⟩
    rw [ho] at g0 g1 g2 g3 g4 hsz hget
    have h1 := H.keep (Upd.alloc0 wr (.cells #[.int .i64 o.kind, .string o.path, .string o.data, .int .i64 o.ver, .int .i64 o.flags] 43) [])
    obtain ⟨R1, ht, bk⟩ := h1.table
    have hOf := of_any ht HD.out o.path hsz HOK.out.1 HOK.out.2.1
    rw [← hget] at hOf
    have hbd := of_bd HOK.out (ps.getD p [])
    obtain ⟨z, hz⟩ : ∃ z, ofS S (ps.getD p []) = z := ⟨_, rfl⟩
    rw [hz] at hOf hbd
    have HOF := Lib.hid hOf
    have HBK := Lib.hid bk
    have HZ := Lib.hid hz
    have hbd1 : z < N := by have := HN.out; omega
    clear H h1 ht bk hOf hz hget ho
    go_wp2_with fail
    refine HOF.out.mono ?_
    rintro e w2 ⟨rfl, h2⟩
    have H2 := HBK.out _ h2
    clear HOF HBK h2
    by_cases hneg : z < 0
    · have HX := Lib.hid H2
      have hb0 : ¬ 0 ≤ z := by omega
      clear H2
      go_wp2_with fail
      go_roundg (ops.length - (p + 1))
      case rel => exact ⟨p + 1, by omega, rfl, by go_num, by rw [grid_none (by rw [HZ.out]; exact hneg)]; exact HX.out⟩
      case measure => omega
    obtain ⟨s, rfl⟩ : ∃ s : Nat, z = s := ⟨z.toNat, by omega⟩
    have hsN : s < N := by omega
    have hsN' : s < S.n.toNat := by rw [HN.out]; simpa using hsN
    obtain ⟨vi, D, -, ⟨y, n, c, hv, hn, hys, hcy⟩, hown, back⟩ := H2.take (grid_get hsN')
    cases hv
    have hrl := row_len S ps p s
    obtain ⟨al, nl, cl, rfl, hll⟩ := hown.len
    have ha1 := Upd.alloc0 w2 (.cells #[.int .i64 (p : Int)] 3 (0, 0)) []
    have hcy2 := upd_cell ha1 hcy
    have hownA : OwnRow _ 1 _ _ D := OwnRow.frame hown (ha1.same (OwnRow.lt hown) (by simp))
    obtain ⟨nb, hnb, hsrc⟩ := (cell_new w2 (.int .i64 (p : Int)) 3 (0, 0)).src (P := Tryd.prog) (tx := 41) Tryd.underlying41 (by intro u hu; rw [List.mem_singleton.1 hu]; rfl)
    obtain rfl : 1 = nb := by simpa using hnb
    have HBD := Lib.hid (show ∀ n', ((rowS S ps p s).map ivv).length = n' * 1 → n' + 1 ≤ 140737488355328 ∧ (n' + 1) * i0.bytes ≤ 140737488355328 from fun n' hn' => by
      rw [List.length_map] at hn'
      rw [hz2]; omega)
    have HB2 := Lib.hid back
    rw [Addr.add_lit, Nat.zero_add] at hcy
    have hb0 : 0 ≤ (s : Int) := by omega
    have hs1 : (s : Int) < N := by omega
    clear hown back H2 hnb hll hn hcy2 hrl
    go_wp2_with (at_builtin; go_must (refine wpList_app rfl _ _ 41 41 rfl 1 _ _ _ rfl hownA _ i0 _ Tryd.underlying41 hi0 hz0 hz1 rfl _ _ _ rfl hsrc HBD.out ?_); intro a7 n7 c7 w7 D7 hown7 hu7; obtain ⟨f7, u7, HN7⟩ := HB2.out w7 D7 _ (rowS S ps p s ++ [(p : Int)]) (by rw [List.map_append]; exact hown7) ((ha1.mono (by simp) (fun b hb => .inr hb) : Upd w2 _ D D).trans hu7) _ _ _ rfl; rw [Addr.add_lit, Nat.zero_add] at f7 u7 HN7; obtain ⟨u7, hu7c⟩ := u7; have HX := Lib.hid HN7; clear HN7 hown7 hu7)
    go_roundg (ops.length - (p + 1))
    case rel => exact ⟨p + 1, by omega, rfl, by go_num, by rw [grid_set HZ.out hsN']; exact HX.out⟩
    case measure => omega
theorem split_walk (h : Rt w0 w t S R rows) (hd : Door w0) (hok : RtOK S) (a : Option Addr) (len cap : Nat) (ops : List OpS) (hops : IsOps w0 a len cap ops) (hl : ops.length ≤ 1000) :
    Calls Tryd.prog 17 #[.pointer (some ⟨t, 0, none⟩), .slice a len cap] w fun e w' => ∃ v, e = .returned v ∧ RtG w0 w' t S v (gridS S (ops.map fun o => o.path.data.toList) ops.length) R rows :=
  split_gen h hd hok a len cap ops (hops.below h.below) (fun _ _ _ H => hops.below H.below) hl
end
end Go.Proofs.YtfncdgnhiinmjaaDoor
