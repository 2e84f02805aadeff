/-
  The document's own disk: remove.
-/
import Derived.Test.YthphinlibhafcaaFdB
namespace Go.Proofs.Ythphinlibhafcaa
open Go.RowKit Go.Av
theorem infoFile : (Try.prog.info? 52).map (fun i => (i.zero, i.size, i.bytes)) = some (some (.agg #[.string ByteArray.empty, .slice none 0 0, .int .i64 0]), 3, 48) := by kernel_rfl
section
variable {w0 w : World} {t : Nat} {T : DiskS} {R : List Thing} {rows : List (Value × Bs)} {v : Value} {gs : List (Value × FileS)}
theorem FdX.one (h : FdX w0 w t T v gs R rows) (l : List (Value × FileS)) (hl : ∀ g ∈ l, g ∈ gs) : ∀ u ∈ l.flatMap fcell, u.oneCell' = true := by
  intro u hu
  obtain ⟨g, hg, he⟩ := List.mem_flatMap.1 hu
  obtain ⟨E, hE⟩ := h.sep.get (h.row g (hl g hg))
  obtain ⟨a, n, c, hv, -⟩ := hE
  unfold fcell at he
  rw [hv] at he
  simp only [List.mem_cons, List.not_mem_nil, or_false] at he
  rcases he with rfl | rfl | rfl <;> rfl
/-- A slice's front and tail, read. -/
theorem FdX.cut {a : Option Addr} {c : Nat} (h : FdX w0 w t T (.slice a gs.length c) gs R rows) (lo hi : Nat) (hlo : lo ≤ gs.length) (hhi : hi ≤ gs.length) :
    ∃ a' E1 E2, (∀ W : World, (Instr.slice 45 (.slice a gs.length c) none (some (.int .i64 (lo : Int))) none).run Try.prog W = .ok (.slice a lo c) W) ∧ ReadRow w 3 (.slice a lo c) ((gs.take lo).flatMap fcell) E1 ∧
      (∀ W : World, (Instr.slice 45 (.slice a gs.length c) (some (.int .i64 (hi : Int))) none none).run Try.prog W = .ok (.slice a' (gs.length - hi) (c - hi)) W) ∧ ReadRow w 3 (.slice a' (gs.length - hi) (c - hi)) ((gs.drop hi).flatMap fcell) E2 := by
  obtain ⟨i0, hi0, hz0, hz1, hz2⟩ := info_parts infoFile
  obtain ⟨a1, c1, hv, -, hcp, -, -⟩ := h.facts
  cases hv
  obtain ⟨DS, hDS⟩ := h.sep.has (T := ThRow 3 (.slice a gs.length c) (gs.flatMap fcell)) (by simp)
  have hDS : OwnRow w 3 (.slice a gs.length c) (gs.flatMap fcell) DS := hDS
  obtain ⟨ES, hRS, -⟩ := hDS.read
  have hRS' : ReadRow w i0.size (.slice a gs.length c) (gs.flatMap fcell) ES := by rw [hz1]; exact hRS
  obtain ⟨a', hsl2, E', hR2, hE'⟩ := slice_fromG (P := Try.prog) Try.underlying45 hi0 (by rw [hz1]; decide) hRS' hi hhi
  rw [hz1, flatG_drop fcell_len (by decide)] at hR2
  obtain ⟨h1D, hpc⟩ := hDS.take hlo
  rw [flatG_take fcell_len (by decide)] at h1D
  obtain ⟨E1, hR1, -⟩ := h1D.read
  exact ⟨a', E1, E', fun W => run_slice_hi (P := Try.prog) Try.underlying45 hi0 a gs.length c lo (by omega) W, hR1, fun W => hsl2 W, hR2⟩

set_option maxRecDepth 100000 in
set_option maxHeartbeats 2000000 in
theorem fd_remove (h : Fd w0 w t T R rows) (p : Nat) (hp : p < T.fs.length) :
    Calls Try.prog 42 #[.pointer (some ⟨t, 0, none⟩), .int .i64 (p : Int)] w fun e w' => e = .returned (.tuple #[]) ∧ Fd w0 w' t { T with fs := T.fs.take p ++ T.fs.drop (p + 1) } R rows := by
  obtain ⟨i0, hi0, hz0, hz1, hz2⟩ := info_parts infoFile
  obtain ⟨v, gs, rows', h1, hX⟩ := h
  obtain ⟨a, cp, rfl, hb, hcp, hcm, -⟩ := hX.facts
  have hpg : p < gs.length := by rw [← hX.fs, List.length_map] at hp; exact hp
  obtain ⟨a', E1, E2, hsl1, hR1, hsl2, hR2⟩ := hX.cut p (p + 1) (by omega) (by omega)
  have c2 := cell_of hb 1 rfl
  rw [show (#[Value.int .i64 T.room, .slice a gs.length cp, .bool T.off, .int .i64 T.lives] : Array Value)[1] = .slice a gs.length cp from rfl] at c2
  unfold maxLen at hcm
  have h1000 := hX.few
  have HSS := Lib.hid (show _ ∧ _ ∧ _ ∧ _ from ⟨hX, hR1, hR2, h1⟩)
  have HP := Lib.hid hp
  have hwr : IntKind.i64.wrap ((p : Int) + 1) = (p : Int) + 1 := by rw [IntKind.wrap_i64]; omega
  have hsl2 : ∀ W : World, (Instr.slice 45 (.slice a gs.length cp) (some (.int .i64 ((p : Int) + 1))) none none).run Try.prog W = .ok (.slice a' (gs.length - (p + 1)) (cp - (p + 1))) W := fun W => by
    have := hsl2 W
    push_cast at this
    exact this
  clear hX hR1 hR2 h1 hb hp
  go_enter Try.func42, Try.ntmps42
  go_wp2_with fail
  refine wp_region_M (fun W => W.cell? ⟨t, 1, none⟩ = some (.slice a gs.length cp)) 17 (by kernel_rfl) ?_
  refine wpAnyM_take (by kernel_rfl) (by intro c a d v w h; cases d <;> exact h) [(0, false), (2, false), (3, false), (4, false), (5, true), (6, false), (7, false), (9, false), (10, false), (11, false), (12, true), (13, false), (14, false), (15, false)] (fuel := 6) (by kernel_rfl) ?_
  apply Exists.intro; refine ⟨?_, c2, ?_⟩
  · iterate 14 ((first | (apply yieldN; (· (simp only [List.getElem?_toArray, List.getElem?_cons_succ, List.getElem?_cons_zero]; try rfl)); (· rfl)) | ((first | apply yieldP | apply yieldL); (· (simp only [List.getElem?_toArray, List.getElem?_cons_succ, List.getElem?_cons_zero]; try rfl)); (· rfl); (· (intros; go_simp; try with_reducible rfl)))); (· (simp only [Act.put, List.setIfInBounds_toArray, List.set_cons_zero, List.set_cons_succ]; try rfl)))
    exact rfl
  refine wpAnyM_one (fuel := 5) (i := 1) (by kernel_rfl) (by rfl) (fun K hK => ?_)    -- buildSlice
  go_wp2_with fail
  have ua := Upd.alloc0 w (.cells #[] 52) []
  have k2 := upd_cell ua c2
  refine hK _ _ k2 ?_
  clear hK
  obtain ⟨wa, hwa⟩ : ∃ z, z = w.alloc (.cells #[] 52) := ⟨_, rfl⟩
  rw [← hwa] at ua k2 ⊢
  obtain ⟨HS, HR1, HR2, H1⟩ := HSS.out
  have ub := ua
  have HX := Lib.hid (show _ ∧ _ ∧ _ ∧ _ from ⟨HS.keep ub, HR1.frame (ub.same HR1.lt (by simp)), HR2.frame (ub.same HR2.lt (by simp)), H1⟩)
  clear HS HR1 HR2 ua ub hwa H1
  refine wpAnyM_one (fuel := 4) (i := 8) (by kernel_rfl) (by rfl) (fun K hK => ?_)    -- b:append
  have ud := (Upd.refl wa []).drew
  obtain ⟨n1, hn1, hsrc⟩ := (HX.out.2.1.frame (ud.same HX.out.2.1.lt (by simp))).src (P := Try.prog) (tx := 45) Try.underlying45 (HX.out.1.one _ (fun g hg => List.mem_of_mem_take hg))
  rw [flatG_len fcell_len, List.length_take] at hn1
  have HBD := Lib.hid (show ∀ n, ([] : List Value).length = n * 3 → n + n1 ≤ 140737488355328 ∧ (n + n1) * i0.bytes ≤ 140737488355328 from fun n hn => by simp at hn; rw [hz2]; omega)
  clear hn1
  refine wpList_app rfl _ _ 45 45 rfl 3 _ _ _ rfl (OwnRow.zero _ _ _) _ i0 _ Try.underlying45 hi0 hz0 hz1 rfl _ _ _ rfl hsrc HBD.out ?_
  intro a5 n5 c5 w5 D5 hown5 hu5
  have hu5 := ud.trans hu5
  have k5 := upd_cell hu5 k2
  go_wp2_with fail
  refine hK _ _ k5 ?_
  clear hK
  refine wpAnyM_one (fuel := 3) (i := 16) (by kernel_rfl) (by rfl) (fun K hK => ?_)    -- b:append
  have hR3 := HX.out.2.2.1.frame (hu5.same HX.out.2.2.1.lt (by simp))
  obtain ⟨m2, hm2, hs2⟩ := hR3.src (P := Try.prog) (tx := 45) Try.underlying45 (HX.out.1.one _ (fun g hg => List.mem_of_mem_drop hg))
  rw [flatG_len fcell_len, List.length_drop] at hm2
  have hl5 : (([] : List Value) ++ (gs.take p).flatMap fcell).length ≤ 3000 := by
    rw [List.nil_append, flatG_len fcell_len, List.length_take]; omega
  refine wpList_app rfl _ _ 45 45 rfl 3 _ _ _ rfl hown5 _ i0 _ Try.underlying45 hi0 hz0 hz1 rfl _ _ _ rfl hs2 (fun n hn => by rw [hz2]; omega) ?_
  intro a7 n7 c7 w7 D7 hown7 hu7
  have hadd := (((HX.out.1.sep.addRow hown7 (hu5.trans hu7)).third).drop).swap
  have hb7 := hadd.blk
  have c7t := cell_of hb7 1 rfl
  have y71 := frz_of hb7 1
  have k8 := upd_cell (hu5.trans hu7) k2
  have hset := Lib.hid (hadd.set 1 (.slice a7 n7 c7))
  clear hown5 hown7 hR3 hs2 hsrc hadd hb7 hu5 hu7 ud
  go_wp2_with fail
  refine hK _ _ k8 ?_
  clear hK
  refine wpAnyM_of_any _ _ _ _ (by decide) ?_
  refine wpAny_list [17, 18, 19] (fuel := 0) (by kernel_rfl) ?_
  simp only [List.filterMap_cons, List.filterMap_nil, List.getElem?_toArray, List.getElem?_cons_succ, List.getElem?_cons_zero]
  go_wp2_with fail
  go_end0
  refine ⟨rfl, .slice a7 n7 c7, gs.take p ++ gs.drop (p + 1), rows', HX.out.2.2.2, ⟨?_, fun g hg => ?_, ?_, ?_⟩⟩
  · rw [List.map_append, List.map_take, List.map_drop, HX.out.1.fs]
  · rcases List.mem_append.1 hg with hg | hg
    · exact HX.out.1.row g (List.mem_of_mem_take hg)
    · exact HX.out.1.row g (List.mem_of_mem_drop hg)
  · rw [List.length_append, List.length_take, List.length_drop]; omega
  · have hf := hset.out
    rw [List.flatMap_append]
    exact hf
end
end Go.Proofs.Ythphinlibhafcaa
