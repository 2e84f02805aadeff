/-
  The document's own disk: lay (a file is laid in its place by its name).
-/
import Derived.Test.YthphinlibhafcaaFdC
import Derived.Test.YthphinlibhafcaaRegB
namespace Go.Proofs.Ythphinlibhafcaa
open Go.RowKit Go.Av Go.Sort
/-- A file laid in its place. -/
def Laid (f : FileS) (l l' : List FileS) : Prop :=
  ∃ p, p ≤ l.length ∧ (∀ j (h : j < l.length), j < p → l[j].name.data.toList < f.name.data.toList) ∧ (∀ h : p < l.length, ¬ l[p].name.data.toList < f.name.data.toList) ∧ l' = l.take p ++ f :: l.drop p
section
variable {w0 w : World} {t : Nat} {T : DiskS} {R : List Thing} {rows : List (Value × Bs)} {v : Value} {gs : List (Value × FileS)}


theorem Four.keep {w w' : World} {D' : List Nat} (hu : Upd w w' [] D') {a b c d : Addr} {p q r s : Value} (h : w.cell? a = some p ∧ w.cell? b = some q ∧ w.cell? c = some r ∧ w.cell? d = some s) : w'.cell? a = some p ∧ w'.cell? b = some q ∧ w'.cell? c = some r ∧ w'.cell? d = some s :=
  ⟨upd_cell hu h.1, upd_cell hu h.2.1, upd_cell hu h.2.2.1, upd_cell hu h.2.2.2⟩

set_option maxRecDepth 100000 in
set_option maxHeartbeats 8000000 in
theorem fd_lay (h : Fd w0 w t T R rows) (nm : ByteArray) (vb : Value) (b : Bs) (sf : Nat) (hvb : (vb, b) ∈ rows) (hlen : T.fs.length < 1000) :
    Calls Try.prog 39 #[.pointer (some ⟨t, 0, none⟩), .agg #[.string nm, vb, .int .i64 sf]] w fun e w' => e = .returned (.tuple #[]) ∧ ∃ l', Laid ⟨nm, b, sf⟩ T.fs l' ∧ Fd w0 w' t { T with fs := l' } R rows := by
  obtain ⟨i0, hi0, hz0, hz1, hz2⟩ := info_parts infoFile
  obtain ⟨v, gs, rows', h1, hX⟩ := h
  have hgl : gs.length < 1000 := by rw [← hX.fs, List.length_map] at hlen; exact hlen
  have hvs : vb.oneCell' = true := by
    obtain ⟨E, hE⟩ := hX.sep.get (h1 _ hvb)
    obtain ⟨a, n, c, hv, -⟩ := hE
    rw [hv]
    rfl
  have HO := Lib.hid (show ∀ u ∈ [Value.string nm, vb, .int .i64 sf], u.oneCell' = true from by
    intro u hu
    simp only [List.mem_cons, List.not_mem_nil, or_false] at hu
    rcases hu with rfl | rfl | rfl
    · rfl
    · exact hvs
    · rfl)
  have HB := Lib.hid hvb
  have HP := Lib.hid (show _ ∧ _ from ⟨hX, h1⟩)
  clear hX h1 hvb hlen
  go_enter Try.func39, Try.ntmps39
  go_wp2_with fail
  have hub := Upd.alloc0 w (.cells #[.string nm, vb, .int .i64 sf] 52) []
  have hhb := heap_alloc_new w (.cells #[.string nm, vb, .int .i64 sf] 52)
  obtain ⟨bx, hbx⟩ : ∃ z, z = w.heap.size := ⟨_, rfl⟩
  obtain ⟨w1, hw1⟩ : ∃ z, z = w.alloc (.cells #[.string nm, vb, .int .i64 sf] 52) := ⟨_, rfl⟩
  rw [← hw1] at hub hhb ⊢
  rw [← hbx] at hhb ⊢
  have HW := Lib.hid (show _ ∧ _ ∧ _ ∧ _ from ⟨HP.out.1.keep hub, cell_of hhb 0 rfl, cell_of hhb 1 rfl, cell_of hhb 2 rfl⟩)
  clear hw1 hbx hhb
  go_loopg [4] gs.length (fun k vi wr => Upd w1 wr [] [] ∧ ∃ p : Nat, p ≤ gs.length ∧ k = gs.length - p ∧ vi = .int .i64 (p : Int) ∧ ∀ j (h : j < gs.length), j < p → gs[j].2.name.data.toList < nm.data.toList)
  case atStart => exact ⟨Upd.refl _ _, 0, Nat.zero_le _, rfl, rfl, fun _ _ h => absurd h (Nat.not_lt_zero _)⟩
  case round =>
    obtain ⟨hur, p, hp, hk, hvi, hall⟩ := hrel
    subst hvi
    have HA := Lib.hid hall
    clear hall
    have hXr := HW.out.1.keep hur
    obtain ⟨a, cp, rfl, hb, hcp, hcm, hrow⟩ := hXr.facts
    have c2 := cell_of hb 1 rfl
    rw [show (#[Value.int .i64 T.room, .slice a gs.length cp, .bool T.off, .int .i64 T.lives] : Array Value)[1] = .slice a gs.length cp from rfl] at c2
    have b0 : wr.cell? ⟨bx, 0, none⟩ = some (.string nm) := upd_cell hur HW.out.2.1
    have b1 : wr.cell? ⟨bx, 1, none⟩ = some vb := upd_cell hur HW.out.2.2.1
    have b2 : wr.cell? ⟨bx, 2, none⟩ = some (.int .i64 sf) := upd_cell hur HW.out.2.2.2
    unfold maxLen at hcm
    have HU := Lib.hid hur
    have HQ := Lib.hid (show _ ∧ _ from ⟨hXr, HP.out.2⟩)
    have HR := Lib.hid hrow
    clear hur hXr hb hrow
    by_cases hltp : p < gs.length
    · obtain ⟨y, rfl, hys, e0, -, -, -⟩ := HR.out p hltp
      obtain ⟨kb, hkb⟩ : ∃ kb, gs[p].2.name = kb := ⟨_, rfl⟩
      rw [hkb] at e0
      have hbl : Op.bytesLess kb.toList nm.toList = decide (kb.data.toList < nm.data.toList) := by
        rw [bytesLess_eq, Lib.toList_data, Lib.toList_data]
      cases hlt : Op.bytesLess kb.toList nm.toList with
      | true =>
        have HNX := Lib.hid (show ∀ j (h : j < gs.length), j < p + 1 → gs[j].2.name.data.toList < nm.data.toList from fun j hj hjp => by
          by_cases hjj : j = p
          · subst hjj; rw [hkb]; rw [hlt] at hbl; exact of_decide_eq_true hbl.symm
          · exact HA.out j hj (by omega))
        clear hkb hbl
        go_wp2_with fail
        refine wp_region_M (fun W => W.cell? ⟨t, 1, none⟩ = some (.slice (some y) gs.length cp) ∧ W.cell? (y.add (p * 3)) = some (.string kb) ∧ W.cell? ⟨bx, 0, none⟩ = some (.string nm)) 20 (by kernel_rfl) ?_
        refine wpAnyM_take (by kernel_rfl) (by intro c a d v w h; cases d <;> exact h) [(0, false), (1, false), (2, false), (3, false), (4, true), (5, false), (6, false), (7, false), (8, false), (9, false), (10, false), (11, true), (12, false), (13, false), (14, false), (15, true), (16, false), (17, true), (18, false), (19, false)] (fuel := 0) (by kernel_rfl) ?_
        apply Exists.intro; refine ⟨?_, ⟨c2, e0, b0⟩, ?_⟩
        · iterate 20 ((first | (apply yieldN; (· (simp only [List.getElem?_toArray, List.getElem?_cons_succ, List.getElem?_cons_zero]; try rfl)); (· rfl)) | ((first | apply yieldP | apply yieldL); (· (simp only [List.getElem?_toArray, List.getElem?_cons_succ, List.getElem?_cons_zero]; try rfl)); (· rfl); (· (intros; go_simp; try with_reducible rfl)))); (· (simp only [Act.put, List.setIfInBounds_toArray, List.set_cons_zero, List.set_cons_succ]; try rfl)))
          exact rfl
        refine wpAnyM_done (by kernel_rfl) ?_ _
        go_wp2_with fail
        go_roundg (gs.length - (p + 1))
        case rel => exact ⟨HU.out.drew, p + 1, by omega, rfl, by go_num, HNX.out⟩
        case measure => omega
      | false =>
        have HL := Lib.hid (show Laid ⟨nm, b, sf⟩ T.fs (T.fs.take p ++ ⟨nm, b, sf⟩ :: T.fs.drop p) from ⟨p, by rw [← HW.out.1.fs, List.length_map]; exact hp, fun j hj hjp => by
          have h1 := HA.out j (by omega) hjp
          simpa only [← HW.out.1.fs, List.getElem_map] using h1, fun hpl => by
          rw [hlt] at hbl
          have h1 := of_decide_eq_false hbl.symm
          rw [← hkb] at h1
          simpa only [← HW.out.1.fs, List.getElem_map] using h1, rfl⟩)
        clear hkb hbl
        go_wp2_with fail
        refine wp_region_M (fun W => W.cell? ⟨t, 1, none⟩ = some (.slice (some y) gs.length cp) ∧ W.cell? (y.add (p * 3)) = some (.string kb) ∧ W.cell? ⟨bx, 0, none⟩ = some (.string nm)) 20 (by kernel_rfl) ?_
        refine wpAnyM_take (by kernel_rfl) (by intro c a d v w h; cases d <;> exact h) [(0, false), (1, false), (2, false), (3, false), (4, true), (5, false), (6, false), (7, false), (8, false), (9, false), (10, false), (11, true), (12, false), (13, false), (14, false), (15, true), (16, false), (17, true), (18, false), (19, false)] (fuel := 0) (by kernel_rfl) ?_
        apply Exists.intro; refine ⟨?_, ⟨c2, e0, b0⟩, ?_⟩
        · iterate 20 ((first | (apply yieldN; (· (simp only [List.getElem?_toArray, List.getElem?_cons_succ, List.getElem?_cons_zero]; try rfl)); (· rfl)) | ((first | apply yieldP | apply yieldL); (· (simp only [List.getElem?_toArray, List.getElem?_cons_succ, List.getElem?_cons_zero]; try rfl)); (· rfl); (· (intros; go_simp; try with_reducible rfl)))); (· (simp only [Act.put, List.setIfInBounds_toArray, List.set_cons_zero, List.set_cons_succ]; try rfl)))
          exact rfl
        refine wpAnyM_done (by kernel_rfl) ?_ _
        clear e0
        have hud := (Upd.refl wr []).drew
        have HQ := Lib.hid (show _ ∧ _ from ⟨HQ.out.1.keep hud, HQ.out.2⟩)
        have c2 := upd_cell hud c2
        have b0 := upd_cell hud b0
        have b1 := upd_cell hud b1
        have b2 := upd_cell hud b2
        obtain ⟨wq, hwq⟩ : ∃ z, z = wr.drew := ⟨_, rfl⟩
        rw [← hwq] at HQ c2 b0 b1 b2 ⊢
        clear hwq hud
        obtain ⟨a', E1, E2, hsl1, hR1, hsl2, hR2⟩ := HQ.out.1.cut p p hp hp
        have HSS := Lib.hid (show _ ∧ _ ∧ _ ∧ _ from ⟨HQ.out.1, hR1, hR2, HQ.out.2⟩)
        clear hR1 hR2
        go_wp2_with fail
        refine wp_region_M (fun W => W.cell? ⟨t, 1, none⟩ = some (.slice (some y) gs.length cp) ∧ W.cell? ⟨bx, 0, none⟩ = some (.string nm) ∧ W.cell? ⟨bx, 1, none⟩ = some vb ∧ W.cell? ⟨bx, 2, none⟩ = some (.int .i64 sf)) 19 (by kernel_rfl) ?_
        refine wpAnyM_take (by kernel_rfl) (by intro c a d v w h; cases d <;> exact h) [(0, false), (2, false), (3, false), (4, false), (5, true), (6, false), (7, false), (9, true), (12, false), (13, false), (14, false), (15, true), (16, false), (17, false)] (fuel := 8) (by kernel_rfl) ?_
        apply Exists.intro; refine ⟨?_, ⟨c2, b0, b1, b2⟩, ?_⟩
        · iterate 14 ((first | (apply yieldN; (· (simp only [List.getElem?_toArray, List.getElem?_cons_succ, List.getElem?_cons_zero]; try rfl)); (· rfl)) | ((first | apply yieldP | apply yieldL); (· (simp only [List.getElem?_toArray, List.getElem?_cons_succ, List.getElem?_cons_zero]; try rfl)); (· rfl); (· (intros; go_simp; try with_reducible rfl)))); (· (simp only [Act.put, List.setIfInBounds_toArray, List.set_cons_zero, List.set_cons_succ]; try rfl)))
          exact rfl
        refine wpAnyM_each (fuel := 7) [1, 10] (by kernel_rfl) (by simp) (fun i hi => ?_)
        simp only [List.mem_cons, List.not_mem_nil, or_false] at hi
        rcases hi with rfl | rfl
        case' inl =>
          refine ⟨_, by rfl, fun K hK => ?_⟩
          go_wp2_with fail
          have ua := Upd.alloc0 wq (.cells #[] 52) []
          have k2 := Four.keep ua ⟨c2, b0, b1, b2⟩
          refine hK _ _ k2 ?_
          clear hK
          obtain ⟨wa, hwa⟩ : ∃ z, z = wq.alloc (.cells #[] 52) := ⟨_, rfl⟩
          rw [← hwa] at ua k2 ⊢
          obtain ⟨HS, HR1, HR2, H1⟩ := HSS.out
          have HX := Lib.hid (show _ ∧ _ ∧ _ ∧ _ ∧ _ from ⟨HS.keep ua, HR1.frame (ua.same HR1.lt (by simp)), HR2.frame (ua.same HR2.lt (by simp)), H1, ua⟩)
          clear HS HR1 HR2 ua hwa H1
          refine wpAnyM_each (fuel := 6) [8, 10] (by kernel_rfl) (by simp) (fun i hi => ?_)
          simp only [List.mem_cons, List.not_mem_nil, or_false] at hi
          rcases hi with rfl | rfl
          case' inl =>
            refine ⟨_, by rfl, fun K hK => ?_⟩
            obtain ⟨n1, hn1, hsrc⟩ := (HX.out.2.1.frame ((Upd.refl wa []).drew.same HX.out.2.1.lt (by simp))).src (P := Try.prog) (tx := 45) Try.underlying45 (HX.out.1.one _ (fun g hg => List.mem_of_mem_take hg))
            rw [flatG_len fcell_len, List.length_take] at hn1
            have HBD := Lib.hid (show ∀ n, ([] : List Value).length = n * 3 → n + n1 ≤ 140737488355328 ∧ (n + n1) * i0.bytes ≤ 140737488355328 from fun n hn => by simp at hn; rw [hz2]; omega)
            clear hn1
            refine wpList_app rfl _ _ 45 45 rfl 3 _ _ _ rfl (OwnRow.zero _ _ _) _ i0 _ Try.underlying45 hi0 hz0 hz1 rfl _ _ _ rfl hsrc HBD.out ?_
            intro a5 n5 c5 w5 D5 hown5 hu5
            have k5 := Four.keep ((Upd.refl wa []).drew.trans hu5) k2
            go_wp2_with fail
            refine hK _ _ k5 ?_
            clear hK
            refine wpAnyM_one (fuel := 5) (i := 10) (by kernel_rfl) (by rfl) (fun K hK => ?_)
            go_wp2_with fail
            have ub := Upd.alloc0 w5 (.cells #[.string nm, vb, .int .i64 sf] 52) D5
            have hrb := one_new w5 3 (by decide) #[.string nm, vb, .int .i64 sf] rfl 52
            have k6 := Four.keep (Upd.alloc0 w5 (.cells #[.string nm, vb, .int .i64 sf] 52) []) k5
            refine hK _ (w5.alloc (.cells #[.string nm, vb, .int .i64 sf] 52)) k6 ?_
            clear hK
            have ud : Upd w5 (w5.alloc (.cells #[.string nm, vb, .int .i64 sf] 52)) [] [] := Upd.alloc0 w5 _ []
            have HZ := Lib.hid (show _ ∧ _ ∧ _ ∧ _ from ⟨OwnRow.frame hown5 (ud.same (OwnRow.lt hown5) (by simp)), hrb, ((Upd.refl wa []).drew.trans hu5).trans ub, k6⟩)
            clear hown5 hrb hu5 ub ud k5 k6
            obtain ⟨g5, hg5⟩ : ∃ z, z = w5.heap.size := ⟨_, rfl⟩
            obtain ⟨wz, hwz⟩ : ∃ z, z = w5.alloc (.cells #[.string nm, vb, .int .i64 sf] 52) := ⟨_, rfl⟩
            rw [← hwz] at HZ ⊢
            rw [← hg5] at HZ ⊢
            clear hwz hg5
            refine wpAnyM_one (fuel := 4) (i := 11) (by kernel_rfl) (by rfl) (fun K hK => ?_)
            obtain ⟨hoz, hrz, huz, kz⟩ := HZ.out
            obtain ⟨m1, hm1, hs1⟩ := hrz.src (P := Try.prog) (tx := 45) Try.underlying45 HO.out
            obtain rfl : m1 = 1 := by simp at hm1; omega
            have hl5 : (([] : List Value) ++ (gs.take p).flatMap fcell).length ≤ 3000 := by
              rw [List.nil_append, flatG_len fcell_len, List.length_take]; omega
            refine wpList_app rfl _ _ 45 45 rfl 3 _ _ _ rfl hoz _ i0 _ Try.underlying45 hi0 hz0 hz1 rfl _ _ _ rfl hs1 (fun n hn => by rw [hz2]; omega) ?_
            intro a6 n6 c6 w6 D6 hown6 hu6
            have k7 := Four.keep (huz.trans hu6) k2
            go_wp2_with fail
            refine hK _ _ k7 ?_
            clear hK
            refine wpAnyM_one (fuel := 3) (i := 18) (by kernel_rfl) (by rfl) (fun K hK => ?_)
            have hR3 := HX.out.2.2.1.frame ((huz.trans hu6).same HX.out.2.2.1.lt (by simp))
            obtain ⟨m2, hm2, hs2⟩ := hR3.src (P := Try.prog) (tx := 45) Try.underlying45 (HX.out.1.one _ (fun g hg => List.mem_of_mem_drop hg))
            rw [flatG_len fcell_len, List.length_drop] at hm2
            refine wpList_app rfl _ _ 45 45 rfl 3 _ _ _ rfl hown6 _ i0 _ Try.underlying45 hi0 hz0 hz1 rfl _ _ _ rfl hs2 (fun n hn => by rw [List.length_append] at hn; simp at hn hl5; rw [hz2]; omega) ?_
            intro a7 n7 c7 w7 D7 hown7 hu7
            have hadd := (((HX.out.1.sep.addRow hown7 ((huz.trans hu6).trans hu7)).third).drop).swap
            have hb7 := hadd.blk
            have c7t := cell_of hb7 1 rfl
            have y71 := frz_of hb7 1
            have k8 := Four.keep ((huz.trans hu6).trans hu7) k2
            have HF := Lib.hid (hadd.set 1 (.slice a7 n7 c7))
            go_wp2_with fail
            refine hK _ _ k8 ?_
            clear hK
            refine wpAnyM_of_any _ _ _ _ (by decide) ?_
            refine wpAny_list [19, 20, 21] (fuel := 0) (by kernel_rfl) ?_
            simp only [List.filterMap_cons, List.filterMap_nil, List.getElem?_toArray, List.getElem?_cons_succ, List.getElem?_cons_zero]
            clear hoz hrz huz kz hs1 hs2 hown6 hown7 hu6 hu7 hadd hb7 hR3
            go_wp2_with fail
            go_end0
            refine ⟨rfl, _, HL.out, .slice a7 n7 c7, gs.take p ++ (vb, ⟨nm, b, sf⟩) :: gs.drop p, rows', HX.out.2.2.2.1, ⟨?_, fun g hg => ?_, ?_, ?_⟩⟩
            · rw [List.map_append, List.map_take, List.map_cons, List.map_drop, HX.out.1.fs]
            · rcases List.mem_append.1 hg with hg | hg
              · exact HX.out.1.row g (List.mem_of_mem_take hg)
              · rcases List.mem_cons.1 hg with rfl | hg
                · exact HX.out.2.2.2.1 _ HB.out
                · exact HX.out.1.row g (List.mem_of_mem_drop hg)
            · rw [List.length_append, List.length_take, List.length_cons, List.length_drop]; omega
            · have hf := HF.out
              have hcells : (gs.take p ++ (vb, ⟨nm, b, sf⟩) :: gs.drop p).flatMap fcell = ([] ++ (gs.take p).flatMap fcell ++ [.string nm, vb, .int .i64 sf]) ++ (gs.drop p).flatMap fcell := by
                simp [fcell]
              rw [hcells]
              exact hf
          case' inr =>
            refine ⟨_, by rfl, fun K hK => ?_⟩
            go_wp2_with fail
            have ub := Upd.alloc0 wa.drew (.cells #[.string nm, vb, .int .i64 sf] 52) []
            have hrb := one_new wa.drew 3 (by decide) #[.string nm, vb, .int .i64 sf] rfl 52
            have uc := (Upd.refl wa []).drew.trans ub
            have k4 := Four.keep uc k2
            refine hK _ (wa.drew.alloc (.cells #[.string nm, vb, .int .i64 sf] 52)) k4 ?_
            clear hK
            obtain ⟨g5, hg5⟩ : ∃ z, z = wa.drew.heap.size := ⟨_, rfl⟩
            obtain ⟨w4, hw4⟩ : ∃ z, z = wa.drew.alloc (.cells #[.string nm, vb, .int .i64 sf] 52) := ⟨_, rfl⟩
            rw [← hw4] at hrb k4 uc ⊢
            rw [← hg5] at hrb
            first | rw [← hg5] | (rw [show wa.heap.size = g5 from hg5.symm])
            clear ub hw4 hg5
            refine wpAnyM_one (fuel := 5) (i := 8) (by kernel_rfl) (by rfl) (fun K hK => ?_)
            obtain ⟨n1, hn1, hsrc⟩ := (HX.out.2.1.frame (uc.same HX.out.2.1.lt (by simp))).src (P := Try.prog) (tx := 45) Try.underlying45 (HX.out.1.one _ (fun g hg => List.mem_of_mem_take hg))
            rw [flatG_len fcell_len, List.length_take] at hn1
            have HBD := Lib.hid (show ∀ n, ([] : List Value).length = n * 3 → n + n1 ≤ 140737488355328 ∧ (n + n1) * i0.bytes ≤ 140737488355328 from fun n hn => by simp at hn; rw [hz2]; omega)
            clear hn1
            refine wpList_app rfl _ _ 45 45 rfl 3 _ _ _ rfl (OwnRow.zero _ _ _) _ i0 _ Try.underlying45 hi0 hz0 hz1 rfl _ _ _ rfl hsrc HBD.out ?_
            intro a5 n5 c5 w5 D5 hown5 hu5
            have k5 := Four.keep hu5 k4
            have HZ := Lib.hid (show _ ∧ _ ∧ _ ∧ _ from ⟨hown5, hrb.frame (hu5.same hrb.lt (by simp)), uc.trans hu5, k5⟩)
            clear hown5 hrb hu5 uc k4 hsrc HBD
            go_wp2_with fail
            refine hK _ _ k5 ?_
            clear hK k5
            refine wpAnyM_one (fuel := 4) (i := 11) (by kernel_rfl) (by rfl) (fun K hK => ?_)
            obtain ⟨hoz, hrz, huz, kz⟩ := HZ.out
            obtain ⟨m1, hm1, hs1⟩ := hrz.src (P := Try.prog) (tx := 45) Try.underlying45 HO.out
            obtain rfl : m1 = 1 := by simp at hm1; omega
            have hl5 : (([] : List Value) ++ (gs.take p).flatMap fcell).length ≤ 3000 := by
              rw [List.nil_append, flatG_len fcell_len, List.length_take]; omega
            refine wpList_app rfl _ _ 45 45 rfl 3 _ _ _ rfl hoz _ i0 _ Try.underlying45 hi0 hz0 hz1 rfl _ _ _ rfl hs1 (fun n hn => by rw [hz2]; omega) ?_
            intro a6 n6 c6 w6 D6 hown6 hu6
            have k7 := Four.keep (huz.trans hu6) k2
            go_wp2_with fail
            refine hK _ _ k7 ?_
            clear hK
            refine wpAnyM_one (fuel := 3) (i := 18) (by kernel_rfl) (by rfl) (fun K hK => ?_)
            have hR3 := HX.out.2.2.1.frame ((huz.trans hu6).same HX.out.2.2.1.lt (by simp))
            obtain ⟨m2, hm2, hs2⟩ := hR3.src (P := Try.prog) (tx := 45) Try.underlying45 (HX.out.1.one _ (fun g hg => List.mem_of_mem_drop hg))
            rw [flatG_len fcell_len, List.length_drop] at hm2
            refine wpList_app rfl _ _ 45 45 rfl 3 _ _ _ rfl hown6 _ i0 _ Try.underlying45 hi0 hz0 hz1 rfl _ _ _ rfl hs2 (fun n hn => by rw [List.length_append] at hn; simp at hn hl5; rw [hz2]; omega) ?_
            intro a7 n7 c7 w7 D7 hown7 hu7
            have hadd := (((HX.out.1.sep.addRow hown7 ((huz.trans hu6).trans hu7)).third).drop).swap
            have hb7 := hadd.blk
            have c7t := cell_of hb7 1 rfl
            have y71 := frz_of hb7 1
            have k8 := Four.keep ((huz.trans hu6).trans hu7) k2
            have HF := Lib.hid (hadd.set 1 (.slice a7 n7 c7))
            go_wp2_with fail
            refine hK _ _ k8 ?_
            clear hK
            refine wpAnyM_of_any _ _ _ _ (by decide) ?_
            refine wpAny_list [19, 20, 21] (fuel := 0) (by kernel_rfl) ?_
            simp only [List.filterMap_cons, List.filterMap_nil, List.getElem?_toArray, List.getElem?_cons_succ, List.getElem?_cons_zero]
            clear hoz hrz huz kz hs1 hs2 hown6 hown7 hu6 hu7 hadd hb7 hR3
            go_wp2_with fail
            go_end0
            refine ⟨rfl, _, HL.out, .slice a7 n7 c7, gs.take p ++ (vb, ⟨nm, b, sf⟩) :: gs.drop p, rows', HX.out.2.2.2.1, ⟨?_, fun g hg => ?_, ?_, ?_⟩⟩
            · rw [List.map_append, List.map_take, List.map_cons, List.map_drop, HX.out.1.fs]
            · rcases List.mem_append.1 hg with hg | hg
              · exact HX.out.1.row g (List.mem_of_mem_take hg)
              · rcases List.mem_cons.1 hg with rfl | hg
                · exact HX.out.2.2.2.1 _ HB.out
                · exact HX.out.1.row g (List.mem_of_mem_drop hg)
            · rw [List.length_append, List.length_take, List.length_cons, List.length_drop]; omega
            · have hf := HF.out
              have hcells : (gs.take p ++ (vb, ⟨nm, b, sf⟩) :: gs.drop p).flatMap fcell = ([] ++ (gs.take p).flatMap fcell ++ [.string nm, vb, .int .i64 sf]) ++ (gs.drop p).flatMap fcell := by
                simp [fcell]
              rw [hcells]
              exact hf
        case' inr =>
          refine ⟨_, by rfl, fun K hK => ?_⟩
          go_wp2_with fail
          have ub := (Upd.alloc0 wq (.cells #[.string nm, vb, .int .i64 sf] 52) []).drew
          have hrb0 := one_new wq 3 (by decide) #[.string nm, vb, .int .i64 sf] rfl 52
          have hrb := hrb0.frame ((Upd.refl _ []).drew.same hrb0.lt (by simp))
          clear hrb0
          have k4 := Four.keep ub ⟨c2, b0, b1, b2⟩
          refine hK _ (wq.alloc (.cells #[.string nm, vb, .int .i64 sf] 52)).drew k4 ?_
          clear hK
          obtain ⟨g5, hg5⟩ : ∃ z, z = wq.heap.size := ⟨_, rfl⟩
          obtain ⟨w4, hw4⟩ : ∃ z, z = (wq.alloc (.cells #[.string nm, vb, .int .i64 sf] 52)).drew := ⟨_, rfl⟩
          rw [← hw4] at hrb k4 ub ⊢
          rw [← hg5] at hrb ⊢
          clear hw4 hg5
          refine wpAnyM_one (fuel := 6) (i := 1) (by kernel_rfl) (by rfl) (fun K hK => ?_)
          go_wp2_with fail
          have ua0 := Upd.alloc0 w4 (.cells #[] 52) []
          have k2 := Four.keep ua0 k4
          refine hK _ _ k2 ?_
          clear hK
          obtain ⟨wa, hwa⟩ : ∃ z, z = w4.alloc (.cells #[] 52) := ⟨_, rfl⟩
          rw [← hwa] at ua0 k2 ⊢
          have ua := ub.trans ua0
          have hrc := hrb.frame (ua0.same hrb.lt (by simp))
          obtain ⟨HS, HR1, HR2, H1⟩ := HSS.out
          have HX := Lib.hid (show _ ∧ _ ∧ _ ∧ _ ∧ _ from ⟨HS.keep ua, HR1.frame (ua.same HR1.lt (by simp)), HR2.frame (ua.same HR2.lt (by simp)), H1, ua⟩)
          clear HS HR1 HR2 ua hwa ub ua0 hrb k4 H1
          refine wpAnyM_one (fuel := 5) (i := 8) (by kernel_rfl) (by rfl) (fun K hK => ?_)
          obtain ⟨n1, hn1, hsrc⟩ := HX.out.2.1.src (P := Try.prog) (tx := 45) Try.underlying45 (HX.out.1.one _ (fun g hg => List.mem_of_mem_take hg))
          rw [flatG_len fcell_len, List.length_take] at hn1
          have HBD := Lib.hid (show ∀ n, ([] : List Value).length = n * 3 → n + n1 ≤ 140737488355328 ∧ (n + n1) * i0.bytes ≤ 140737488355328 from fun n hn => by simp at hn; rw [hz2]; omega)
          clear hn1
          refine wpList_app rfl _ _ 45 45 rfl 3 _ _ _ rfl (OwnRow.zero _ _ _) _ i0 _ Try.underlying45 hi0 hz0 hz1 rfl _ _ _ rfl hsrc HBD.out ?_
          intro a5 n5 c5 w5 D5 hown5 hu5
          have k5 := Four.keep hu5 k2
          have HZ := Lib.hid (show _ ∧ _ ∧ _ ∧ _ from ⟨hown5, hrc.frame (hu5.same hrc.lt (by simp)), hu5, k5⟩)
          clear hown5 hrc hu5 hsrc HBD
          go_wp2_with fail
          refine hK _ _ k5 ?_
          clear hK k5
          refine wpAnyM_one (fuel := 4) (i := 11) (by kernel_rfl) (by rfl) (fun K hK => ?_)
          obtain ⟨hoz, hrz, huz, kz⟩ := HZ.out
          obtain ⟨m1, hm1, hs1⟩ := hrz.src (P := Try.prog) (tx := 45) Try.underlying45 HO.out
          obtain rfl : m1 = 1 := by simp at hm1; omega
          have hl5 : (([] : List Value) ++ (gs.take p).flatMap fcell).length ≤ 3000 := by
            rw [List.nil_append, flatG_len fcell_len, List.length_take]; omega
          refine wpList_app rfl _ _ 45 45 rfl 3 _ _ _ rfl hoz _ i0 _ Try.underlying45 hi0 hz0 hz1 rfl _ _ _ rfl hs1 (fun n hn => by rw [hz2]; omega) ?_
          intro a6 n6 c6 w6 D6 hown6 hu6
          have k7 := Four.keep (huz.trans hu6) k2
          go_wp2_with fail
          refine hK _ _ k7 ?_
          clear hK
          refine wpAnyM_one (fuel := 3) (i := 18) (by kernel_rfl) (by rfl) (fun K hK => ?_)
          have hR3 := HX.out.2.2.1.frame ((huz.trans hu6).same HX.out.2.2.1.lt (by simp))
          obtain ⟨m2, hm2, hs2⟩ := hR3.src (P := Try.prog) (tx := 45) Try.underlying45 (HX.out.1.one _ (fun g hg => List.mem_of_mem_drop hg))
          rw [flatG_len fcell_len, List.length_drop] at hm2
          refine wpList_app rfl _ _ 45 45 rfl 3 _ _ _ rfl hown6 _ i0 _ Try.underlying45 hi0 hz0 hz1 rfl _ _ _ rfl hs2 (fun n hn => by rw [List.length_append] at hn; simp at hn hl5; rw [hz2]; omega) ?_
          intro a7 n7 c7 w7 D7 hown7 hu7
          have hadd := (((HX.out.1.sep.addRow hown7 ((huz.trans hu6).trans hu7)).third).drop).swap
          have hb7 := hadd.blk
          have c7t := cell_of hb7 1 rfl
          have y71 := frz_of hb7 1
          have k8 := Four.keep ((huz.trans hu6).trans hu7) k2
          have HF := Lib.hid (hadd.set 1 (.slice a7 n7 c7))
          go_wp2_with fail
          refine hK _ _ k8 ?_
          clear hK
          refine wpAnyM_of_any _ _ _ _ (by decide) ?_
          refine wpAny_list [19, 20, 21] (fuel := 0) (by kernel_rfl) ?_
          simp only [List.filterMap_cons, List.filterMap_nil, List.getElem?_toArray, List.getElem?_cons_succ, List.getElem?_cons_zero]
          clear hoz hrz huz kz hs1 hs2 hown6 hown7 hu6 hu7 hadd hb7 hR3
          go_wp2_with fail
          go_end0
          refine ⟨rfl, _, HL.out, .slice a7 n7 c7, gs.take p ++ (vb, ⟨nm, b, sf⟩) :: gs.drop p, rows', HX.out.2.2.2.1, ⟨?_, fun g hg => ?_, ?_, ?_⟩⟩
          · rw [List.map_append, List.map_take, List.map_cons, List.map_drop, HX.out.1.fs]
          · rcases List.mem_append.1 hg with hg | hg
            · exact HX.out.1.row g (List.mem_of_mem_take hg)
            · rcases List.mem_cons.1 hg with rfl | hg
              · exact HX.out.2.2.2.1 _ HB.out
              · exact HX.out.1.row g (List.mem_of_mem_drop hg)
          · rw [List.length_append, List.length_take, List.length_cons, List.length_drop]; omega
          · have hf := HF.out
            have hcells : (gs.take p ++ (vb, ⟨nm, b, sf⟩) :: gs.drop p).flatMap fcell = ([] ++ (gs.take p).flatMap fcell ++ [.string nm, vb, .int .i64 sf]) ++ (gs.drop p).flatMap fcell := by
              simp [fcell]
            rw [hcells]
            exact hf
    have HL := Lib.hid (show Laid ⟨nm, b, sf⟩ T.fs (T.fs.take p ++ ⟨nm, b, sf⟩ :: T.fs.drop p) from ⟨p, by rw [← HW.out.1.fs, List.length_map]; exact hp, fun j hj hjp => by
      have h1 := HA.out j (by omega) hjp
      simpa only [← HW.out.1.fs, List.getElem_map] using h1, fun hpl => by
      rw [← HW.out.1.fs, List.length_map] at hpl
      exact absurd hpl hltp, rfl⟩)
    go_wp2_with fail
    refine wp_region_M (fun W => W.cell? ⟨t, 1, none⟩ = some (.slice a gs.length cp)) 20 (by kernel_rfl) ?_
    refine wpAnyM_take (by kernel_rfl) (by intro c a d v w h; cases d <;> exact h) [(0, false), (1, false), (2, false), (3, false), (4, true), (5, false), (6, false), (7, false), (8, false), (9, false), (10, false), (11, true), (12, false), (13, false), (14, false), (15, true), (16, false), (17, true), (18, false), (19, false)] (fuel := 0) (by kernel_rfl) ?_
    apply Exists.intro; refine ⟨?_, c2, ?_⟩
    · iterate 20 ((first | (apply yieldN; (· (simp only [List.getElem?_toArray, List.getElem?_cons_succ, List.getElem?_cons_zero]; try rfl)); (· rfl)) | ((first | apply yieldP | apply yieldL); (· (simp only [List.getElem?_toArray, List.getElem?_cons_succ, List.getElem?_cons_zero]; try rfl)); (· rfl); (· (intros; go_simp; try with_reducible rfl)))); (· (simp only [Act.put, List.setIfInBounds_toArray, List.set_cons_zero, List.set_cons_succ]; try rfl)))
      exact rfl
    refine wpAnyM_done (by kernel_rfl) ?_ _
    have hud := (Upd.refl wr []).drew
    have HQ := Lib.hid (show _ ∧ _ from ⟨HQ.out.1.keep hud, HQ.out.2⟩)
    have c2 := upd_cell hud c2
    have b0 := upd_cell hud b0
    have b1 := upd_cell hud b1
    have b2 := upd_cell hud b2
    obtain ⟨wq, hwq⟩ : ∃ z, z = wr.drew := ⟨_, rfl⟩
    rw [← hwq] at HQ c2 b0 b1 b2 ⊢
    clear hwq hud
    obtain ⟨a', E1, E2, hsl1, hR1, hsl2, hR2⟩ := HQ.out.1.cut p p hp hp
    have HSS := Lib.hid (show _ ∧ _ ∧ _ ∧ _ from ⟨HQ.out.1, hR1, hR2, HQ.out.2⟩)
    clear hR1 hR2
    go_wp2_with fail
    refine wp_region_M (fun W => W.cell? ⟨t, 1, none⟩ = some (.slice a gs.length cp) ∧ W.cell? ⟨bx, 0, none⟩ = some (.string nm) ∧ W.cell? ⟨bx, 1, none⟩ = some vb ∧ W.cell? ⟨bx, 2, none⟩ = some (.int .i64 sf)) 19 (by kernel_rfl) ?_
    refine wpAnyM_take (by kernel_rfl) (by intro c a d v w h; cases d <;> exact h) [(0, false), (2, false), (3, false), (4, false), (5, true), (6, false), (7, false), (9, true), (12, false), (13, false), (14, false), (15, true), (16, false), (17, false)] (fuel := 8) (by kernel_rfl) ?_
    apply Exists.intro; refine ⟨?_, ⟨c2, b0, b1, b2⟩, ?_⟩
    · iterate 14 ((first | (apply yieldN; (· (simp only [List.getElem?_toArray, List.getElem?_cons_succ, List.getElem?_cons_zero]; try rfl)); (· rfl)) | ((first | apply yieldP | apply yieldL); (· (simp only [List.getElem?_toArray, List.getElem?_cons_succ, List.getElem?_cons_zero]; try rfl)); (· rfl); (· (intros; go_simp; try with_reducible rfl)))); (· (simp only [Act.put, List.setIfInBounds_toArray, List.set_cons_zero, List.set_cons_succ]; try rfl)))
      exact rfl
    refine wpAnyM_each (fuel := 7) [1, 10] (by kernel_rfl) (by simp) (fun i hi => ?_)
    simp only [List.mem_cons, List.not_mem_nil, or_false] at hi
    rcases hi with rfl | rfl
    case' inl =>
      refine ⟨_, by rfl, fun K hK => ?_⟩
      go_wp2_with fail
      have ua := Upd.alloc0 wq (.cells #[] 52) []
      have k2 := Four.keep ua ⟨c2, b0, b1, b2⟩
      refine hK _ _ k2 ?_
      clear hK
      obtain ⟨wa, hwa⟩ : ∃ z, z = wq.alloc (.cells #[] 52) := ⟨_, rfl⟩
      rw [← hwa] at ua k2 ⊢
      obtain ⟨HS, HR1, HR2, H1⟩ := HSS.out
      have HX := Lib.hid (show _ ∧ _ ∧ _ ∧ _ ∧ _ from ⟨HS.keep ua, HR1.frame (ua.same HR1.lt (by simp)), HR2.frame (ua.same HR2.lt (by simp)), H1, ua⟩)
      clear HS HR1 HR2 ua hwa H1
      refine wpAnyM_each (fuel := 6) [8, 10] (by kernel_rfl) (by simp) (fun i hi => ?_)
      simp only [List.mem_cons, List.not_mem_nil, or_false] at hi
      rcases hi with rfl | rfl
      case' inl =>
        refine ⟨_, by rfl, fun K hK => ?_⟩
        obtain ⟨n1, hn1, hsrc⟩ := (HX.out.2.1.frame ((Upd.refl wa []).drew.same HX.out.2.1.lt (by simp))).src (P := Try.prog) (tx := 45) Try.underlying45 (HX.out.1.one _ (fun g hg => List.mem_of_mem_take hg))
        rw [flatG_len fcell_len, List.length_take] at hn1
        have HBD := Lib.hid (show ∀ n, ([] : List Value).length = n * 3 → n + n1 ≤ 140737488355328 ∧ (n + n1) * i0.bytes ≤ 140737488355328 from fun n hn => by simp at hn; rw [hz2]; omega)
        clear hn1
        refine wpList_app rfl _ _ 45 45 rfl 3 _ _ _ rfl (OwnRow.zero _ _ _) _ i0 _ Try.underlying45 hi0 hz0 hz1 rfl _ _ _ rfl hsrc HBD.out ?_
        intro a5 n5 c5 w5 D5 hown5 hu5
        have k5 := Four.keep ((Upd.refl wa []).drew.trans hu5) k2
        go_wp2_with fail
        refine hK _ _ k5 ?_
        clear hK
        refine wpAnyM_one (fuel := 5) (i := 10) (by kernel_rfl) (by rfl) (fun K hK => ?_)
        go_wp2_with fail
        have ub := Upd.alloc0 w5 (.cells #[.string nm, vb, .int .i64 sf] 52) D5
        have hrb := one_new w5 3 (by decide) #[.string nm, vb, .int .i64 sf] rfl 52
        have k6 := Four.keep (Upd.alloc0 w5 (.cells #[.string nm, vb, .int .i64 sf] 52) []) k5
        refine hK _ (w5.alloc (.cells #[.string nm, vb, .int .i64 sf] 52)) k6 ?_
        clear hK
        have ud : Upd w5 (w5.alloc (.cells #[.string nm, vb, .int .i64 sf] 52)) [] [] := Upd.alloc0 w5 _ []
        have HZ := Lib.hid (show _ ∧ _ ∧ _ ∧ _ from ⟨OwnRow.frame hown5 (ud.same (OwnRow.lt hown5) (by simp)), hrb, ((Upd.refl wa []).drew.trans hu5).trans ub, k6⟩)
        clear hown5 hrb hu5 ub ud k5 k6
        obtain ⟨g5, hg5⟩ : ∃ z, z = w5.heap.size := ⟨_, rfl⟩
        obtain ⟨wz, hwz⟩ : ∃ z, z = w5.alloc (.cells #[.string nm, vb, .int .i64 sf] 52) := ⟨_, rfl⟩
        rw [← hwz] at HZ ⊢
        rw [← hg5] at HZ ⊢
        clear hwz hg5
        refine wpAnyM_one (fuel := 4) (i := 11) (by kernel_rfl) (by rfl) (fun K hK => ?_)
        obtain ⟨hoz, hrz, huz, kz⟩ := HZ.out
        obtain ⟨m1, hm1, hs1⟩ := hrz.src (P := Try.prog) (tx := 45) Try.underlying45 HO.out
        obtain rfl : m1 = 1 := by simp at hm1; omega
        have hl5 : (([] : List Value) ++ (gs.take p).flatMap fcell).length ≤ 3000 := by
          rw [List.nil_append, flatG_len fcell_len, List.length_take]; omega
        refine wpList_app rfl _ _ 45 45 rfl 3 _ _ _ rfl hoz _ i0 _ Try.underlying45 hi0 hz0 hz1 rfl _ _ _ rfl hs1 (fun n hn => by rw [hz2]; omega) ?_
        intro a6 n6 c6 w6 D6 hown6 hu6
        have k7 := Four.keep (huz.trans hu6) k2
        go_wp2_with fail
        refine hK _ _ k7 ?_
        clear hK
        refine wpAnyM_one (fuel := 3) (i := 18) (by kernel_rfl) (by rfl) (fun K hK => ?_)
        have hR3 := HX.out.2.2.1.frame ((huz.trans hu6).same HX.out.2.2.1.lt (by simp))
        obtain ⟨m2, hm2, hs2⟩ := hR3.src (P := Try.prog) (tx := 45) Try.underlying45 (HX.out.1.one _ (fun g hg => List.mem_of_mem_drop hg))
        rw [flatG_len fcell_len, List.length_drop] at hm2
        refine wpList_app rfl _ _ 45 45 rfl 3 _ _ _ rfl hown6 _ i0 _ Try.underlying45 hi0 hz0 hz1 rfl _ _ _ rfl hs2 (fun n hn => by rw [List.length_append] at hn; simp at hn hl5; rw [hz2]; omega) ?_
        intro a7 n7 c7 w7 D7 hown7 hu7
        have hadd := (((HX.out.1.sep.addRow hown7 ((huz.trans hu6).trans hu7)).third).drop).swap
        have hb7 := hadd.blk
        have c7t := cell_of hb7 1 rfl
        have y71 := frz_of hb7 1
        have k8 := Four.keep ((huz.trans hu6).trans hu7) k2
        have HF := Lib.hid (hadd.set 1 (.slice a7 n7 c7))
        go_wp2_with fail
        refine hK _ _ k8 ?_
        clear hK
        refine wpAnyM_of_any _ _ _ _ (by decide) ?_
        refine wpAny_list [19, 20, 21] (fuel := 0) (by kernel_rfl) ?_
        simp only [List.filterMap_cons, List.filterMap_nil, List.getElem?_toArray, List.getElem?_cons_succ, List.getElem?_cons_zero]
        clear hoz hrz huz kz hs1 hs2 hown6 hown7 hu6 hu7 hadd hb7 hR3
        go_wp2_with fail
        go_end0
        refine ⟨rfl, _, HL.out, .slice a7 n7 c7, gs.take p ++ (vb, ⟨nm, b, sf⟩) :: gs.drop p, rows', HX.out.2.2.2.1, ⟨?_, fun g hg => ?_, ?_, ?_⟩⟩
        · rw [List.map_append, List.map_take, List.map_cons, List.map_drop, HX.out.1.fs]
        · rcases List.mem_append.1 hg with hg | hg
          · exact HX.out.1.row g (List.mem_of_mem_take hg)
          · rcases List.mem_cons.1 hg with rfl | hg
            · exact HX.out.2.2.2.1 _ HB.out
            · exact HX.out.1.row g (List.mem_of_mem_drop hg)
        · rw [List.length_append, List.length_take, List.length_cons, List.length_drop]; omega
        · have hf := HF.out
          have hcells : (gs.take p ++ (vb, ⟨nm, b, sf⟩) :: gs.drop p).flatMap fcell = ([] ++ (gs.take p).flatMap fcell ++ [.string nm, vb, .int .i64 sf]) ++ (gs.drop p).flatMap fcell := by
            simp [fcell]
          rw [hcells]
          exact hf
      case' inr =>
        refine ⟨_, by rfl, fun K hK => ?_⟩
        go_wp2_with fail
        have ub := Upd.alloc0 wa.drew (.cells #[.string nm, vb, .int .i64 sf] 52) []
        have hrb := one_new wa.drew 3 (by decide) #[.string nm, vb, .int .i64 sf] rfl 52
        have uc := (Upd.refl wa []).drew.trans ub
        have k4 := Four.keep uc k2
        refine hK _ (wa.drew.alloc (.cells #[.string nm, vb, .int .i64 sf] 52)) k4 ?_
        clear hK
        obtain ⟨g5, hg5⟩ : ∃ z, z = wa.drew.heap.size := ⟨_, rfl⟩
        obtain ⟨w4, hw4⟩ : ∃ z, z = wa.drew.alloc (.cells #[.string nm, vb, .int .i64 sf] 52) := ⟨_, rfl⟩
        rw [← hw4] at hrb k4 uc ⊢
        rw [← hg5] at hrb
        first | rw [← hg5] | (rw [show wa.heap.size = g5 from hg5.symm])
        clear ub hw4 hg5
        refine wpAnyM_one (fuel := 5) (i := 8) (by kernel_rfl) (by rfl) (fun K hK => ?_)
        obtain ⟨n1, hn1, hsrc⟩ := (HX.out.2.1.frame (uc.same HX.out.2.1.lt (by simp))).src (P := Try.prog) (tx := 45) Try.underlying45 (HX.out.1.one _ (fun g hg => List.mem_of_mem_take hg))
        rw [flatG_len fcell_len, List.length_take] at hn1
        have HBD := Lib.hid (show ∀ n, ([] : List Value).length = n * 3 → n + n1 ≤ 140737488355328 ∧ (n + n1) * i0.bytes ≤ 140737488355328 from fun n hn => by simp at hn; rw [hz2]; omega)
        clear hn1
        refine wpList_app rfl _ _ 45 45 rfl 3 _ _ _ rfl (OwnRow.zero _ _ _) _ i0 _ Try.underlying45 hi0 hz0 hz1 rfl _ _ _ rfl hsrc HBD.out ?_
        intro a5 n5 c5 w5 D5 hown5 hu5
        have k5 := Four.keep hu5 k4
        have HZ := Lib.hid (show _ ∧ _ ∧ _ ∧ _ from ⟨hown5, hrb.frame (hu5.same hrb.lt (by simp)), uc.trans hu5, k5⟩)
        clear hown5 hrb hu5 uc k4 hsrc HBD
        go_wp2_with fail
        refine hK _ _ k5 ?_
        clear hK k5
        refine wpAnyM_one (fuel := 4) (i := 11) (by kernel_rfl) (by rfl) (fun K hK => ?_)
        obtain ⟨hoz, hrz, huz, kz⟩ := HZ.out
        obtain ⟨m1, hm1, hs1⟩ := hrz.src (P := Try.prog) (tx := 45) Try.underlying45 HO.out
        obtain rfl : m1 = 1 := by simp at hm1; omega
        have hl5 : (([] : List Value) ++ (gs.take p).flatMap fcell).length ≤ 3000 := by
          rw [List.nil_append, flatG_len fcell_len, List.length_take]; omega
        refine wpList_app rfl _ _ 45 45 rfl 3 _ _ _ rfl hoz _ i0 _ Try.underlying45 hi0 hz0 hz1 rfl _ _ _ rfl hs1 (fun n hn => by rw [hz2]; omega) ?_
        intro a6 n6 c6 w6 D6 hown6 hu6
        have k7 := Four.keep (huz.trans hu6) k2
        go_wp2_with fail
        refine hK _ _ k7 ?_
        clear hK
        refine wpAnyM_one (fuel := 3) (i := 18) (by kernel_rfl) (by rfl) (fun K hK => ?_)
        have hR3 := HX.out.2.2.1.frame ((huz.trans hu6).same HX.out.2.2.1.lt (by simp))
        obtain ⟨m2, hm2, hs2⟩ := hR3.src (P := Try.prog) (tx := 45) Try.underlying45 (HX.out.1.one _ (fun g hg => List.mem_of_mem_drop hg))
        rw [flatG_len fcell_len, List.length_drop] at hm2
        refine wpList_app rfl _ _ 45 45 rfl 3 _ _ _ rfl hown6 _ i0 _ Try.underlying45 hi0 hz0 hz1 rfl _ _ _ rfl hs2 (fun n hn => by rw [List.length_append] at hn; simp at hn hl5; rw [hz2]; omega) ?_
        intro a7 n7 c7 w7 D7 hown7 hu7
        have hadd := (((HX.out.1.sep.addRow hown7 ((huz.trans hu6).trans hu7)).third).drop).swap
        have hb7 := hadd.blk
        have c7t := cell_of hb7 1 rfl
        have y71 := frz_of hb7 1
        have k8 := Four.keep ((huz.trans hu6).trans hu7) k2
        have HF := Lib.hid (hadd.set 1 (.slice a7 n7 c7))
        go_wp2_with fail
        refine hK _ _ k8 ?_
        clear hK
        refine wpAnyM_of_any _ _ _ _ (by decide) ?_
        refine wpAny_list [19, 20, 21] (fuel := 0) (by kernel_rfl) ?_
        simp only [List.filterMap_cons, List.filterMap_nil, List.getElem?_toArray, List.getElem?_cons_succ, List.getElem?_cons_zero]
        clear hoz hrz huz kz hs1 hs2 hown6 hown7 hu6 hu7 hadd hb7 hR3
        go_wp2_with fail
        go_end0
        refine ⟨rfl, _, HL.out, .slice a7 n7 c7, gs.take p ++ (vb, ⟨nm, b, sf⟩) :: gs.drop p, rows', HX.out.2.2.2.1, ⟨?_, fun g hg => ?_, ?_, ?_⟩⟩
        · rw [List.map_append, List.map_take, List.map_cons, List.map_drop, HX.out.1.fs]
        · rcases List.mem_append.1 hg with hg | hg
          · exact HX.out.1.row g (List.mem_of_mem_take hg)
          · rcases List.mem_cons.1 hg with rfl | hg
            · exact HX.out.2.2.2.1 _ HB.out
            · exact HX.out.1.row g (List.mem_of_mem_drop hg)
        · rw [List.length_append, List.length_take, List.length_cons, List.length_drop]; omega
        · have hf := HF.out
          have hcells : (gs.take p ++ (vb, ⟨nm, b, sf⟩) :: gs.drop p).flatMap fcell = ([] ++ (gs.take p).flatMap fcell ++ [.string nm, vb, .int .i64 sf]) ++ (gs.drop p).flatMap fcell := by
            simp [fcell]
          rw [hcells]
          exact hf
    case' inr =>
      refine ⟨_, by rfl, fun K hK => ?_⟩
      go_wp2_with fail
      have ub := (Upd.alloc0 wq (.cells #[.string nm, vb, .int .i64 sf] 52) []).drew
      have hrb0 := one_new wq 3 (by decide) #[.string nm, vb, .int .i64 sf] rfl 52
      have hrb := hrb0.frame ((Upd.refl _ []).drew.same hrb0.lt (by simp))
      clear hrb0
      have k4 := Four.keep ub ⟨c2, b0, b1, b2⟩
      refine hK _ (wq.alloc (.cells #[.string nm, vb, .int .i64 sf] 52)).drew k4 ?_
      clear hK
      obtain ⟨g5, hg5⟩ : ∃ z, z = wq.heap.size := ⟨_, rfl⟩
      obtain ⟨w4, hw4⟩ : ∃ z, z = (wq.alloc (.cells #[.string nm, vb, .int .i64 sf] 52)).drew := ⟨_, rfl⟩
      rw [← hw4] at hrb k4 ub ⊢
      rw [← hg5] at hrb ⊢
      clear hw4 hg5
      refine wpAnyM_one (fuel := 6) (i := 1) (by kernel_rfl) (by rfl) (fun K hK => ?_)
      go_wp2_with fail
      have ua0 := Upd.alloc0 w4 (.cells #[] 52) []
      have k2 := Four.keep ua0 k4
      refine hK _ _ k2 ?_
      clear hK
      obtain ⟨wa, hwa⟩ : ∃ z, z = w4.alloc (.cells #[] 52) := ⟨_, rfl⟩
      rw [← hwa] at ua0 k2 ⊢
      have ua := ub.trans ua0
      have hrc := hrb.frame (ua0.same hrb.lt (by simp))
      obtain ⟨HS, HR1, HR2, H1⟩ := HSS.out
      have HX := Lib.hid (show _ ∧ _ ∧ _ ∧ _ ∧ _ from ⟨HS.keep ua, HR1.frame (ua.same HR1.lt (by simp)), HR2.frame (ua.same HR2.lt (by simp)), H1, ua⟩)
      clear HS HR1 HR2 ua hwa ub ua0 hrb k4 H1
      refine wpAnyM_one (fuel := 5) (i := 8) (by kernel_rfl) (by rfl) (fun K hK => ?_)
      obtain ⟨n1, hn1, hsrc⟩ := HX.out.2.1.src (P := Try.prog) (tx := 45) Try.underlying45 (HX.out.1.one _ (fun g hg => List.mem_of_mem_take hg))
      rw [flatG_len fcell_len, List.length_take] at hn1
      have HBD := Lib.hid (show ∀ n, ([] : List Value).length = n * 3 → n + n1 ≤ 140737488355328 ∧ (n + n1) * i0.bytes ≤ 140737488355328 from fun n hn => by simp at hn; rw [hz2]; omega)
      clear hn1
      refine wpList_app rfl _ _ 45 45 rfl 3 _ _ _ rfl (OwnRow.zero _ _ _) _ i0 _ Try.underlying45 hi0 hz0 hz1 rfl _ _ _ rfl hsrc HBD.out ?_
      intro a5 n5 c5 w5 D5 hown5 hu5
      have k5 := Four.keep hu5 k2
      have HZ := Lib.hid (show _ ∧ _ ∧ _ ∧ _ from ⟨hown5, hrc.frame (hu5.same hrc.lt (by simp)), hu5, k5⟩)
      clear hown5 hrc hu5 hsrc HBD
      go_wp2_with fail
      refine hK _ _ k5 ?_
      clear hK k5
      refine wpAnyM_one (fuel := 4) (i := 11) (by kernel_rfl) (by rfl) (fun K hK => ?_)
      obtain ⟨hoz, hrz, huz, kz⟩ := HZ.out
      obtain ⟨m1, hm1, hs1⟩ := hrz.src (P := Try.prog) (tx := 45) Try.underlying45 HO.out
      obtain rfl : m1 = 1 := by simp at hm1; omega
      have hl5 : (([] : List Value) ++ (gs.take p).flatMap fcell).length ≤ 3000 := by
        rw [List.nil_append, flatG_len fcell_len, List.length_take]; omega
      refine wpList_app rfl _ _ 45 45 rfl 3 _ _ _ rfl hoz _ i0 _ Try.underlying45 hi0 hz0 hz1 rfl _ _ _ rfl hs1 (fun n hn => by rw [hz2]; omega) ?_
      intro a6 n6 c6 w6 D6 hown6 hu6
      have k7 := Four.keep (huz.trans hu6) k2
      go_wp2_with fail
      refine hK _ _ k7 ?_
      clear hK
      refine wpAnyM_one (fuel := 3) (i := 18) (by kernel_rfl) (by rfl) (fun K hK => ?_)
      have hR3 := HX.out.2.2.1.frame ((huz.trans hu6).same HX.out.2.2.1.lt (by simp))
      obtain ⟨m2, hm2, hs2⟩ := hR3.src (P := Try.prog) (tx := 45) Try.underlying45 (HX.out.1.one _ (fun g hg => List.mem_of_mem_drop hg))
      rw [flatG_len fcell_len, List.length_drop] at hm2
      refine wpList_app rfl _ _ 45 45 rfl 3 _ _ _ rfl hown6 _ i0 _ Try.underlying45 hi0 hz0 hz1 rfl _ _ _ rfl hs2 (fun n hn => by rw [List.length_append] at hn; simp at hn hl5; rw [hz2]; omega) ?_
      intro a7 n7 c7 w7 D7 hown7 hu7
      have hadd := (((HX.out.1.sep.addRow hown7 ((huz.trans hu6).trans hu7)).third).drop).swap
      have hb7 := hadd.blk
      have c7t := cell_of hb7 1 rfl
      have y71 := frz_of hb7 1
      have k8 := Four.keep ((huz.trans hu6).trans hu7) k2
      have HF := Lib.hid (hadd.set 1 (.slice a7 n7 c7))
      go_wp2_with fail
      refine hK _ _ k8 ?_
      clear hK
      refine wpAnyM_of_any _ _ _ _ (by decide) ?_
      refine wpAny_list [19, 20, 21] (fuel := 0) (by kernel_rfl) ?_
      simp only [List.filterMap_cons, List.filterMap_nil, List.getElem?_toArray, List.getElem?_cons_succ, List.getElem?_cons_zero]
      clear hoz hrz huz kz hs1 hs2 hown6 hown7 hu6 hu7 hadd hb7 hR3
      go_wp2_with fail
      go_end0
      refine ⟨rfl, _, HL.out, .slice a7 n7 c7, gs.take p ++ (vb, ⟨nm, b, sf⟩) :: gs.drop p, rows', HX.out.2.2.2.1, ⟨?_, fun g hg => ?_, ?_, ?_⟩⟩
      · rw [List.map_append, List.map_take, List.map_cons, List.map_drop, HX.out.1.fs]
      · rcases List.mem_append.1 hg with hg | hg
        · exact HX.out.1.row g (List.mem_of_mem_take hg)
        · rcases List.mem_cons.1 hg with rfl | hg
          · exact HX.out.2.2.2.1 _ HB.out
          · exact HX.out.1.row g (List.mem_of_mem_drop hg)
      · rw [List.length_append, List.length_take, List.length_cons, List.length_drop]; omega
      · have hf := HF.out
        have hcells : (gs.take p ++ (vb, ⟨nm, b, sf⟩) :: gs.drop p).flatMap fcell = ([] ++ (gs.take p).flatMap fcell ++ [.string nm, vb, .int .i64 sf]) ++ (gs.drop p).flatMap fcell := by
          simp [fcell]
        rw [hcells]
        exact hf
end
end Go.Proofs.Ythphinlibhafcaa
