/-
  The document's own disk: Crash.
-/
import Derived.Test.YthphinlibhafcaaFdG
namespace Go.Proofs.Ythphinlibhafcaa
open Go.RowKit Go.Av
theorem part_set {α : Type} (f : α → α) : ∀ (l : List α) {p : Nat} (hp : p < l.length), ((l.take p).map f ++ l.drop p).set p (f l[p]) = (l.take (p + 1)).map f ++ l.drop (p + 1)
  | [], _, hp => by simp at hp
  | x :: l, 0, _ => rfl
  | x :: l, p + 1, hp => by
    have := part_set f l (p := p) (by simpa using hp)
    simp only [List.take_succ_cons, List.map_cons, List.drop_succ_cons, List.cons_append, List.set_cons_succ, List.getElem_cons_succ, this]
theorem part_at {α : Type} (f : α → α) (l : List α) {p : Nat} (hp : p < l.length) (h : p < ((l.take p).map f ++ l.drop p).length) : ((l.take p).map f ++ l.drop p)[p] = l[p] := by
  rw [List.getElem_append_right (by simp; omega)]
  simp only [List.getElem_drop, List.length_map, List.length_take]
  congr 1
  omega
theorem part_len {α : Type} (f : α → α) (l : List α) {p : Nat} (hp : p ≤ l.length) : ((l.take p).map f ++ l.drop p).length = l.length := by simp; omega
section
variable {w0 w : World} {t : Nat} {T : DiskS} {R : List Thing} {rows : List (Value × Bs)} {v : Value} {gs : List (Value × FileS)}
def partC (T : DiskS) (keep : Int) (p : Nat) : DiskS := { T with off := true, fs := (T.fs.take p).map (FileS.crash keep) ++ T.fs.drop p }

set_option maxRecDepth 100000 in
set_option maxHeartbeats 4000000 in
theorem fd_crash (h : Fd w0 w t T R rows) (hsafe : ∀ f ∈ T.fs, f.safe ≤ f.b.length) (hfit : (total T.fs : Int) ≤ 1048576) (keep : Int) :
    Calls Try.prog 27 #[.pointer (some ⟨t, 0, none⟩), .int .i64 keep] w fun e w' => e = .returned (.tuple #[]) ∧ Fd w0 w' t (T.crash keep) R rows := by
  obtain ⟨v, gs, rows', h1, hX⟩ := h
  have hb := hX.sep.blk
  have y2 := frz_of hb 2
  have c2 := cell_of hb 2 rfl
  rw [show (#[Value.int .i64 T.room, v, .bool T.off, .int .i64 T.lives] : Array Value)[2] = .bool T.off from rfl] at c2
  have HF0 := Lib.hid (show Fd w0 (w.setCell ⟨t, 2, none⟩ (.bool true)) t (partC T keep 0) R rows from ⟨v, gs, rows', h1, ⟨by unfold partC; simpa using hX.fs, hX.row, hX.few, hX.sep.set 2 (.bool true)⟩⟩)
  have HS := Lib.hid (show _ ∧ _ from ⟨hsafe, hfit⟩)
  clear hX h1 hb hsafe hfit
  go_enter Try.func27, Try.ntmps27
  go_wp2_with fail
  obtain ⟨w1, hw1⟩ : ∃ z, z = w.setCell ⟨t, 2, none⟩ (.bool true) := ⟨_, rfl⟩
  rw [← hw1] at HF0 ⊢
  clear hw1 y2 c2
  go_loopg [4] T.fs.length (fun k vi wr => ∃ p : Nat, p ≤ T.fs.length ∧ k = T.fs.length - p ∧ vi = .int .i64 (p : Int) ∧ Fd w0 wr t (partC T keep p) R rows)
  case atStart => exact ⟨0, Nat.zero_le _, rfl, rfl, HF0.out⟩
  case round =>
    clear HF0
    obtain ⟨p, hp, hk, hvi, hF⟩ := hrel
    subst hvi
    obtain ⟨v, gs, rows', h1, hX⟩ := hF
    have hgl : gs.length = T.fs.length := by
      have := congrArg List.length hX.fs
      rw [List.length_map] at this
      rw [this]
      exact part_len _ _ hp
    obtain ⟨a1, cp1, rfl, hbk, hcp, hcm, hrow⟩ := hX.facts
    have c1 : wr.cell? ⟨t, 1, none⟩ = some (.slice a1 gs.length cp1) := cell_of hbk 1 rfl
    unfold maxLen at hcm
    have h1000 := hX.few
    by_cases hlt : p < T.fs.length
    case neg =>
      have HF := Lib.hid (show Fd w0 wr t (T.crash keep) R rows from ⟨_, gs, rows', h1, by
        have e : partC T keep p = T.crash keep := by
          unfold partC DiskS.crash
          rw [show p = T.fs.length by omega, List.take_length, List.drop_length, List.append_nil]
        rw [← e]
        exact hX⟩)
      clear hX h1 hbk hrow
      go_wp2_with fail
      go_end0
      exact ⟨rfl, HF.out⟩
    case pos =>
    have hpg : p < gs.length := by omega
    obtain ⟨y, rfl, hys, e0, e1, e2, E0, hE0⟩ := hrow p hpg
    have hg : gs[p].2 = T.fs[p] := by
      have h2 : (gs.map (·.2))[p]'(by rw [List.length_map]; exact hpg) = gs[p].2 := by simp
      rw [← h2]
      simp only [hX.fs]
      exact part_at _ _ hlt _
    obtain ⟨av, nv, cv, hv, hlv, hnv, hcv, -⟩ := hE0
    rw [List.length_map, Nat.mul_one] at hlv
    rw [hv] at e1
    unfold maxLen at hcv
    obtain ⟨sf, hsf⟩ : ∃ sf, gs[p].2.safe = sf := ⟨_, rfl⟩
    rw [hsf] at e2
    have hsn : sf ≤ nv := by
      have := HS.out.1 _ (List.getElem_mem hlt)
      rw [← hg, hsf, hlv] at this
      exact this
    have hnm : nv ≤ 1048576 := by
      have h1 := total_mem (List.getElem_mem hlt)
      rw [← hg, hlv] at h1
      have := HS.out.2
      omega
    have hcr : ∀ kn : Nat, kn = sf + min keep.toNat (nv - sf) → FileS.crash keep T.fs[p] = { gs[p].2 with b := gs[p].2.b.take kn, safe := kn } := by
      intro kn hkn
      rw [← hg]
      unfold FileS.crash
      rw [hsf, hlv, ← hkn]
    have HCR := Lib.hid (show _ ∧ _ ∧ _ from ⟨hlt, hg, hcr⟩)
    have HV := Lib.hid hv
    have HL := Lib.hid hlv
    have HX := Lib.hid (show _ ∧ _ ∧ _ from ⟨h1, hX, e0⟩)
    obtain ⟨dd, hdd⟩ : ∃ dd : Nat, nv = sf + dd := ⟨nv - sf, by omega⟩
    have hwsub : IntKind.i64.wrap ((nv : Int) - (sf : Int)) = (dd : Int) := by rw [IntKind.wrap_i64]; omega
    have hds : dd ≤ 1048576 ∧ sf ≤ 1048576 := by omega
    obtain ⟨hd1, hd2⟩ := hds
    have HDD := Lib.hid hdd
    clear hdd
    obtain ⟨i0, hi0, hz0, hz1, hz2⟩ := info_parts info5
    clear hX h1 hbk hrow hg hv hlv hsf hcr e0
    go_wp2_with fail
    refine wp_region_M (fun W => W.cell? ⟨(y.add (p * 3)).block, (y.add (p * 3)).off + 1, none⟩ = some (.slice av nv cv) ∧ W.cell? ⟨(y.add (p * 3)).block, (y.add (p * 3)).off + 2, none⟩ = some (.int .i64 sf)) 11 (by kernel_rfl) ?_
    refine wpAnyM_take (by kernel_rfl) (by intro c a d v w h; cases d <;> exact h) [(0, false), (1, false), (2, false), (3, true), (4, false), (5, false), (6, false), (7, false), (8, true), (9, false), (10, false)] (fuel := 0) (by kernel_rfl) ?_
    apply Exists.intro; refine ⟨?_, ⟨e1, e2⟩, ?_⟩
    · iterate 11 ((first | (apply yieldN; (· (simp only [List.getElem?_toArray, List.getElem?_cons_succ, List.getElem?_cons_zero]; try rfl)); (· rfl)) | ((first | apply yieldP | apply yieldL); (· (simp only [List.getElem?_toArray, List.getElem?_cons_succ, List.getElem?_cons_zero]; try rfl)); (· rfl); (· (intros; go_simp; try with_reducible rfl)))); (· (simp only [Act.put, List.setIfInBounds_toArray, List.set_cons_zero, List.set_cons_succ]; try rfl)))
      exact rfl
    refine wpAnyM_done (by kernel_rfl) ?_ _
    have hud := (Upd.refl wr []).drew
    have HX := Lib.hid (show _ ∧ _ ∧ _ from ⟨HX.out.1, HX.out.2.1.keep hud, upd_cell hud HX.out.2.2⟩)
    have e1 := upd_cell hud e1
    have e2 := upd_cell hud e2
    obtain ⟨wq, hwq⟩ : ∃ z, z = wr.drew := ⟨_, rfl⟩
    rw [← hwq] at HX e1 e2 ⊢
    clear hwq hud
    by_cases hk1 : keep < (dd : Int)
    · by_cases hk0 : keep < 0
      · have hsl : ∀ W : World, (Instr.slice 28 (.slice av nv cv) none (some (.int .i64 (sf : Int))) none).run Try.prog W = .ok (.slice av sf cv) W := fun W => run_slice_hi (P := Try.prog) Try.underlying28 hi0 av nv cv sf (by omega) W
        have hwr : IntKind.i64.wrap (sf : Int) = (sf : Int) := by rw [IntKind.wrap_i64]; omega
        have hkn : sf ≤ nv := hsn
        have HKN := Lib.hid (show sf = sf + min keep.toNat (nv - sf) by omega)
        go_wp2_with fail
        refine wp_region_M (fun W => W.cell? ⟨(y.add (p * 3)).block, (y.add (p * 3)).off + 1, none⟩ = some (.slice av nv cv) ∧ W.cell? ⟨(y.add (p * 3)).block, (y.add (p * 3)).off + 2, none⟩ = some (.int .i64 sf)) 14 (by kernel_rfl) ?_
        refine wpAnyM_take (by kernel_rfl) (by intro c a d v w h; cases d <;> exact h) [(0, false), (2, false), (3, false), (4, false), (5, true), (6, false), (7, false), (8, false), (9, true), (10, false), (11, false), (12, false)] (fuel := 5) (by kernel_rfl) ?_
        apply Exists.intro; refine ⟨?_, ⟨e1, e2⟩, ?_⟩
        · iterate 12 ((first | (apply yieldN; (· (simp only [List.getElem?_toArray, List.getElem?_cons_succ, List.getElem?_cons_zero]; try rfl)); (· rfl)) | ((first | apply yieldP | apply yieldL); (· (simp only [List.getElem?_toArray, List.getElem?_cons_succ, List.getElem?_cons_zero]; try rfl)); (· rfl); (· (intros; go_simp; try with_reducible rfl)))); (· (simp only [Act.put, List.setIfInBounds_toArray, List.set_cons_zero, List.set_cons_succ]; try rfl)))
          exact rfl
        refine wpAnyM_one (fuel := 4) (i := 1) (by kernel_rfl) (by rfl) (fun K hK => ?_)    -- buildSlice
        go_wp2_with fail
        have ua := Upd.alloc0 wq (.cells #[] 5) []
        have k2 : _ ∧ _ := ⟨upd_cell ua e1, upd_cell ua e2⟩
        refine hK _ _ k2 ?_
        clear hK
        obtain ⟨wa, hwa⟩ : ∃ z, z = wq.alloc (.cells #[] 5) := ⟨_, rfl⟩
        rw [← hwa] at ua k2 ⊢
        clear hwa
        refine wpAnyM_one (fuel := 3) (i := 13) (by kernel_rfl) (by rfl) (fun K hK => ?_)    -- b:append
        have ud := ua.trans (Upd.refl wa []).drew
        obtain ⟨E, hE⟩ := (HX.out.2.1.keep ud).sep.get (HX.out.2.1.row _ (List.getElem_mem hpg))
        rw [HV.out] at hE
        have hE := hE.takeK hkn
        rw [Nat.mul_one, ← List.map_take] at hE
        obtain ⟨n1, hn1, hsrc⟩ := hE.src (P := Try.prog) (tx := 28) Try.underlying28 bv_one
        rw [List.length_map, List.length_take, Nat.mul_one] at hn1
        refine wpList_app rfl _ _ 28 28 rfl 1 _ _ _ rfl (OwnRow.zero _ _ _) _ i0 _ Try.underlying28 hi0 hz0 hz1 rfl _ _ _ rfl hsrc (fun n hn => by simp at hn; rw [hz2]; omega) ?_
        intro a5 n5 c5 w5 D5 hown5 hu5
        have hu5 := ud.trans hu5
        have k5 : _ ∧ _ := ⟨upd_cell hu5 e1, upd_cell hu5 e2⟩
        have hn5 : sf = n5 := by
          obtain ⟨a, n, c, hv, hl, -⟩ := id hown5
          cases hv
          rw [List.nil_append, List.length_map, List.length_take] at hl
          have := HL.out
          omega
        subst hn5
        have e7 := k5.1
        have hX7 := HX.out.2.1.newRow (b6 := gs[p].2.b.take sf) hu5 (by rw [List.nil_append] at hown5; exact hown5)
        have q0 := upd_cell hu5 HX.out.2.2
        obtain ⟨y7, hset⟩ := hX7.setG hpg (j := 1) (by decide) (.slice a5 sf c5, { gs[p].2 with b := gs[p].2.b.take sf }) (.slice a5 sf c5) rfl (List.mem_cons_self ..) q0
        obtain ⟨w6, hw6⟩ : ∃ z, z = w5.setCell ⟨(y.add (p * 3)).block, (y.add (p * 3)).off + 1, none⟩ (.slice a5 sf c5) := ⟨_, rfl⟩
        obtain ⟨gs2, hgs2⟩ : ∃ z, z = gs.set p (Value.slice a5 sf c5, { gs[p].2 with b := gs[p].2.b.take sf }) := ⟨_, rfl⟩
        have hl2 : gs2.length = gs.length := by rw [hgs2, List.length_set]
        rw [← hgs2, ← hl2, ← hw6] at hset
        have hp2 : p < gs2.length := by omega
        have hg2 : gs2[p] = (Value.slice a5 sf c5, { gs[p].2 with b := gs[p].2.b.take sf }) := by simp only [hgs2, List.getElem_set_self]
        obtain ⟨a8, c8, hv8, hb8, -, -, hrow8⟩ := hset.facts
        cases hv8
        obtain ⟨y8, hy8, -, e08, e18, e28, -⟩ := hrow8 p hp2
        cases hy8
        simp only [hg2] at e08 e18 e28
        obtain ⟨y8, hset8⟩ := hset.setG hp2 (j := 2) (by decide) (.slice a5 sf c5, { gs[p].2 with b := gs[p].2.b.take sf, safe := sf }) (.int .i64 sf) (by rw [hg2]; rfl) (List.mem_cons_self ..) (by rw [hg2]; exact e08)
        have HF := Lib.hid (show Fd w0 _ t (partC T keep (p + 1)) R rows from ⟨_, _, _, fun r hr => List.mem_cons_of_mem _ (HX.out.1 r hr), by
          have := hset8
          rw [hgs2] at this
          simp only [List.set_set] at this
          rw [← hgs2, show gs2.length = (gs.set p (Value.slice a5 sf c5, { gs[p].2 with b := gs[p].2.b.take sf, safe := sf })).length by rw [List.length_set, hl2]] at this
          have e : partC T keep (p + 1) = { partC T keep p with fs := (partC T keep p).fs.set p { gs[p].2 with b := gs[p].2.b.take sf, safe := sf } } := by
            unfold partC
            dsimp only
            rw [← part_set (FileS.crash keep) T.fs HCR.out.1, HCR.out.2.2 (sf) HKN.out]
          rw [e]
          exact this⟩)
        clear hX7 hset hown5 hu5 hsrc hE ud ua e08 hrow8 hb8 q0 hg2 hset8 hgs2
        go_wp2_with fail
        refine hK _ _ k5 ?_
        clear hK
        refine wpAnyM_of_any _ _ _ _ (by decide) ?_
        refine wpAny_list [14, 15, 16] (fuel := 0) (by kernel_rfl) ?_
        simp only [List.filterMap_cons, List.filterMap_nil, List.getElem?_toArray, List.getElem?_cons_succ, List.getElem?_cons_zero]
        subst hw6
        go_wp2_with fail
        go_roundg (T.fs.length - (p + 1))
        case rel => exact ⟨p + 1, by omega, rfl, by go_num, HF.out⟩
        case measure => omega
      · obtain ⟨kk, rfl⟩ : ∃ kk : Nat, keep = kk := ⟨keep.toNat, by omega⟩
        have hwr : IntKind.i64.wrap ((sf : Int) + (kk : Int)) = (sf : Int) + (kk : Int) := by rw [IntKind.wrap_i64]; omega
        have hsl : ∀ W : World, (Instr.slice 28 (.slice av nv cv) none (some (.int .i64 ((sf : Int) + (kk : Int)))) none).run Try.prog W = .ok (.slice av (sf + kk) cv) W := fun W => by
          have := run_slice_hi (P := Try.prog) Try.underlying28 hi0 av nv cv (sf + kk) (by have := HDD.out; omega) W
          push_cast at this
          exact this
        have hkn : sf + kk ≤ nv := by have := HDD.out; omega
        have HKN := Lib.hid (show sf + kk = sf + min (kk : Int).toNat (nv - sf) by have := HDD.out; omega)
        go_wp2_with fail
        refine wp_region_M (fun W => W.cell? ⟨(y.add (p * 3)).block, (y.add (p * 3)).off + 1, none⟩ = some (.slice av nv cv) ∧ W.cell? ⟨(y.add (p * 3)).block, (y.add (p * 3)).off + 2, none⟩ = some (.int .i64 sf)) 14 (by kernel_rfl) ?_
        refine wpAnyM_take (by kernel_rfl) (by intro c a d v w h; cases d <;> exact h) [(0, false), (2, false), (3, false), (4, false), (5, true), (6, false), (7, false), (8, false), (9, true), (10, false), (11, false), (12, false)] (fuel := 5) (by kernel_rfl) ?_
        apply Exists.intro; refine ⟨?_, ⟨e1, e2⟩, ?_⟩
        · iterate 12 ((first | (apply yieldN; (· (simp only [List.getElem?_toArray, List.getElem?_cons_succ, List.getElem?_cons_zero]; try rfl)); (· rfl)) | ((first | apply yieldP | apply yieldL); (· (simp only [List.getElem?_toArray, List.getElem?_cons_succ, List.getElem?_cons_zero]; try rfl)); (· rfl); (· (intros; go_simp; try with_reducible rfl)))); (· (simp only [Act.put, List.setIfInBounds_toArray, List.set_cons_zero, List.set_cons_succ]; try rfl)))
          exact rfl
        refine wpAnyM_one (fuel := 4) (i := 1) (by kernel_rfl) (by rfl) (fun K hK => ?_)    -- buildSlice
        go_wp2_with fail
        have ua := Upd.alloc0 wq (.cells #[] 5) []
        have k2 : _ ∧ _ := ⟨upd_cell ua e1, upd_cell ua e2⟩
        refine hK _ _ k2 ?_
        clear hK
        obtain ⟨wa, hwa⟩ : ∃ z, z = wq.alloc (.cells #[] 5) := ⟨_, rfl⟩
        rw [← hwa] at ua k2 ⊢
        clear hwa
        refine wpAnyM_one (fuel := 3) (i := 13) (by kernel_rfl) (by rfl) (fun K hK => ?_)    -- b:append
        have ud := ua.trans (Upd.refl wa []).drew
        obtain ⟨E, hE⟩ := (HX.out.2.1.keep ud).sep.get (HX.out.2.1.row _ (List.getElem_mem hpg))
        rw [HV.out] at hE
        have hE := hE.takeK hkn
        rw [Nat.mul_one, ← List.map_take] at hE
        obtain ⟨n1, hn1, hsrc⟩ := hE.src (P := Try.prog) (tx := 28) Try.underlying28 bv_one
        rw [List.length_map, List.length_take, Nat.mul_one] at hn1
        refine wpList_app rfl _ _ 28 28 rfl 1 _ _ _ rfl (OwnRow.zero _ _ _) _ i0 _ Try.underlying28 hi0 hz0 hz1 rfl _ _ _ rfl hsrc (fun n hn => by simp at hn; rw [hz2]; omega) ?_
        intro a5 n5 c5 w5 D5 hown5 hu5
        have hu5 := ud.trans hu5
        have k5 : _ ∧ _ := ⟨upd_cell hu5 e1, upd_cell hu5 e2⟩
        have hn5 : (sf + kk) = n5 := by
          obtain ⟨a, n, c, hv, hl, -⟩ := id hown5
          cases hv
          rw [List.nil_append, List.length_map, List.length_take] at hl
          have := HL.out
          omega
        subst hn5
        have e7 := k5.1
        have hX7 := HX.out.2.1.newRow (b6 := gs[p].2.b.take (sf + kk)) hu5 (by rw [List.nil_append] at hown5; exact hown5)
        have q0 := upd_cell hu5 HX.out.2.2
        obtain ⟨y7, hset⟩ := hX7.setG hpg (j := 1) (by decide) (.slice a5 (sf + kk) c5, { gs[p].2 with b := gs[p].2.b.take (sf + kk) }) (.slice a5 (sf + kk) c5) rfl (List.mem_cons_self ..) q0
        obtain ⟨w6, hw6⟩ : ∃ z, z = w5.setCell ⟨(y.add (p * 3)).block, (y.add (p * 3)).off + 1, none⟩ (.slice a5 (sf + kk) c5) := ⟨_, rfl⟩
        obtain ⟨gs2, hgs2⟩ : ∃ z, z = gs.set p (Value.slice a5 (sf + kk) c5, { gs[p].2 with b := gs[p].2.b.take (sf + kk) }) := ⟨_, rfl⟩
        have hl2 : gs2.length = gs.length := by rw [hgs2, List.length_set]
        rw [← hgs2, ← hl2, ← hw6] at hset
        have hp2 : p < gs2.length := by omega
        have hg2 : gs2[p] = (Value.slice a5 (sf + kk) c5, { gs[p].2 with b := gs[p].2.b.take (sf + kk) }) := by simp only [hgs2, List.getElem_set_self]
        obtain ⟨a8, c8, hv8, hb8, -, -, hrow8⟩ := hset.facts
        cases hv8
        obtain ⟨y8, hy8, -, e08, e18, e28, -⟩ := hrow8 p hp2
        cases hy8
        simp only [hg2] at e08 e18 e28
        obtain ⟨y8, hset8⟩ := hset.setG hp2 (j := 2) (by decide) (.slice a5 (sf + kk) c5, { gs[p].2 with b := gs[p].2.b.take (sf + kk), safe := (sf + kk) }) (.int .i64 (sf + kk)) (by rw [hg2]; rfl) (List.mem_cons_self ..) (by rw [hg2]; exact e08)
        have HF := Lib.hid (show Fd w0 _ t (partC T (kk : Int) (p + 1)) R rows from ⟨_, _, _, fun r hr => List.mem_cons_of_mem _ (HX.out.1 r hr), by
          have := hset8
          rw [hgs2] at this
          simp only [List.set_set] at this
          rw [← hgs2, show gs2.length = (gs.set p (Value.slice a5 (sf + kk) c5, { gs[p].2 with b := gs[p].2.b.take (sf + kk), safe := (sf + kk) })).length by rw [List.length_set, hl2]] at this
          have e : partC T (kk : Int) (p + 1) = { partC T (kk : Int) p with fs := (partC T (kk : Int) p).fs.set p { gs[p].2 with b := gs[p].2.b.take (sf + kk), safe := (sf + kk) } } := by
            unfold partC
            dsimp only
            rw [← part_set (FileS.crash (kk : Int)) T.fs HCR.out.1, HCR.out.2.2 ((sf + kk)) HKN.out]
          rw [e]
          exact this⟩)
        clear hX7 hset hown5 hu5 hsrc hE ud ua e08 hrow8 hb8 q0 hg2 hset8 hgs2
        go_wp2_with fail
        refine hK _ _ k5 ?_
        clear hK
        refine wpAnyM_of_any _ _ _ _ (by decide) ?_
        refine wpAny_list [14, 15, 16] (fuel := 0) (by kernel_rfl) ?_
        simp only [List.filterMap_cons, List.filterMap_nil, List.getElem?_toArray, List.getElem?_cons_succ, List.getElem?_cons_zero]
        subst hw6
        go_wp2_with fail
        go_roundg (T.fs.length - (p + 1))
        case rel => exact ⟨p + 1, by omega, rfl, by go_num, HF.out⟩
        case measure => omega
    · have hwr : IntKind.i64.wrap ((sf : Int) + (dd : Int)) = (sf : Int) + (dd : Int) := by rw [IntKind.wrap_i64]; omega
      have hsl : ∀ W : World, (Instr.slice 28 (.slice av nv cv) none (some (.int .i64 ((sf : Int) + (dd : Int)))) none).run Try.prog W = .ok (.slice av (sf + dd) cv) W := fun W => by
        have := run_slice_hi (P := Try.prog) Try.underlying28 hi0 av nv cv (sf + dd) (by have := HDD.out; omega) W
        push_cast at this
        exact this
      have hkn : sf + dd ≤ nv := by have := HDD.out; omega
      have HKN := Lib.hid (show sf + dd = sf + min keep.toNat (nv - sf) by have := HDD.out; omega)
      go_wp2_with fail
      refine wp_region_M (fun W => W.cell? ⟨(y.add (p * 3)).block, (y.add (p * 3)).off + 1, none⟩ = some (.slice av nv cv) ∧ W.cell? ⟨(y.add (p * 3)).block, (y.add (p * 3)).off + 2, none⟩ = some (.int .i64 sf)) 14 (by kernel_rfl) ?_
      refine wpAnyM_take (by kernel_rfl) (by intro c a d v w h; cases d <;> exact h) [(0, false), (2, false), (3, false), (4, false), (5, true), (6, false), (7, false), (8, false), (9, true), (10, false), (11, false), (12, false)] (fuel := 5) (by kernel_rfl) ?_
      apply Exists.intro; refine ⟨?_, ⟨e1, e2⟩, ?_⟩
      · iterate 12 ((first | (apply yieldN; (· (simp only [List.getElem?_toArray, List.getElem?_cons_succ, List.getElem?_cons_zero]; try rfl)); (· rfl)) | ((first | apply yieldP | apply yieldL); (· (simp only [List.getElem?_toArray, List.getElem?_cons_succ, List.getElem?_cons_zero]; try rfl)); (· rfl); (· (intros; go_simp; try with_reducible rfl)))); (· (simp only [Act.put, List.setIfInBounds_toArray, List.set_cons_zero, List.set_cons_succ]; try rfl)))
        exact rfl
      refine wpAnyM_one (fuel := 4) (i := 1) (by kernel_rfl) (by rfl) (fun K hK => ?_)    -- buildSlice
      go_wp2_with fail
      have ua := Upd.alloc0 wq (.cells #[] 5) []
      have k2 : _ ∧ _ := ⟨upd_cell ua e1, upd_cell ua e2⟩
      refine hK _ _ k2 ?_
      clear hK
      obtain ⟨wa, hwa⟩ : ∃ z, z = wq.alloc (.cells #[] 5) := ⟨_, rfl⟩
      rw [← hwa] at ua k2 ⊢
      clear hwa
      refine wpAnyM_one (fuel := 3) (i := 13) (by kernel_rfl) (by rfl) (fun K hK => ?_)    -- b:append
      have ud := ua.trans (Upd.refl wa []).drew
      obtain ⟨E, hE⟩ := (HX.out.2.1.keep ud).sep.get (HX.out.2.1.row _ (List.getElem_mem hpg))
      rw [HV.out] at hE
      have hE := hE.takeK hkn
      rw [Nat.mul_one, ← List.map_take] at hE
      obtain ⟨n1, hn1, hsrc⟩ := hE.src (P := Try.prog) (tx := 28) Try.underlying28 bv_one
      rw [List.length_map, List.length_take, Nat.mul_one] at hn1
      refine wpList_app rfl _ _ 28 28 rfl 1 _ _ _ rfl (OwnRow.zero _ _ _) _ i0 _ Try.underlying28 hi0 hz0 hz1 rfl _ _ _ rfl hsrc (fun n hn => by simp at hn; rw [hz2]; omega) ?_
      intro a5 n5 c5 w5 D5 hown5 hu5
      have hu5 := ud.trans hu5
      have k5 : _ ∧ _ := ⟨upd_cell hu5 e1, upd_cell hu5 e2⟩
      have hn5 : (sf + dd) = n5 := by
        obtain ⟨a, n, c, hv, hl, -⟩ := id hown5
        cases hv
        rw [List.nil_append, List.length_map, List.length_take] at hl
        have := HL.out
        omega
      subst hn5
      have e7 := k5.1
      have hX7 := HX.out.2.1.newRow (b6 := gs[p].2.b.take (sf + dd)) hu5 (by rw [List.nil_append] at hown5; exact hown5)
      have q0 := upd_cell hu5 HX.out.2.2
      obtain ⟨y7, hset⟩ := hX7.setG hpg (j := 1) (by decide) (.slice a5 (sf + dd) c5, { gs[p].2 with b := gs[p].2.b.take (sf + dd) }) (.slice a5 (sf + dd) c5) rfl (List.mem_cons_self ..) q0
      obtain ⟨w6, hw6⟩ : ∃ z, z = w5.setCell ⟨(y.add (p * 3)).block, (y.add (p * 3)).off + 1, none⟩ (.slice a5 (sf + dd) c5) := ⟨_, rfl⟩
      obtain ⟨gs2, hgs2⟩ : ∃ z, z = gs.set p (Value.slice a5 (sf + dd) c5, { gs[p].2 with b := gs[p].2.b.take (sf + dd) }) := ⟨_, rfl⟩
      have hl2 : gs2.length = gs.length := by rw [hgs2, List.length_set]
      rw [← hgs2, ← hl2, ← hw6] at hset
      have hp2 : p < gs2.length := by omega
      have hg2 : gs2[p] = (Value.slice a5 (sf + dd) c5, { gs[p].2 with b := gs[p].2.b.take (sf + dd) }) := by simp only [hgs2, List.getElem_set_self]
      obtain ⟨a8, c8, hv8, hb8, -, -, hrow8⟩ := hset.facts
      cases hv8
      obtain ⟨y8, hy8, -, e08, e18, e28, -⟩ := hrow8 p hp2
      cases hy8
      simp only [hg2] at e08 e18 e28
      obtain ⟨y8, hset8⟩ := hset.setG hp2 (j := 2) (by decide) (.slice a5 (sf + dd) c5, { gs[p].2 with b := gs[p].2.b.take (sf + dd), safe := (sf + dd) }) (.int .i64 (sf + dd)) (by rw [hg2]; rfl) (List.mem_cons_self ..) (by rw [hg2]; exact e08)
      have HF := Lib.hid (show Fd w0 _ t (partC T keep (p + 1)) R rows from ⟨_, _, _, fun r hr => List.mem_cons_of_mem _ (HX.out.1 r hr), by
        have := hset8
        rw [hgs2] at this
        simp only [List.set_set] at this
        rw [← hgs2, show gs2.length = (gs.set p (Value.slice a5 (sf + dd) c5, { gs[p].2 with b := gs[p].2.b.take (sf + dd), safe := (sf + dd) })).length by rw [List.length_set, hl2]] at this
        have e : partC T keep (p + 1) = { partC T keep p with fs := (partC T keep p).fs.set p { gs[p].2 with b := gs[p].2.b.take (sf + dd), safe := (sf + dd) } } := by
          unfold partC
          dsimp only
          rw [← part_set (FileS.crash keep) T.fs HCR.out.1, HCR.out.2.2 ((sf + dd)) HKN.out]
        rw [e]
        exact this⟩)
      clear hX7 hset hown5 hu5 hsrc hE ud ua e08 hrow8 hb8 q0 hg2 hset8 hgs2
      go_wp2_with fail
      refine hK _ _ k5 ?_
      clear hK
      refine wpAnyM_of_any _ _ _ _ (by decide) ?_
      refine wpAny_list [14, 15, 16] (fuel := 0) (by kernel_rfl) ?_
      simp only [List.filterMap_cons, List.filterMap_nil, List.getElem?_toArray, List.getElem?_cons_succ, List.getElem?_cons_zero]
      subst hw6
      go_wp2_with fail
      go_roundg (T.fs.length - (p + 1))
      case rel => exact ⟨p + 1, by omega, rfl, by go_num, HF.out⟩
      case measure => omega
end
end Go.Proofs.Ythphinlibhafcaa
