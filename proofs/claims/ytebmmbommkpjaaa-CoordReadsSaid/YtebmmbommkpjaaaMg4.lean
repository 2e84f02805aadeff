/-
  Texts of this claim, laid together.
-/
import Derived.Test.YtebmmbommkpjaaaMg3

/-
  The document's own Coord: Put.
-/
namespace Go.Proofs.Ytebmmbommkpjaaa
open Go.RowKit Go.Av
def bytesO (T : CoS) : Bs := packI T.length ++ T.flatMap (fun e => entB e.1 e.2)
theorem flatI_len (l : List Int) : (l.flatMap packI).length = 8 * l.length := by
  induction l with
  | nil => rfl
  | cons x l ih => rw [List.flatMap_cons, List.length_append, packI_len, ih, List.length_cons]; omega
theorem flatI_take {l : List Int} {q : Nat} (hq : q < l.length) : (l.take (q + 1)).flatMap packI = (l.take q).flatMap packI ++ packI l[q] := by
  rw [List.take_succ_eq_append_getElem hq, List.flatMap_append]
  simp
theorem entBO_len {id : Int} {x : EntS} (h1 : x.shards.length ≤ 4) (h2 : x.votes.length ≤ 4) (h3 : x.owes.length ≤ 4) : (entB id x).length ≤ 200 := by
  unfold entB numsS
  simp only [List.length_append, packI_len, flatI_len]
  omega
theorem bytes_take_len {T : CoS} (h : ∀ e ∈ T, e.2.shards.length ≤ 4 ∧ e.2.votes.length ≤ 4 ∧ e.2.owes.length ≤ 4) (q : Nat) : ((T.take q).flatMap (fun e => entB e.1 e.2)).length ≤ 200 * q := by
  induction T generalizing q with
  | nil => simp
  | cons e T ih =>
    cases q with
    | zero => simp
    | succ q =>
      have h1 := ih (fun e he => h e (by simp [he])) q
      obtain ⟨a1, a2, a3⟩ := h e (by simp)
      have h2 := entBO_len (id := e.1) a1 a2 a3
      rw [List.take_succ_cons, List.flatMap_cons, List.length_append]
      omega
section
variable {w0 w : World} {c : Nat} {T : CoS} {R : List Thing} {rows : List (Value × Bs)} {v : Value} {gs l1 l2 : List OneG} {g : OneG}
theorem CrX.i64 {b : Value} {l : Bs} (h : CrX w0 w c v gs (ThRow 1 b (l.map bv) :: R) rows) (x : Int) (hl : l.length ≤ 1073741824) :
    Calls Try.prog 53 #[b, .int .i64 x] w fun e w' => ∃ b', e = .returned b' ∧ CrX w0 w' c v gs (ThRow 1 b' ((l ++ packI x).map bv) :: R) rows := by
  have hS := h.sep.perm (List.perm_middle (l₁ := _ :: _ :: gs.flatMap OneG.th))
  obtain ⟨E, hE⟩ := hS.readFst
  refine (i64R_any b l E x w hE hl).mono ?_
  rintro e w' ⟨b', D', rfl, ho, hu⟩
  exact ⟨b', rfl, ⟨h.wf, h.few, (hS.drop.addRow ho hu).perm (List.perm_middle (l₁ := _ :: _ :: gs.flatMap OneG.th)).symm⟩⟩
theorem CrX.nilRow (h : CrX w0 w c v gs R rows) : CrX w0 w c v gs (ThRow 1 (.slice none 0 0) (([] : Bs).map bv) :: R) rows :=
  ⟨h.wf, h.few, ((h.sep.nilRow 1).perm (List.perm_middle (l₁ := _ :: _ :: gs.flatMap OneG.th)).symm)⟩
theorem CrX.newCell (h : CrX w0 w c v gs R rows) (o : Obj) : CrX w0 (w.alloc o) c v gs (ThCell w.heap.size o :: R) rows :=
  ⟨h.wf, h.few, ((h.sep.newCell o).perm (List.perm_middle (l₁ := _ :: _ :: gs.flatMap OneG.th)).symm)⟩
theorem CrX.blkR {b : Nat} {o : Obj} (h : CrX w0 w c v gs R rows) (hm : ThCell b o ∈ R) : w.heap[b]? = some o := h.sep.block (by simp [hm])
theorem CrX.readI {u : Value} {xs : List Int} (h : CrX w0 w c v gs R rows) (hm : ThRow 1 u (xs.map iv) ∈ R) : ∃ E, ReadRow w 1 u (xs.map iv) E := by
  obtain ⟨D, hD⟩ := h.sep.has (T := ThRow 1 u (xs.map iv)) (by simp [hm])
  obtain ⟨E, hE, -⟩ := OwnRow.read hD
  exact ⟨E, hE⟩

theorem one_cells {W : World} {bx : Nat} {i h : Int} {s1 s2 s3 : Option Addr} {t1 t2 t3 k1 k2 k3 : Nat} (hb : W.heap[bx]? = some (.cells #[.int .i64 i, .slice s1 t1 k1, .slice s2 t2 k2, .int .i64 h, .slice s3 t3 k3] 85 (0, 0))) :
    W.cell? ⟨bx, 0, none⟩ = some (.int .i64 i) ∧ W.cell? ⟨bx, 1, none⟩ = some (.slice s1 t1 k1) ∧ W.cell? ⟨bx, 2, none⟩ = some (.slice s2 t2 k2) ∧ W.cell? ⟨bx, 3, none⟩ = some (.int .i64 h) ∧ W.cell? ⟨bx, 4, none⟩ = some (.slice s3 t3 k3) :=
  ⟨cell_of hb 0 rfl, cell_of hb 1 rfl, cell_of hb 2 rfl, cell_of hb 3 rfl, cell_of hb 4 rfl⟩
theorem CrX.shard (h : CrX w0 w c v gs R rows) {q : Nat} (hq : q < gs.length) {s : Option Addr} {t k : Nat} (hv : gs[q].vs = .slice s t k) {j : Nat} (hj : j < gs[q].sh.length) : ∃ z : Addr, s = some z ∧ z.spot = none ∧ w.cell? (z.add j) = some (.int .i64 gs[q].sh[j]) := by
  obtain ⟨a, cp, -, -, -, -, hrow⟩ := h.facts
  obtain ⟨y, -, -, -, -, -, -, -, ⟨E1, r1⟩, -⟩ := hrow q hq
  rw [hv] at r1
  exact read_cellI r1 (by rw [List.getElem?_map, List.getElem?_eq_getElem hj]; rfl)
theorem CrX.vote (h : CrX w0 w c v gs R rows) {q : Nat} (hq : q < gs.length) {s : Option Addr} {t k : Nat} (hv : gs[q].vv = .slice s t k) {j : Nat} (hj : j < gs[q].vo.length) : ∃ z : Addr, s = some z ∧ z.spot = none ∧ w.cell? (z.add j) = some (.int .i64 gs[q].vo[j]) := by
  obtain ⟨a, cp, -, -, -, -, hrow⟩ := h.facts
  obtain ⟨y, -, -, -, -, -, -, -, -, ⟨E2, r2⟩, -⟩ := hrow q hq
  rw [hv] at r2
  exact read_cellI r2 (by rw [List.getElem?_map, List.getElem?_eq_getElem hj]; rfl)
set_option maxRecDepth 100000 in
set_option maxHeartbeats 8000000 in
theorem cr_put (h : Cr w0 w c T R rows) (hnd : (T.map (·.1)).Nodup) :
    Calls Try.prog 31 #[.pointer (some ⟨c, 0, none⟩)] w fun e w' => ∃ v, e = .returned v ∧ Cr w0 w' c T (ThRow 1 v ((bytesO T).map bv) :: R) rows := by
  obtain ⟨v, gs, hT, hX⟩ := h
  obtain ⟨a, cp, rfl, c0, hcp, hcm, -⟩ := hX.facts
  unfold maxLen at hcm
  have h1000 := hX.few
  have hTl : T.length = gs.length := by rw [← hT, List.length_map]
  have hTg : ∀ q (hq : q < gs.length), T[q]'(by omega) = gs[q].ent := fun q hq => by simp only [← hT, List.getElem_map]
  have hle : ∀ e ∈ T, e.2.shards.length ≤ 4 ∧ e.2.votes.length ≤ 4 ∧ e.2.owes.length ≤ 4 := fun e he => by
    rw [← hT] at he
    obtain ⟨g, hg, rfl⟩ := List.mem_map.1 he
    obtain ⟨b1, b2, b3⟩ := hX.wf g hg
    have := owesL_len g.sh g.dn
    exact ⟨b3, by show g.vo.length ≤ 4; omega, by show (owesL g.sh g.dn).length ≤ 4; omega⟩
  have H0 := Lib.hid hX.nilRow
  have HQ := Lib.hid (show _ ∧ _ ∧ _ ∧ _ from ⟨hT, hTg, hnd, hle⟩)
  clear hX hT hTg hnd hle
  go_enter Try.func31, Try.ntmps31
  go_wp2_with fail
  refine (H0.out.i64 (gs.length : Int) (by simp)).mono ?_
  rintro e w1 ⟨b1, rfl, h1⟩
  have H1 := Lib.hid (show CrX w0 w1 c (.slice a gs.length cp) gs (ThRow 1 b1 ((packI T.length ++ (T.take 0).flatMap (fun e => entB e.1 e.2)).map bv) :: R) rows from by rw [hTl]; simpa using h1)
  clear h1 H0 c0
  go_wp2_with fail
  go_loopg [3, 4] gs.length (fun k vb vi wr => ∃ q : Nat, q ≤ gs.length ∧ k = gs.length - q ∧ vi = .int .i64 (q : Int) ∧ CrX w0 wr c (.slice a gs.length cp) gs (ThRow 1 vb ((packI T.length ++ (T.take q).flatMap (fun e => entB e.1 e.2)).map bv) :: R) rows)
  case atStart => exact ⟨0, Nat.zero_le _, rfl, rfl, H1.out⟩
  case round =>
    clear H1
    obtain ⟨q, hq, hk, hvi, hX⟩ := hrel
    subst hvi
    obtain ⟨a', cp', hv', c0, -, -, hrow⟩ := hX.facts
    cases hv'
    have hbl := bytes_take_len HQ.out.2.2.2 q
    by_cases hlt : q < gs.length
    case neg =>
      have HF := Lib.hid (show Cr w0 wr c T (ThRow 1 u3 ((bytesO T).map bv) :: R) rows from ⟨_, gs, HQ.out.1, by
        have := hX
        rw [List.take_of_length_le (by omega)] at this
        exact this⟩)
      clear hX hrow hbl
      go_wp2_with fail
      go_ret
      exact ⟨_, rfl, HF.out⟩
    case pos =>
    obtain ⟨y, rfl, hys, e0, e1, e2, e3, e4, ⟨E1, r1⟩, ⟨E2, r2⟩, E3, r3⟩ := hrow q hlt
    obtain ⟨s1, t1, k1, hvs, hl1, hn1, hc1, -⟩ := r1
    obtain ⟨s2, t2, k2, hvv, hl2, hn2, hc2, -⟩ := r2
    obtain ⟨s3, t3, k3, hvd, hl3, hn3, hc3, -⟩ := r3
    rw [List.length_map, Nat.mul_one] at hl1 hl2 hl3
    obtain ⟨wf1, wf2, wf3⟩ := hX.wf gs[q] (List.getElem_mem hlt)
    unfold maxLen at hc1 hc2 hc3
    rw [hvs] at e1
    rw [hvv] at e2
    rw [hvd] at e4
    obtain ⟨iq, hiq⟩ : ∃ iq, gs[q].id = iq := ⟨_, rfl⟩
    obtain ⟨hq2, hhq2⟩ : ∃ hq2, gs[q].how = hq2 := ⟨_, rfl⟩
    rw [hiq] at e0
    rw [hhq2] at e3
    have hX2 := hX.newCell (.cells #[.int .i64 iq, .slice s1 t1 k1, .slice s2 t2 k2, .int .i64 hq2, .slice s3 t3 k3] 85 (0, 0))
    have HX2 := Lib.hid (hX2.permR (List.Perm.swap _ _ _))
    have HV := Lib.hid (show _ ∧ _ ∧ _ ∧ _ from ⟨hvs, hvv, hiq, hhq2⟩)
    clear hX hX2 hrow hvs hvv hvd hiq hhq2
    go_wp2_with fail
    obtain ⟨bx, hbx⟩ : ∃ z, z = wr.heap.size := ⟨_, rfl⟩
    obtain ⟨wb, hwb⟩ : ∃ z, z = wr.alloc (.cells #[.int .i64 iq, .slice s1 t1 k1, .slice s2 t2 k2, .int .i64 hq2, .slice s3 t3 k3] 85 (0, 0)) := ⟨_, rfl⟩
    rw [← hbx] at HX2 ⊢
    rw [← hwb] at HX2 ⊢
    clear hbx hwb c0 e0 e1 e2 e3 e4
    obtain ⟨BA, hBA⟩ : ∃ BA, packI T.length ++ (T.take q).flatMap (fun e => entB e.1 e.2) = BA := ⟨_, rfl⟩
    have hBl : BA.length ≤ 8 + 200 * 1000 := by rw [← hBA, List.length_append, packI_len]; omega
    rw [hBA] at HX2
    have HBA := Lib.hid hBA
    clear hBA hbl
    have HX2 := Lib.hid (HX2.out.keep (Upd.refl wb []).drew)
    have HC2 := Lib.hid (one_cells (HX2.out.blkR (b := bx) (List.mem_cons_of_mem _ (List.mem_cons_self ..))))
    refine wp_region_M (fun W => W.cell? ⟨bx, 0, none⟩ = some (.int .i64 iq) ∧ W.cell? ⟨bx, 1, none⟩ = some (.slice s1 t1 k1)) 8 (by kernel_rfl) ?_
    refine wpAnyM_take (by kernel_rfl) (by intro c a d v w h; cases d <;> exact h) [(0, false), (1, false), (2, true), (4, false), (5, true), (6, false)] (fuel := 3) (by kernel_rfl) ?_
    apply Exists.intro; refine ⟨?_, ⟨HC2.out.1, HC2.out.2.1⟩, ?_⟩
    · iterate 6 ((first | (apply yieldN; (· (simp only [List.getElem?_toArray, List.getElem?_cons_succ, List.getElem?_cons_zero]; try rfl)); (· rfl)) | ((first | apply yieldP | apply yieldL); (· (simp only [List.getElem?_toArray, List.getElem?_cons_succ, List.getElem?_cons_zero]; try rfl)); (· rfl); (· (intros; go_simp; try with_reducible rfl)))); (· (simp only [Act.put, List.setIfInBounds_toArray, List.set_cons_zero, List.set_cons_succ]; try rfl)))
      exact rfl
    refine wpAnyM_one (fuel := 2) (i := 3) (by kernel_rfl) (by rfl) (fun K hK => ?_)    -- CALL
    go_wp2_with fail
    refine (HX2.out.i64 iq (by omega)).mono ?_
    rintro e w5 ⟨b5, rfl, h5⟩
    have H5 := Lib.hid h5
    have HC5 := Lib.hid (one_cells (h5.blkR (b := bx) (List.mem_cons_of_mem _ (List.mem_cons_self ..))))
    clear h5 HX2 HC2
    go_wp2_with fail
    refine hK _ _ ⟨HC5.out.1, HC5.out.2.1⟩ ?_
    clear hK
    refine wpAnyM_one (fuel := 1) (i := 7) (by kernel_rfl) (by rfl) (fun K hK => ?_)    -- CALL
    go_wp2_with fail
    refine (H5.out.i64 (t1 : Int) (by rw [List.length_append, packI_len]; omega)).mono ?_
    rintro e w6 ⟨b6, rfl, h6⟩
    have H6 := Lib.hid (show CrX w0 w6 c (.slice (some y) gs.length cp) gs (ThRow 1 b6 ((BA ++ packI iq ++ packI t1 ++ (gs[q].sh.take 0).flatMap packI).map bv) :: ThCell bx _ :: R) rows from by simpa using h6)
    have HC6 := Lib.hid (one_cells (h6.blkR (b := bx) (List.mem_cons_of_mem _ (List.mem_cons_self ..))))
    clear h6 H5 HC5
    go_wp2_with fail
    refine hK _ _ ⟨HC6.out.1, HC6.out.2.1⟩ ?_
    clear hK HC6
    refine wpAnyM_of_any _ _ _ _ (by decide) ?_
    refine wpAny_list [8] (fuel := 0) (by kernel_rfl) ?_
    simp only [List.filterMap_cons, List.filterMap_nil, List.getElem?_toArray, List.getElem?_cons_succ, List.getElem?_cons_zero]
    go_wp2_with fail
    have ht14 : t1 ≤ 4 := by omega
    have ht24 : t2 ≤ 4 := by omega
    go_loopg [3, 6] t1 (fun k vb vk wr => ∃ j : Nat, j ≤ t1 ∧ k = t1 - j ∧ vk = .int .i64 (j : Int) ∧ CrX w0 wr c (.slice (some y) gs.length cp) gs (ThRow 1 vb ((BA ++ packI iq ++ packI t1 ++ (gs[q].sh.take j).flatMap packI).map bv) :: ThCell bx (.cells #[.int .i64 iq, .slice s1 t1 k1, .slice s2 t2 k2, .int .i64 hq2, .slice s3 t3 k3] 85 (0, 0)) :: R) rows)
    case atStart => exact ⟨0, Nat.zero_le _, rfl, rfl, H6.out⟩
    case round =>
      clear H6
      obtain ⟨j, hj, hkj, hvk, hXj⟩ := hrel
      subst hvk
      obtain ⟨d0, d1, d2, d3, d4⟩ := one_cells (hXj.blkR (b := bx) (List.mem_cons_of_mem _ (List.mem_cons_self ..)))
      have HXJ := Lib.hid hXj
      by_cases hjt : j < t1
      · obtain ⟨z, rfl, hzs, f0⟩ := hXj.shard hlt HV.out.1 (j := j) (by omega)
        obtain ⟨sj, hsj⟩ : ∃ sj, gs[q].sh[j]'(by omega) = sj := ⟨_, rfl⟩
        rw [hsj] at f0
        have HNX := Lib.hid (show (gs[q].sh.take (j + 1)).flatMap packI = (gs[q].sh.take j).flatMap packI ++ packI sj from by rw [flatI_take (by omega), hsj])
        clear hXj d0 d2 d3 d4
        go_wp2_with fail
        refine (HXJ.out.i64 sj (by simp only [List.length_append, packI_len, flatI_len, List.length_take]; omega)).mono ?_
        rintro e w7 ⟨b7, rfl, h7⟩
        have H7 := Lib.hid h7
        clear h7 f0 d1 hsj
        go_wp2_with fail
        go_roundg (t1 - (j + 1))
        case rel => exact ⟨j + 1, by omega, rfl, by go_num, by rw [HNX.out, ← List.append_assoc]; exact H7.out⟩
        case measure => omega
      obtain rfl : j = t1 := by omega
      have H8 := Lib.hid (show CrX w0 wr c (.slice (some y) gs.length cp) gs (ThRow 1 u3 ((BA ++ packI iq ++ packI j ++ gs[q].sh.flatMap packI ++ (gs[q].vo.take 0).flatMap packI).map bv) :: ThCell bx (.cells #[.int .i64 iq, .slice s1 j k1, .slice s2 t2 k2, .int .i64 hq2, .slice s3 t3 k3] 85 (0, 0)) :: R) rows from by
        have := hXj
        rw [List.take_of_length_le (show gs[q].sh.length ≤ j by omega)] at this
        simpa using this)
      clear hXj d0 d2 d3 d4 HXJ
      go_wp2_with fail
      clear d1
      go_loopg [3, 7] t2 (fun k vb vk wr => ∃ m : Nat, m ≤ t2 ∧ k = t2 - m ∧ vk = .int .i64 (m : Int) ∧ CrX w0 wr c (.slice (some y) gs.length cp) gs (ThRow 1 vb ((BA ++ packI iq ++ packI j ++ gs[q].sh.flatMap packI ++ (gs[q].vo.take m).flatMap packI).map bv) :: ThCell bx (.cells #[.int .i64 iq, .slice s1 j k1, .slice s2 t2 k2, .int .i64 hq2, .slice s3 t3 k3] 85 (0, 0)) :: R) rows)
      case atStart => exact ⟨0, Nat.zero_le _, rfl, rfl, H8.out⟩
      case round =>
        clear H8
        obtain ⟨m, hm, hkm, hvk2, hXm⟩ := hrel
        subst hvk2
        obtain ⟨d0, d1, d2, d3, d4⟩ := one_cells (hXm.blkR (b := bx) (List.mem_cons_of_mem _ (List.mem_cons_self ..)))
        have HXM := Lib.hid hXm
        by_cases hmt : m < t2
        · obtain ⟨z, rfl, hzs, f0⟩ := hXm.vote hlt HV.out.2.1 (j := m) (by omega)
          obtain ⟨sj, hsj⟩ : ∃ sj, gs[q].vo[m]'(by omega) = sj := ⟨_, rfl⟩
          rw [hsj] at f0
          have HNX := Lib.hid (show (gs[q].vo.take (m + 1)).flatMap packI = (gs[q].vo.take m).flatMap packI ++ packI sj from by rw [flatI_take (by omega), hsj])
          clear hXm d0 d1 d3 d4
          go_wp2_with fail
          refine (HXM.out.i64 sj (by simp only [List.length_append, packI_len, flatI_len, List.length_take]; omega)).mono ?_
          rintro e w7 ⟨b7, rfl, h7⟩
          have H7 := Lib.hid h7
          clear h7 f0 d2 hsj
          go_wp2_with fail
          go_roundg (t2 - (m + 1))
          case rel => exact ⟨m + 1, by omega, rfl, by go_num, by rw [HNX.out, ← List.append_assoc]; exact H7.out⟩
          case measure => omega
        obtain rfl : m = t2 := by omega
        have hvf : (gs[q].vo.take m).flatMap packI = gs[q].vo.flatMap packI := by rw [List.take_of_length_le (show gs[q].vo.length ≤ m by omega)]
        rw [hvf] at HXM
        obtain ⟨BB, hBB⟩ : ∃ BB, BA ++ packI iq ++ packI j ++ gs[q].sh.flatMap packI ++ gs[q].vo.flatMap packI = BB := ⟨_, rfl⟩
        have hBBl : BB.length ≤ 300000 := by rw [← hBB]; simp only [List.length_append, packI_len, flatI_len]; omega
        rw [hBB] at HXM
        have HBB := Lib.hid hBB
        have how2 : owesS T iq = owesL gs[q].sh gs[q].dn := by
          unfold owesS
          have := look_at HQ.out.2.2.1 (p := q) (by omega)
          rw [HQ.out.2.1 q hlt] at this
          have hge : gs[q].ent.1 = iq := HV.out.2.2.1
          rw [hge] at this
          rw [this]
          rfl
        have hoL := owesL_len gs[q].sh gs[q].dn
        have HOW := Lib.hid (cr_owes (T := T) ⟨_, gs, HQ.out.1, HXM.out⟩ iq)
        rw [how2] at HOW
        obtain ⟨ow, how⟩ : ∃ ow, owesL gs[q].sh gs[q].dn = ow := ⟨_, rfl⟩
        rw [how] at HOW hoL
        have HHO := Lib.hid how
        clear hXm hvf hBB how2 how
        go_wp2_with fail
        refine HOW.out.mono ?_
        rintro e w9 ⟨v9, D9, rfl, h9, hu9⟩
        obtain ⟨a9, n9, k9, rfl, hl9, hn9, hk9, -⟩ := _root_.id h9
        rw [List.length_map, Nat.mul_one] at hl9
        subst hl9
        unfold maxLen at hk9
        have h9' := (HXM.out.addR (X := ThRow 1 (.slice a9 ow.length k9) (ow.map iv)) hu9 h9).permR (List.Perm.swap _ _ _)
        have H9 := Lib.hid h9'
        obtain ⟨d0, d1, d2, d3, d4⟩ := one_cells (h9'.blkR (b := bx) (List.mem_cons_of_mem _ (List.mem_cons_of_mem _ (List.mem_cons_self ..))))
        clear h9 hu9 h9' HXM HOW d0 d1 d2 d4
        go_wp2_with fail
        refine (H9.out.i64 hq2 (by omega)).mono ?_
        rintro e w10 ⟨b10, rfl, h10⟩
        have H10 := Lib.hid h10
        clear h10 H9 d3
        go_wp2_with fail
        refine (H10.out.i64 (ow.length : Int) (by rw [List.length_append, packI_len]; omega)).mono ?_
        rintro e w11 ⟨b11, rfl, h11⟩
        have H11 := Lib.hid (show CrX w0 w11 c (.slice (some y) gs.length cp) gs (ThRow 1 b11 ((BB ++ packI hq2 ++ packI ow.length ++ (ow.take 0).flatMap packI).map bv) :: ThRow 1 (.slice a9 ow.length k9) (ow.map iv) :: ThCell bx (.cells #[.int .i64 iq, .slice s1 j k1, .slice s2 m k2, .int .i64 hq2, .slice s3 t3 k3] 85 (0, 0)) :: R) rows from by simpa using h11)
        clear h11 H10
        go_wp2_with fail
        go_loopg [3, 9] ow.length (fun k vb vk wr => ∃ r : Nat, r ≤ ow.length ∧ k = ow.length - r ∧ vk = .int .i64 (r : Int) ∧ CrX w0 wr c (.slice (some y) gs.length cp) gs (ThRow 1 vb ((BB ++ packI hq2 ++ packI ow.length ++ (ow.take r).flatMap packI).map bv) :: ThRow 1 (.slice a9 ow.length k9) (ow.map iv) :: ThCell bx (.cells #[.int .i64 iq, .slice s1 j k1, .slice s2 m k2, .int .i64 hq2, .slice s3 t3 k3] 85 (0, 0)) :: R) rows)
        case atStart => exact ⟨0, Nat.zero_le _, rfl, rfl, H11.out⟩
        case round =>
          clear H11
          obtain ⟨r, hr, hkr, hvk3, hXr⟩ := hrel
          subst hvk3
          have HXR := Lib.hid hXr
          by_cases hrt : r < ow.length
          · obtain ⟨E9, hE9⟩ := hXr.readI (u := .slice a9 ow.length k9) (xs := ow) (by simp)
            obtain ⟨z, rfl, hzs, f0⟩ := read_cellI hE9 (i := r) (x := iv ow[r]) (by rw [List.getElem?_map, List.getElem?_eq_getElem hrt]; rfl)
            obtain ⟨sj, hsj⟩ : ∃ sj, ow[r] = sj := ⟨_, rfl⟩
            rw [hsj] at f0
            unfold iv at f0
            have HNX := Lib.hid (show (ow.take (r + 1)).flatMap packI = (ow.take r).flatMap packI ++ packI sj from by rw [flatI_take hrt, hsj])
            clear hXr hE9
            go_wp2_with fail
            refine (HXR.out.i64 sj (by simp only [List.length_append, packI_len, flatI_len, List.length_take]; omega)).mono ?_
            rintro e w7 ⟨b7, rfl, h7⟩
            have H7 := Lib.hid h7
            clear h7 f0 hsj
            go_wp2_with fail
            go_roundg (ow.length - (r + 1))
            case rel => exact ⟨r + 1, by omega, rfl, by go_num, by rw [HNX.out, ← List.append_assoc]; exact H7.out⟩
            case measure => omega
          obtain rfl : r = ow.length := by omega
          have HEND := Lib.hid (show CrX w0 wr c (.slice (some y) gs.length cp) gs (ThRow 1 u3 ((packI T.length ++ (T.take (q + 1)).flatMap (fun e => entB e.1 e.2)).map bv) :: R) rows from by
            have h1 := hXr
            rw [List.take_of_length_le (Nat.le_refl _)] at h1
            have e : packI T.length ++ (T.take (q + 1)).flatMap (fun e => entB e.1 e.2) = BB ++ packI hq2 ++ packI ow.length ++ ow.flatMap packI := by
              rw [List.take_succ_eq_append_getElem (show q < T.length by omega), List.flatMap_append, HQ.out.2.1 q hlt, ← HBB.out, ← HBA.out]
              simp only [List.flatMap_cons, List.flatMap_nil, List.append_nil, List.append_assoc]
              congr 2
              show entB gs[q].id ⟨gs[q].sh, gs[q].vo, gs[q].how, owesL gs[q].sh gs[q].dn⟩ = _
              unfold entB numsS
              dsimp only
              rw [HV.out.2.2.1, HV.out.2.2.2, HHO.out, show gs[q].sh.length = j by omega]
              simp only [List.append_assoc]
            rw [e]
            have h2 := h1.permR (R' := ThRow 1 (.slice a9 ow.length k9) (ow.map iv) :: ThCell bx (.cells #[.int .i64 iq, .slice s1 j k1, .slice s2 m k2, .int .i64 hq2, .slice s3 t3 k3] 85 (0, 0)) :: ThRow 1 u3 ((BB ++ packI hq2 ++ packI ow.length ++ ow.flatMap packI).map bv) :: R) (List.perm_middle (l₁ := [_, _])).symm
            exact CrX.sub (A := [_, _]) h2)
          clear hXr HXR
          go_wp2_with fail
          go_roundg (gs.length - (q + 1))
          case rel => exact ⟨q + 1, by omega, rfl, by go_num, HEND.out⟩
          case measure => omega
end
end Go.Proofs.Ytebmmbommkpjaaa

/-
  Decisions in bytes: all is written.
-/
namespace Go.Proofs.Ytebmmbommkpjaaa
open Go.RowKit Go.Av

section
variable {w0 w : World} {c : Nat} {S : CoS} {R : List Thing} {rows : List (Value × Bs)}

/-- What stands beside, taken up by itself; and laid back. -/
theorem Co.side {A : List Thing} (h : Co w0 w c S (A ++ R) rows) : ∃ X, Sep w0 w (A ++ X) rows ∧ ∀ (w' : World) (A' : List Thing), Sep w0 w' (A' ++ X) rows → Co w0 w' c S (A' ++ R) rows := by
  obtain ⟨m, gs, h1, h2, hS⟩ := h
  have e : ∀ B : List Thing, (B ++ (coHead c m (gs.map EntG.kv) ++ (gs.flatMap EntG.th ++ R))).Perm (coHead c m (gs.map EntG.kv) ++ (gs.flatMap EntG.th ++ (B ++ R))) := fun B => by
    refine (List.perm_append_comm_assoc _ _ _).trans (List.Perm.append_left _ ?_)
    exact List.perm_append_comm_assoc _ _ _
  exact ⟨_, hS.perm (e A).symm, fun w' A' hS' => ⟨m, gs, h1, h2, hS'.perm (e A')⟩⟩

/-- A number is written behind an owned row. -/
theorem packSep {v : Value} {l : Bs} (h : Sep w0 w (ThRow 1 v (l.map bv) :: R) rows) (x : Int) (hl : l.length ≤ 1073741824) :
    Calls Try.prog 51 #[v, .int .i64 x] w fun e w' => ∃ v', e = .returned v' ∧ Sep w0 w' (ThRow 1 v' ((l ++ packI x).map bv) :: R) rows := by
  obtain ⟨E, hE⟩ := h.readRow
  refine (pack_any v l E x w hE hl).mono ?_
  rintro e w' ⟨v', D, rfl, ho, hu⟩
  exact ⟨v', rfl, (h.drop).addRow ho hu⟩
theorem numsSep {v u : Value} {l : Bs} {xs : List Int} (h : Sep w0 w (ThRow 1 v (l.map bv) :: R) rows) (hu : ThRow 1 u (xs.map iv) ∈ R) (hl : l.length ≤ 1000000) (hx : xs.length ≤ 1000) :
    Calls Try.prog 52 #[v, u] w fun e w' => ∃ v', e = .returned v' ∧ Sep w0 w' (ThRow 1 v' ((l ++ numsS xs).map bv) :: R) rows := by
  obtain ⟨E, hE⟩ := h.readRow
  obtain ⟨F, hF⟩ := h.has (T := ThRow 1 u (xs.map iv)) (by simp [hu])
  obtain ⟨F', hF', -⟩ := OwnRow.read hF
  refine (numbers_any v u l xs E F' w hE hF' hl hx).mono ?_
  rintro e w' ⟨v', D, rfl, ho, hu⟩
  exact ⟨v', rfl, (h.drop).addRow ho hu⟩

theorem Co.packC {v : Value} {l : Bs} (h : Co w0 w c S (ThRow 1 v (l.map bv) :: R) rows) (x : Int) (hl : l.length ≤ 1073741824) :
    Calls Try.prog 51 #[v, .int .i64 x] w fun e w' => ∃ v', e = .returned v' ∧ Co w0 w' c S (ThRow 1 v' ((l ++ packI x).map bv) :: R) rows := by
  obtain ⟨X, hS, hb⟩ := Co.side (A := [_]) h
  refine (packSep hS x hl).mono ?_
  rintro e w' ⟨v', rfl, h'⟩
  exact ⟨v', rfl, hb _ [_] h'⟩
end

section
variable {w0 w : World} {c m : Nat} {S : CoS} {l1 l2 : List EntG} {g : EntG} {R : List Thing} {T : Thing} {rows : List (Value × Bs)}
/-- The same with one entry taken up. -/
theorem CoF.side {A : List Thing} (h : CoF w0 w c m l1 g l2 (A ++ R) rows) : ∃ X, Sep w0 w (A ++ (g.th ++ X)) rows ∧ ∀ (w' : World) (A' : List Thing), Sep w0 w' (A' ++ (g.th ++ X)) rows → CoF w0 w' c m l1 g l2 (A' ++ R) rows := by
  obtain ⟨h1, hS⟩ := h
  have e : ∀ B : List Thing, (B ++ (g.th ++ (coHead c m ((l1 ++ g :: l2).map EntG.kv) ++ ((l1 ++ l2).flatMap EntG.th ++ R)))).Perm (g.th ++ (coHead c m ((l1 ++ g :: l2).map EntG.kv) ++ ((l1 ++ l2).flatMap EntG.th ++ (B ++ R)))) := fun B => by
    refine (List.perm_append_comm_assoc _ _ _).trans (List.Perm.append_left _ ?_)
    refine (List.perm_append_comm_assoc _ _ _).trans (List.Perm.append_left _ ?_)
    exact List.perm_append_comm_assoc _ _ _
  exact ⟨_, hS.perm (e A).symm, fun w' A' hS' => ⟨h1, hS'.perm (e A')⟩⟩
theorem CoF.packC {v : Value} {l : Bs} (h : CoF w0 w c m l1 g l2 (ThRow 1 v (l.map bv) :: R) rows) (x : Int) (hl : l.length ≤ 1073741824) :
    Calls Try.prog 51 #[v, .int .i64 x] w fun e w' => ∃ v', e = .returned v' ∧ CoF w0 w' c m l1 g l2 (ThRow 1 v' ((l ++ packI x).map bv) :: R) rows := by
  obtain ⟨X, hS, hb⟩ := CoF.side (A := [_]) h
  refine (packSep hS x hl).mono ?_
  rintro e w' ⟨v', rfl, h'⟩
  exact ⟨v', rfl, hb _ [_] h'⟩
theorem CoF.numsC {v u : Value} {l : Bs} {xs : List Int} (h : CoF w0 w c m l1 g l2 (ThRow 1 v (l.map bv) :: R) rows) (hu : ThRow 1 u (xs.map iv) ∈ g.th) (hl : l.length ≤ 1000000) (hx : xs.length ≤ 1000) :
    Calls Try.prog 52 #[v, u] w fun e w' => ∃ v', e = .returned v' ∧ CoF w0 w' c m l1 g l2 (ThRow 1 v' ((l ++ numsS xs).map bv) :: R) rows := by
  obtain ⟨X, hS, hb⟩ := CoF.side (A := [_]) h
  refine (numsSep hS (by simp [hu]) hl hx).mono ?_
  rintro e w' ⟨v', rfl, h'⟩
  exact ⟨v', rfl, hb _ [_] h'⟩
theorem CoF.row {v : Value} {xs : List Value} (h : CoF w0 w c m l1 g l2 R rows) (hv : ThRow 1 v xs ∈ g.th) : ∃ a n cp, v = .slice a n cp ∧ xs.length = n ∧ n ≤ cp ∧ cp ≤ maxLen ∧ ∀ {i : Nat} {x : Value}, xs[i]? = some x → ∃ y : Addr, a = some y ∧ y.spot = none ∧ w.cell? (y.add i) = some x := by
  obtain ⟨D, hD⟩ := h.2.has (T := ThRow 1 v xs) (by simp [hv])
  obtain ⟨a, n, cp, rfl, hl, hn, hm, -⟩ := id hD
  exact ⟨a, n, cp, rfl, by omega, hn, hm, fun hx => ownCell hD hx⟩
theorem CoF.permR (h : CoF w0 w c m l1 g l2 R rows) {R' : List Thing} (hp : R.Perm R') : CoF w0 w c m l1 g l2 R' rows := by
  obtain ⟨h1, hS⟩ := h
  exact ⟨h1, hS.perm (List.Perm.append_left _ (List.Perm.append_left _ (List.Perm.append_left _ hp)))⟩
end
end Go.Proofs.Ytebmmbommkpjaaa

/-
  Decisions read: can calls have made an entry?
-/
namespace Go.Proofs.Ytebmmbommkpjaaa
open Go.RowKit Go.Av

theorem idxF_any (k : Int) : ∀ l : List Int, (match idxF k l with | none => false | some _ => true) = l.contains k
  | [] => rfl
  | x :: r => by
    rw [idxF_cons, List.contains_cons, ← idxF_any k r]
    by_cases h : x = k
    · rw [if_pos h]; simp [h]
    · rw [if_neg h]
      have : (k == x) = false := beq_eq_false_iff_ne.2 fun e => h e.symm
      rw [this]
      cases idxF k r <;> rfl
theorem idxS_any (k : Int) (l : List Int) : decide (0 ≤ idxS k l) = l.contains k := by
  rw [← idxF_any k l]
  unfold idxS
  cases idxF k l with
  | none => rfl
  | some i => simp
theorem contains_any (v : Value) (l : List Int) (k : Int) (E : List Nat) (w : World) (h : ReadRow w 1 v (l.map iv) E) :
    Calls Try.prog 66 #[v, .int .i64 k] w fun e w' => e = .returned (.bool (l.contains k)) ∧ w' = w := by
  have hi := index_any v l k E w h
  have ha := idxS_any k l
  obtain ⟨j, hj⟩ : ∃ j, idxS k l = j := ⟨_, rfl⟩
  rw [hj] at hi ha
  rw [← ha]
  have HI := Lib.hid hi
  clear hi hj ha h
  go_enter Try.func66, Try.ntmps66
  go_wp2_with fail
  refine HI.out.mono ?_
  rintro e w1 ⟨rfl, rfl⟩
  go_wp2_with fail
  go_ret
  exact ⟨rfl, rfl⟩
theorem good1_any (x : Int) (q p : Nat) (vs vv vo : Value) (dec : Int) (l : List Int) (E : List Nat) (w : World) (hq : w.cell? ⟨q, 0, none⟩ = some (.pointer (some ⟨p, 0, none⟩)))
    (hp : w.cell? ⟨p, 0, none⟩ = some vs) (h : ReadRow w 1 vs (l.map iv) E) :
    Calls Try.prog 65 #[.int .i64 x, .pointer (some ⟨q, 0, none⟩)] w fun e w' => e = .returned (.bool (!(l.contains x))) ∧ w' = w := by
  have HC := Lib.hid (contains_any vs l x E w h)
  clear h
  obtain ⟨b, hb⟩ : ∃ b, l.contains x = b := ⟨_, rfl⟩
  rw [hb] at HC ⊢
  clear hb
  go_enter Try.func65, Try.ntmps65
  go_wp2_with fail
  refine HC.out.mono ?_
  rintro e w1 ⟨rfl, rfl⟩
  go_wp2_with fail
  go_ret
  exact ⟨rfl, rfl⟩
theorem containsG_any (v : Value) (l : List Int) (q : Nat) (φ : Int → Bool) (E : List Nat) (w : World) (h : ReadRow w 1 v (l.map iv) E)
    (hq : ∀ x, Calls Try.prog 65 #[.int .i64 x, .pointer (some ⟨q, 0, none⟩)] w fun e w' => e = .returned (.bool (φ x)) ∧ w' = w) :
    Calls Try.prog 58 #[v, .func (.func 65) #[] #[.pointer (some ⟨q, 0, none⟩)]] w fun e w' => e = .returned (.bool (l.any φ)) ∧ w' = w := by
  have hi := indexFunc_good v l ⟨q, 0, none⟩ φ E w h hq
  obtain ⟨k, hk⟩ : ∃ k, idxQ φ l = k := ⟨_, rfl⟩
  have ha := idxQ_any φ l
  rw [hk] at hi ha
  rw [← ha]
  have HI := Lib.hid hi
  clear hi hk ha h hq
  go_enter Try.func58, Try.ntmps58
  go_wp2_with fail
  refine HI.out.mono ?_
  rintro e w1 ⟨rfl, rfl⟩
  go_wp2_with fail
  go_ret
  exact ⟨rfl, rfl⟩

theorem wholeW_any (p : Nat) (vv : Value) (l : List Int) (E : List Nat) (w : World) (hp : w.cell? ⟨p, 1, none⟩ = some vv) (h : ReadRow w 1 vv (l.map iv) E) :
    Calls Try.prog 36 #[.pointer (some ⟨p, 0, none⟩)] w fun e w' => e = .returned (.bool (wholeS l)) ∧ w' = w := by
  have hw := containsW_any _ _ E w h
  have he : wholeS l = !(l.any fun x => x != 1) := by
    unfold wholeS
    rw [List.all_eq_not_any_not]
    rfl
  obtain ⟨b, hb⟩ : ∃ b, (l.any fun x => x != 1) = b := ⟨_, rfl⟩
  rw [he, hb]
  rw [hb] at hw
  have HW := Lib.hid hw
  clear h hw he hb
  go_enter Try.func36, Try.ntmps36
  go_wp2_with fail
  refine HW.out.mono ?_
  rintro e w1 ⟨rfl, rfl⟩
  go_wp2_with fail
  go_ret
  exact ⟨rfl, rfl⟩

theorem against_step (l : List Int) (p : Nat) (hp : p < l.length) : againstS (l.take (p + 1)) = againstS (l.take p) + if l[p] == 2 then 1 else 0 := by
  unfold againstS
  rw [List.take_succ_eq_append_getElem hp, List.countP_append, List.countP_cons, List.countP_nil]
  simp
theorem against_le (l : List Int) : againstS l ≤ l.length := List.countP_le_length
theorem goodS_eq (x : EntS) (b1 b2 b3 b4 b5 : Bool) (h1 : ((x.shards.length : Int) == 0) = b1) (h2 : risS x.shards = b2) (h3 : risS x.owes = b3) (h4 : (x.owes.any fun s => !(x.shards.contains s)) = b4) (h5 : decide (1 < (againstS x.votes : Int)) = b5) :
    goodS x = if (b1 || !b2 || !b3 || b4 || b5) = true then false else
      if x.dec = 0 then ((againstS x.votes : Int) == 0) && !wholeS x.votes && ((x.owes.length : Int) == (x.shards.length : Int)) else if x.dec = 1 then wholeS x.votes else !wholeS x.votes := by
  have e0 : ((againstS x.votes : Int) == 0) = decide (againstS x.votes = 0) := by rw [Bool.eq_iff_iff]; simp
  have e1 : ((x.owes.length : Int) == (x.shards.length : Int)) = decide (x.owes.length = x.shards.length) := by rw [Bool.eq_iff_iff]; simp; omega
  unfold goodS
  rw [e0, e1]
  congr 1
  · subst h1 h2 h3 h4 h5
    simp only [Bool.or_eq_true, Bool.not_eq_true', beq_iff_eq, decide_eq_true_eq, eq_iff_iff]
    constructor
    · rintro (h | h | h | h | h)
      · exact .inl (.inl (.inl (.inl (by omega))))
      · exact .inl (.inl (.inl (.inr h)))
      · exact .inl (.inl (.inr h))
      · exact .inl (.inr h)
      · exact .inr (by omega)
    · rintro ((((h | h) | h) | h) | h)
      · exact .inl (by omega)
      · exact .inr (.inl h)
      · exact .inr (.inr (.inl h))
      · exact .inr (.inr (.inr (.inl h)))
      · exact .inr (.inr (.inr (.inr (by omega))))

set_option maxRecDepth 100000 in
set_option maxHeartbeats 4000000 in
theorem good_any (w : World) (p : Nat) (x : EntS) (vs vv vo : Value) (Es Ev Eo : List Nat) (fr : Nat × Nat) (hp : w.heap[p]? = some (.cells #[vs, vv, .int .i64 x.dec, vo] 69 fr))
    (rs : ReadRow w 1 vs (x.shards.map iv) Es) (rv : ReadRow w 1 vv (x.votes.map iv) Ev) (ro : ReadRow w 1 vo (x.owes.map iv) Eo) :
    Calls Try.prog 46 #[.pointer (some ⟨p, 0, none⟩)] w fun e w' => e = .returned (.bool (goodS x)) ∧ Upd w w' [] [] := by
  have hu := Upd.alloc0 w (.cells #[.pointer (some ⟨p, 0, none⟩)] 66 (0, 0)) []
  have hq := heap_alloc_new w (.cells #[.pointer (some ⟨p, 0, none⟩)] 66 (0, 0))
  have hpl := lt_of_heap hp
  have hp1 := (hu.keep p hpl (by simp)).trans hp
  have rs1 := rs.frame (hu.same rs.lt (by simp))
  have rv1 := rv.frame (hu.same rv.lt (by simp))
  have ro1 := ro.frame (hu.same ro.lt (by simp))
  obtain ⟨q, hqq⟩ : ∃ q, q = w.heap.size := ⟨_, rfl⟩
  obtain ⟨w1, hw1⟩ : ∃ w1, w1 = w.alloc (.cells #[.pointer (some ⟨p, 0, none⟩)] 66 (0, 0)) := ⟨_, rfl⟩
  rw [← hw1] at hu hq hp1 rs1 rv1 ro1
  rw [← hqq] at hq
  obtain ⟨asl, ns, csl, rfl, -⟩ := id rs
  obtain ⟨av, nv, cv, rfl, -⟩ := id rv
  obtain ⟨ao, no, co, rfl, -⟩ := id ro
  obtain ⟨hns, hncs, hcms, -⟩ := row_cell rs
  obtain ⟨hnv, hncv, hcmv, hcell⟩ := row_cell rv1
  obtain ⟨hno, hnco, hcmo, -⟩ := row_cell ro
  rw [List.length_map] at hns hnv hno
  subst hns hnv hno
  unfold maxLen at hcms hcmv hcmo
  have k0 := cell_of hq 0 rfl
  have c0 := cell_of hp1 0 rfl
  have c1 := cell_of hp1 1 rfl
  have c2 := cell_of hp1 2 rfl
  have c3 := cell_of hp1 3 rfl
  have hg1 : ∀ y, Calls Try.prog 65 #[.int .i64 y, .pointer (some ⟨q, 0, none⟩)] w1 fun e w' => e = .returned (.bool (!(x.shards.contains y))) ∧ w' = w1 :=
    fun y => good1_any y q p _ (.slice av x.votes.length cv) (.slice ao x.owes.length co) x.dec x.shards Es w1 k0 c0 rs1
  have hco := containsG_any _ x.owes q (fun s => !(x.shards.contains s)) Eo w1 ro1 hg1
  have hr1 := rising_any _ _ _ w1 rs1
  have hr2 := rising_any _ _ _ w1 ro1
  have hwh := fun W (hW : W.heap = w1.heap) => wholeW_any p _ x.votes Ev W ((frozen_heap hW _).trans c1) (rv1.frame (fun b _ => by rw [hW]))
  obtain ⟨b1, h1⟩ : ∃ b, ((x.shards.length : Int) == 0) = b := ⟨_, rfl⟩
  obtain ⟨b2, h2⟩ : ∃ b, risS x.shards = b := ⟨_, rfl⟩
  obtain ⟨b3, h3⟩ : ∃ b, risS x.owes = b := ⟨_, rfl⟩
  obtain ⟨b4, h4⟩ : ∃ b, (x.owes.any fun s => !(x.shards.contains s)) = b := ⟨_, rfl⟩
  obtain ⟨b5, h5⟩ : ∃ b, decide (1 < (againstS x.votes : Int)) = b := ⟨_, rfl⟩
  obtain ⟨b6, h6⟩ : ∃ b, ((againstS x.votes : Int) == 0) = b := ⟨_, rfl⟩
  obtain ⟨b7, h7⟩ : ∃ b, wholeS x.votes = b := ⟨_, rfl⟩
  obtain ⟨b8, h8⟩ : ∃ b, ((x.owes.length : Int) == (x.shards.length : Int)) = b := ⟨_, rfl⟩
  have hgd := goodS_eq x b1 b2 b3 b4 b5 h1 h2 h3 h4 h5
  rw [h6, h7, h8] at hgd
  obtain ⟨dc, hdc⟩ : ∃ dc, x.dec = dc := ⟨_, rfl⟩
  rw [show (#[Value.slice asl x.shards.length csl, .slice av x.votes.length cv, .int .i64 x.dec, .slice ao x.owes.length co] : Array Value)[2] = .int .i64 dc by rw [hdc]; rfl] at c2
  rw [hdc] at hgd
  rw [hgd]
  clear hdc
  rw [h4] at hco
  rw [h2] at hr1
  rw [h3] at hr2
  simp only [h7] at hwh
  have HCO := Lib.hid hco
  have HR1 := Lib.hid hr1
  have HR2 := Lib.hid hr2
  have HWH := Lib.hid hwh
  have HC := Lib.hid hcell
  have HU := Lib.hid hu
  have HW1 := Lib.hid hw1
  have H1 := Lib.hid h1
  have H5 := Lib.hid h5
  have H6 := Lib.hid h6
  have H8 := Lib.hid h8
  clear hco hr1 hr2 hwh hcell hu hgd h1 h2 h3 h4 h5 h6 h7 h8 hg1 rs rv ro rs1 rv1 ro1 hp hp1 hq hpl
  have C1 := c1
  rw [hw1] at C1
  have HH := Lib.hid (show _ ∧ _ ∧ _ ∧ _ ∧ _ ∧ _ ∧ _ from ⟨hqq, hw1, k0, c0, c1, c2, c3⟩)
  clear hqq hw1 k0 c0 c1 c2 c3
  go_enter Try.func46, Try.ntmps46
  go_wp2_with fail
  rw [← HH.out.1, ← HH.out.2.1]
  obtain ⟨-, -, k0, c0, c1, c2, c3⟩ := HH.out
  clear C1
  go_loopg [3, 12] x.votes.length (fun k va vi wr => wr = w1 ∧ ∃ j : Nat, j ≤ x.votes.length ∧ k = x.votes.length - j ∧ vi = .int .i64 (j : Int) ∧ va = .int .i64 (againstS (x.votes.take j) : Int))
  case atStart => exact ⟨rfl, 0, Nat.zero_le _, rfl, rfl, rfl⟩
  case round =>
    obtain ⟨hW, j, hj, hk, hvi, hva⟩ := hrel
    subst wr hvi hva
    by_cases hlt : j < x.votes.length
    · obtain ⟨y, rfl, -, hcy0⟩ := HC.out (by omega)
      have hcy := hcy0 j (iv x.votes[j]) (by rw [List.getElem?_map, List.getElem?_eq_getElem hlt]; rfl)
      have hst := against_step x.votes j hlt
      have hle := against_le (x.votes.take j)
      rw [List.length_take] at hle
      obtain ⟨z, hz⟩ : ∃ z, x.votes[j] = z := ⟨_, rfl⟩
      rw [hz] at hcy hst
      unfold iv at hcy
      obtain ⟨ag, hag⟩ : ∃ ag, againstS (x.votes.take j) = ag := ⟨_, rfl⟩
      rw [hag] at hst hle ⊢
      have HST := Lib.hid hst
      clear hst hz hag hcy0
      by_cases h2 : z = 2
      · have hb : (z == 2) = true := by simp [h2]
        have HB := Lib.hid hb
        clear h2
        go_wp2_with fail
        go_roundg (x.votes.length - (j + 1))
        case rel => exact ⟨rfl, j + 1, by omega, rfl, by go_num, by rw [HST.out, HB.out]; rfl⟩
        case measure => omega
      · have hb : (z == 2) = false := by simp [h2]
        have HB := Lib.hid hb
        clear h2
        go_wp2_with fail
        go_roundg (x.votes.length - (j + 1))
        case rel => exact ⟨rfl, j + 1, by omega, rfl, by go_num, by rw [HST.out, HB.out]; rfl⟩
        case measure => omega
    obtain rfl : j = x.votes.length := by omega
    rw [List.take_length]
    have H1o := H1.out
    have H5o := H5.out
    have H6o := H6.out
    have H8o := H8.out
    obtain ⟨ag, hag⟩ : ∃ ag, againstS x.votes = ag := ⟨_, rfl⟩
    rw [hag] at H5o H6o ⊢
    clear hag H5 H6
    go_wp2_with fail
    refine HCO.out.mono ?_
    rintro e w2 ⟨rfl, hW⟩
    subst w2
    cases b1 with
    | true =>
      go_wp2_with fail
      go_ret
      exact ⟨by simp, HU.out⟩
    | false =>
    cases b2 with
    | false =>
      go_wp2_with fail
      refine HR1.out.mono ?_
      rintro e w2 ⟨rfl, hW⟩
      subst w2
      go_wp2_with fail
      go_ret
      exact ⟨by simp, HU.out⟩
    | true =>
    cases b3 with
    | false =>
      go_wp2_with fail
      refine HR1.out.mono ?_
      rintro e w2 ⟨rfl, hW⟩
      subst w2
      go_wp2_with fail
      refine HR2.out.mono ?_
      rintro e w2 ⟨rfl, hW⟩
      subst w2
      go_wp2_with fail
      go_ret
      exact ⟨by simp, HU.out⟩
    | true =>
    cases b4 with
    | true =>
      go_wp2_with fail
      refine HR1.out.mono ?_
      rintro e w2 ⟨rfl, hW⟩
      subst w2
      go_wp2_with fail
      refine HR2.out.mono ?_
      rintro e w2 ⟨rfl, hW⟩
      subst w2
      go_wp2_with fail
      go_ret
      exact ⟨by simp, HU.out⟩
    | false =>
    cases b5 with
    | true =>
      go_wp2_with fail
      refine HR1.out.mono ?_
      rintro e w2 ⟨rfl, hW⟩
      subst w2
      go_wp2_with fail
      refine HR2.out.mono ?_
      rintro e w2 ⟨rfl, hW⟩
      subst w2
      go_wp2_with fail
      go_ret
      exact ⟨by simp, HU.out⟩
    | false =>
    go_wp2_with fail
    refine HR1.out.mono ?_
    rintro e w2 ⟨rfl, hW⟩
    subst w2
    go_wp2_with fail
    refine HR2.out.mono ?_
    rintro e w2 ⟨rfl, hW⟩
    subst w2
    by_cases hd0 : dc = 0
    · subst hd0
      cases b6 with
      | false =>
        go_wp2_with fail
        refine wp_region_M (fun W => W.cell? ⟨q, 0, none⟩ = some (.pointer (some ⟨p, 0, none⟩)) ∧ W.cell? ⟨p, 3, none⟩ = some (.slice ao x.owes.length co) ∧ W.cell? ⟨p, 0, none⟩ = some (.slice asl x.shards.length csl)) 20 (by kernel_rfl) ?_
        refine wpAnyM_take (by kernel_rfl) (by intro c a d v w h; cases d <;> exact h) [(0, false), (1, false), (2, false), (3, true)] (fuel := 17) (by kernel_rfl) ?_
        apply Exists.intro; refine ⟨?_, ⟨k0, c3, c0⟩, ?_⟩
        · iterate 4 ((first | (apply yieldN; (· (simp only [List.getElem?_toArray, List.getElem?_cons_succ, List.getElem?_cons_zero]; try rfl)); (· rfl)) | ((first | apply yieldP | apply yieldL); (· (simp only [List.getElem?_toArray, List.getElem?_cons_succ, List.getElem?_cons_zero]; try rfl)); (· rfl); (· (intros; go_simp; try with_reducible rfl)))); (· (simp only [Act.put, List.setIfInBounds_toArray, List.set_cons_zero, List.set_cons_succ]; try rfl)))
          exact rfl
        refine wpAnyM_one (fuel := 16) (i := 4) (by kernel_rfl) (by rfl) (fun K hK => ?_)    -- CALL
        go_wp2_with fail
        refine hK _ _ ⟨k0, c3, c0⟩ ?_
        clear hK
        have h8b := H8o
        refine wpAnyM_take (by kernel_rfl) (by intro c a d v w h; cases d <;> exact h) [(5, false), (6, false), (7, false), (8, true), (9, false), (10, false), (11, true), (12, false), (13, true), (14, false), (15, false), (16, true), (17, false), (18, false), (19, false)] (fuel := 1) (by kernel_rfl) ?_
        apply Exists.intro; refine ⟨?_, ⟨k0, c3, c0⟩, ?_⟩
        · iterate 15 ((first | (apply yieldN; (· (simp only [List.getElem?_toArray, List.getElem?_cons_succ, List.getElem?_cons_zero]; try rfl)); (· rfl)) | ((first | apply yieldP | apply yieldL); (· (simp only [List.getElem?_toArray, List.getElem?_cons_succ, List.getElem?_cons_zero]; try rfl)); (· rfl); (· (intros; go_simp; try with_reducible rfl)))); (· (simp only [Act.put, List.setIfInBounds_toArray, List.set_cons_zero, List.set_cons_succ]; try rfl)))
          exact rfl
        refine wpAnyM_of_any _ _ _ _ (by decide) ?_
        refine wpAny_list [20] (fuel := 0) (by kernel_rfl) ?_
        simp only [List.filterMap_cons, List.filterMap_nil, List.getElem?_toArray, List.getElem?_cons_succ, List.getElem?_cons_zero]
        go_wp2_with fail
        go_ret
        exact ⟨by simp, HU.out.drew⟩
      | true =>
        go_wp2_with fail
        refine wp_region_M (fun W => W.cell? ⟨q, 0, none⟩ = some (.pointer (some ⟨p, 0, none⟩)) ∧ W.cell? ⟨p, 3, none⟩ = some (.slice ao x.owes.length co) ∧ W.cell? ⟨p, 0, none⟩ = some (.slice asl x.shards.length csl)) 20 (by kernel_rfl) ?_
        refine wpAnyM_take (by kernel_rfl) (by intro c a d v w h; cases d <;> exact h) [(0, false), (1, false), (2, false), (3, true)] (fuel := 17) (by kernel_rfl) ?_
        apply Exists.intro; refine ⟨?_, ⟨k0, c3, c0⟩, ?_⟩
        · iterate 4 ((first | (apply yieldN; (· (simp only [List.getElem?_toArray, List.getElem?_cons_succ, List.getElem?_cons_zero]; try rfl)); (· rfl)) | ((first | apply yieldP | apply yieldL); (· (simp only [List.getElem?_toArray, List.getElem?_cons_succ, List.getElem?_cons_zero]; try rfl)); (· rfl); (· (intros; go_simp; try with_reducible rfl)))); (· (simp only [Act.put, List.setIfInBounds_toArray, List.set_cons_zero, List.set_cons_succ]; try rfl)))
          exact rfl
        refine wpAnyM_one (fuel := 16) (i := 4) (by kernel_rfl) (by rfl) (fun K hK => ?_)    -- CALL
        go_wp2_with fail
        refine (HWH.out _ (by rfl)).mono ?_
        rintro e w2 ⟨rfl, hW⟩
        subst w2
        go_wp2_with fail
        refine hK _ _ ⟨k0, c3, c0⟩ ?_
        clear hK
        cases b7 with
        | false =>
          refine wpAnyM_take (by kernel_rfl) (by intro c a d v w h; cases d <;> exact h) [(5, false), (6, false), (7, false), (8, true), (9, false), (10, false), (11, true), (12, false), (13, true), (14, false), (15, false), (16, true), (17, false), (18, false), (19, false)] (fuel := 1) (by kernel_rfl) ?_
          apply Exists.intro; refine ⟨?_, ⟨k0, c3, c0⟩, ?_⟩
          · iterate 15 ((first | (apply yieldN; (· (simp only [List.getElem?_toArray, List.getElem?_cons_succ, List.getElem?_cons_zero]; try rfl)); (· rfl)) | ((first | apply yieldP | apply yieldL); (· (simp only [List.getElem?_toArray, List.getElem?_cons_succ, List.getElem?_cons_zero]; try rfl)); (· rfl); (· (intros; go_simp; try with_reducible rfl)))); (· (simp only [Act.put, List.setIfInBounds_toArray, List.set_cons_zero, List.set_cons_succ]; try rfl)))
            exact rfl
          refine wpAnyM_of_any _ _ _ _ (by decide) ?_
          refine wpAny_list [20] (fuel := 0) (by kernel_rfl) ?_
          simp only [List.filterMap_cons, List.filterMap_nil, List.getElem?_toArray, List.getElem?_cons_succ, List.getElem?_cons_zero]
          go_wp2_with fail
          go_ret
          exact ⟨by simp, HU.out.drew⟩
        | true =>
          refine wpAnyM_take (by kernel_rfl) (by intro c a d v w h; cases d <;> exact h) [(5, false), (6, false), (7, false), (8, true), (9, false), (10, false), (11, true), (12, false), (13, true), (14, false), (15, false), (16, true), (17, false), (18, false), (19, false)] (fuel := 1) (by kernel_rfl) ?_
          apply Exists.intro; refine ⟨?_, ⟨k0, c3, c0⟩, ?_⟩
          · iterate 15 ((first | (apply yieldN; (· (simp only [List.getElem?_toArray, List.getElem?_cons_succ, List.getElem?_cons_zero]; try rfl)); (· rfl)) | ((first | apply yieldP | apply yieldL); (· (simp only [List.getElem?_toArray, List.getElem?_cons_succ, List.getElem?_cons_zero]; try rfl)); (· rfl); (· (intros; go_simp; try with_reducible rfl)))); (· (simp only [Act.put, List.setIfInBounds_toArray, List.set_cons_zero, List.set_cons_succ]; try rfl)))
            exact rfl
          refine wpAnyM_of_any _ _ _ _ (by decide) ?_
          refine wpAny_list [20] (fuel := 0) (by kernel_rfl) ?_
          simp only [List.filterMap_cons, List.filterMap_nil, List.getElem?_toArray, List.getElem?_cons_succ, List.getElem?_cons_zero]
          go_wp2_with fail
          go_ret
          exact ⟨by simp, HU.out.drew⟩
    by_cases hd1 : dc = 1
    · subst hd1
      go_wp2_with fail
      refine (HWH.out _ rfl).mono ?_
      rintro e w2 ⟨rfl, hW⟩
      subst w2
      go_wp2_with fail
      go_ret
      exact ⟨by simp, HU.out⟩
    · have hb0 : (dc == 0) = false := by simp [hd0]
      have hb1 : (dc == 1) = false := by simp [hd1]
      go_wp2_with fail
      refine (HWH.out _ rfl).mono ?_
      rintro e w2 ⟨rfl, hW⟩
      subst w2
      go_wp2_with fail
      go_ret
      exact ⟨by simp [hd0, hd1], HU.out⟩
end Go.Proofs.Ytebmmbommkpjaaa

/-
  Decisions in bytes: Put.
-/
namespace Go.Proofs.Ytebmmbommkpjaaa
open Go.RowKit Go.Av

theorem entB_len (id : Int) (x : EntS) (h : x.wf) : (entB id x).length ≤ 128 := by
  obtain ⟨h1, h2, h3⟩ := h
  unfold entB numsS
  simp only [List.length_append, packI_len, flat_len]
  omega
section
variable {w0 w : World} {c m : Nat} {S : CoS} {l1 l2 : List EntG} {g : EntG} {R : List Thing} {T : Thing} {rows : List (Value × Bs)}
theorem Co.wf (h : Co w0 w c S R rows) : ∀ e ∈ S, okE e := by
  obtain ⟨m, gs, h1, h2, hS⟩ := h
  exact h2
theorem entK_len (h : ∀ e ∈ S, okE e) (ks : List Int) : (ks.flatMap (entK S)).length ≤ 128 * ks.length := by
  induction ks with
  | nil => simp
  | cons k ks ih =>
    have : (entK S k).length ≤ 128 := by
      unfold entK
      cases hl : lookS k S with
      | none => simp
      | some x => exact entB_len _ _ (h _ (look_mem hl)).1
    rw [List.flatMap_cons, List.length_append, List.length_cons]
    omega
theorem Co.len (h : Co w0 w c S R rows) : ∃ m, w.cell? ⟨c, 0, none⟩ = some (.map (some m)) ∧ ∀ ty, (Builtin.len_ #[62] ty #[.map (some m)]).run Try.prog w = .ok (.int .i64 S.length) w := by
  obtain ⟨m, gs, rfl, hwf, hS⟩ := h
  have hc := hS.block (b := c) (o := .cells #[.map (some m)] 64 (0, 0)) (by simp [coHead])
  obtain ⟨E, hM, -⟩ := hS.has (T := ThMap (.int .i64) m (gs.map EntG.kv)) (by simp [coHead])
  refine ⟨m, cell_of hc 0 rfl, fun ty => ?_⟩
  have := mp_len (P := Try.prog) hM Try.underlying62 ty
  simpa using this
theorem Co.nilR (h : Co w0 w c S R rows) : Co w0 w c S (ThRow 1 (.slice none 0 0) (([] : Bs).map bv) :: R) rows := h.addR (D' := []) (Upd.refl w []) (OwnRow.nil _ _)

theorem CoF.drew (h : CoF w0 w c m l1 g l2 R rows) : CoF w0 w.drew c m l1 g l2 R rows := ⟨h.1, h.2.drew⟩
theorem flat_step (S : CoS) (ks : List Int) (p : Nat) (hp : p < ks.length) (b : Bs) : b ++ (ks.take (p + 1)).flatMap (entK S) = (b ++ (ks.take p).flatMap (entK S)) ++ entK S ks[p] := by
  rw [List.take_succ_eq_append_getElem hp, List.flatMap_append]
  simp
theorem votes_step (l : List Int) (p : Nat) (hp : p < l.length) (b : Bs) : (b ++ (l.take p).flatMap packI) ++ packI l[p] = b ++ (l.take (p + 1)).flatMap packI := by
  rw [List.take_succ_eq_append_getElem hp, List.flatMap_append]
  simp

set_option maxRecDepth 100000 in
set_option maxHeartbeats 4000000 in
theorem put_any (h : Co w0 w c S R rows) (hn : S.length ≤ 1000) :
    Calls Try.prog 26 #[.pointer (some ⟨c, 0, none⟩)] w fun e w' => ∃ v, e = .returned v ∧ Co w0 w' c S (ThRow 1 v ((bytesS S).map bv) :: R) rows := by
  obtain ⟨m, hc, hln⟩ := h.len
  have hwf := h.wf
  have hkl : (keysS S).length = S.length := keys_len S
  have HP := Lib.hid (h.nilR.packC S.length (by simp))
  have HW := Lib.hid hwf
  clear h hwf
  go_enter Try.func26, Try.ntmps26
  go_wp2_with fail
  refine HP.out.mono ?_
  rintro e w1 ⟨v1, rfl, h1⟩
  rw [List.nil_append] at h1
  clear hc hln
  obtain ⟨m, hc, hK, hSo⟩ := co_keys h1 (by omega)
  have HK := Lib.hid hK
  have HS := Lib.hid hSo
  clear h1 hK hSo HP
  go_wp2_with fail
  refine HK.out.mono ?_
  rintro e w1 ⟨rfl, rfl⟩
  go_wp2_with fail
  refine HS.out.mono ?_
  rintro e w2 ⟨v, rfl, h⟩
  obtain ⟨D, ho, -⟩ := h.row
  obtain ⟨ak, nk, ck, rfl, hlk, hnk, hck, -⟩ := _root_.id ho
  rw [List.length_map, Nat.mul_one] at hlk
  subst hlk
  unfold maxLen at hck
  have HC := Lib.hid (h.permR (List.Perm.swap _ _ _))
  clear h ho HK HS hc
  go_wp2_with fail
  go_loopg [3, 22] (keysS S).length (fun k vb vi wr => ∃ p : Nat, p ≤ (keysS S).length ∧ k = (keysS S).length - p ∧ vi = .int .i64 (p : Int) ∧ Co w0 wr c S (ThRow 1 vb ((packI S.length ++ ((keysS S).take p).flatMap (entK S)).map bv) :: ThRow 1 (.slice ak (keysS S).length ck) ((keysS S).map iv) :: R) rows)
  case atStart => exact ⟨0, Nat.zero_le _, rfl, rfl, by simpa using HC.out⟩
  case round =>
    obtain ⟨p, hp, hk, hv, hC⟩ := hrel
    subst hv
    clear HC
    by_cases hlt : p < (keysS S).length
    case neg =>
      obtain rfl : p = (keysS S).length := by omega
      rw [List.take_length] at hC
      have HC2 := Lib.hid hC
      clear hC
      go_wp2_with fail
      go_ret
      exact ⟨_, rfl, (HC2.out.permR (List.Perm.swap _ _ _)).dropR⟩
    have hkp : (keysS S)[p] ∈ keysS S := List.getElem_mem hlt
    obtain ⟨x, hx⟩ := keys_look hkp
    obtain ⟨D2, ho2, -⟩ := (hC.permR (List.Perm.swap _ _ _)).row
    obtain ⟨y, rfl, hys, hcy⟩ := ownCell ho2 (i := p) (x := iv (keysS S)[p]) (by rw [List.getElem?_map, List.getElem?_eq_getElem hlt]; rfl)
    obtain ⟨m2, l1, g, l2, hgid, hgx, hF, -, hSS⟩ := hC.take hx
    have hfl := flat_step S (keysS S) p hlt (packI S.length)
    have hbd : ((packI S.length ++ ((keysS S).take p).flatMap (entK S))).length ≤ 130000 := by
      have := entK_len HW.out ((keysS S).take p)
      rw [List.length_append, packI_len]
      rw [List.length_take] at this
      omega
    obtain ⟨idv, hidv⟩ : ∃ idv, (keysS S)[p] = idv := ⟨_, rfl⟩
    rw [hidv] at hcy hx hgid hfl
    unfold iv at hcy
    have hK : entK S idv = entB idv g.x := by unfold entK; rw [hx, hgx]
    rw [hK] at hfl
    obtain ⟨pre, hpre⟩ : ∃ pre, packI S.length ++ ((keysS S).take p).flatMap (entK S) = pre := ⟨_, rfl⟩
    rw [hpre] at hF hfl hbd
    have HFL := Lib.hid (show _ ∧ _ ∧ _ from ⟨hfl, hbd, hSS⟩)
    obtain ⟨hc2, hlk2, hp2⟩ := hF.facts
    rw [hgid] at hlk2
    have hlk3 := hlk2 wr rfl
    have c0 := cell_of hp2 0 rfl
    obtain ⟨s, hs⟩ : ∃ s, s = g.vs := ⟨_, rfl⟩
    rw [show (#[g.vs, g.vv, Value.int .i64 g.x.dec, g.vo] : Array Value)[0] = s from hs.symm] at c0
    have HG := Lib.hid (show _ ∧ _ from ⟨hgid, hs⟩)
    have HF := Lib.hid hF
    clear hkp hx ho2 hidv hK hfl hpre hSS hF hp2 hC hbd hs hgx hgid hlk2
    go_wp2_with fail
    refine wp_region_M (fun W => W.cell? ⟨g.p, 0, none⟩ = some s) 8 (by kernel_rfl) ?_
    refine wpAnyM_take (by kernel_rfl) (by intro c a d v w h; cases d <;> exact h) [(0, false), (1, false), (3, false), (4, false), (5, false), (6, true)] (fuel := 3) (by kernel_rfl) ?_
    apply Exists.intro; refine ⟨?_, c0, ?_⟩
    · iterate 6 ((first | (apply yieldN; (· (simp only [List.getElem?_toArray, List.getElem?_cons_succ, List.getElem?_cons_zero]; try rfl)); (· rfl)) | ((first | apply yieldP | apply yieldL); (· (simp only [List.getElem?_toArray, List.getElem?_cons_succ, List.getElem?_cons_zero]; try rfl)); (· rfl); (· (intros; go_simp; try with_reducible rfl)))); (· (simp only [Act.put, List.setIfInBounds_toArray, List.set_cons_zero, List.set_cons_succ]; try rfl)))
      exact rfl
    refine wpAnyM_one (fuel := 2) (i := 2) (by kernel_rfl) (by rfl) (fun K hK => ?_)    -- CALL
    go_wp2_with fail
    refine (HF.out.drew.packC idv (by have := HFL.out.2.1; omega)).mono ?_
    rintro e w3 ⟨v3, rfl, h3⟩
    have k3 := (cell_of h3.facts.2.2 0 rfl).trans (congrArg some HG.out.2.symm)
    have HF3 := Lib.hid h3
    clear h3 c0 HF hlk3 hc2
    go_wp2_with fail
    refine hK _ _ k3 ?_
    clear hK
    refine wpAnyM_one (fuel := 1) (i := 7) (by kernel_rfl) (by rfl) (fun K hK => ?_)    -- CALL
    go_wp2_with fail
    refine (HF3.out.numsC (u := s) (xs := g.x.shards) (by rw [HG.out.2]; simp [EntG.th]) (by have := HFL.out.2.1; rw [List.length_append, packI_len]; omega) (by have := HF3.out.wf.2.1; omega)).mono ?_
    rintro e w4 ⟨v4, rfl, h4⟩
    have k4 := (cell_of h4.facts.2.2 0 rfl).trans (congrArg some HG.out.2.symm)
    have c1 := cell_of h4.facts.2.2 1 rfl
    obtain ⟨av, nv, cv, hvv, hlv, hnv, hmv, -⟩ := h4.row (v := g.vv) (xs := g.x.votes.map iv) (by simp [EntG.th])
    rw [show (#[g.vs, g.vv, Value.int .i64 g.x.dec, g.vo] : Array Value)[1] = .slice av nv cv from hvv] at c1
    rw [List.length_map] at hlv
    subst hlv
    unfold maxLen at hmv
    have HF4 := Lib.hid h4
    have HVV := Lib.hid hvv
    clear h4 k3 HF3 hvv
    go_wp2_with fail
    refine hK _ _ k4 ?_
    clear hK
    refine wpAnyM_of_any _ _ _ _ (by decide) ?_
    refine wpAny_list [8] (fuel := 0) (by kernel_rfl) ?_
    simp only [List.filterMap_cons, List.filterMap_nil, List.getElem?_toArray, List.getElem?_cons_succ, List.getElem?_cons_zero]
    go_wp2_with fail
    obtain ⟨pre2, hpre2⟩ : ∃ z, z = pre ++ packI idv ++ numsS g.x.shards := ⟨_, rfl⟩
    rw [← hpre2] at HF4
    have HP2 := Lib.hid hpre2
    clear hpre2 c1 k4
    go_loopg [3, 45] g.x.votes.length (fun k vb vi wr => ∃ p : Nat, p ≤ g.x.votes.length ∧ k = g.x.votes.length - p ∧ vi = .int .i64 (p : Int) ∧ CoF w0 wr c m2 l1 g l2 (ThRow 1 vb ((pre2 ++ (g.x.votes.take p).flatMap packI).map bv) :: ThRow 1 (.slice (some y) (keysS S).length ck) ((keysS S).map iv) :: R) rows)
    case atStart => exact ⟨0, Nat.zero_le _, rfl, rfl, by simpa using HF4.out⟩
    case round =>
      clear HF4
      obtain ⟨j, hj, hk2, hv2, hC2⟩ := hrel
      subst hv2
      by_cases hlt2 : j < g.x.votes.length
      case pos =>
        obtain ⟨a', n', c', hv', -, -, -, hcl⟩ := hC2.row (v := g.vv) (xs := g.x.votes.map iv) (by simp [EntG.th])
        have hv' := HVV.out.symm.trans hv'
        cases hv'
        obtain ⟨y2, rfl, hys2, hcy2⟩ := hcl (i := j) (x := iv g.x.votes[j]) (by rw [List.getElem?_map, List.getElem?_eq_getElem hlt2]; rfl)
        have hst := votes_step g.x.votes j hlt2 pre2
        obtain ⟨z, hz⟩ : ∃ z, g.x.votes[j] = z := ⟨_, rfl⟩
        rw [hz] at hcy2 hst
        unfold iv at hcy2
        have hvl : g.x.votes.length ≤ 4 := by have := hC2.wf; have h1 := this.1; have h2 := this.2.1; omega
        have hpk := hC2.packC z (by
          have h1 := HFL.out.2.1
          have h2 := congrArg List.length HP2.out
          have h3 : g.x.shards.length ≤ 4 := hC2.wf.2.1
          unfold numsS at h2
          simp only [List.length_append, packI_len, flat_len, List.length_take] at h2 ⊢
          omega)
        rw [hst] at hpk
        have HPK := Lib.hid hpk
        clear hst hz hC2 hpk hcl
        go_wp2_with fail
        refine HPK.out.mono ?_
        rintro e w5 ⟨v5, rfl, h5⟩
        have HF5 := Lib.hid h5
        clear h5 HPK
        go_wp2_with fail
        go_roundg (g.x.votes.length - (j + 1))
        case rel => exact ⟨j + 1, by omega, rfl, by go_num, HF5.out⟩
        case measure => omega
      obtain rfl : j = g.x.votes.length := by omega
      rw [List.take_length] at hC2
      have c2 := cell_of hC2.facts.2.2 2 rfl
      have c3 := cell_of hC2.facts.2.2 3 rfl
      obtain ⟨dc, hdc⟩ : ∃ dc, dc = g.x.dec := ⟨_, rfl⟩
      obtain ⟨o, ho⟩ : ∃ o, o = g.vo := ⟨_, rfl⟩
      rw [show (#[g.vs, g.vv, Value.int .i64 g.x.dec, g.vo] : Array Value)[2] = .int .i64 dc by rw [hdc]; rfl] at c2
      rw [show (#[g.vs, g.vv, Value.int .i64 g.x.dec, g.vo] : Array Value)[3] = o from ho.symm] at c3
      have HF6 := Lib.hid hC2
      have HD := Lib.hid (show _ ∧ _ from ⟨hdc, ho⟩)
      clear hC2 hdc ho
      go_wp2_with fail
      refine wp_region_M (fun W => W.cell? ⟨g.p, 2, none⟩ = some (.int .i64 dc) ∧ W.cell? ⟨g.p, 3, none⟩ = some o) 11 (by kernel_rfl) ?_
      refine wpAnyM_take (by kernel_rfl) (by intro c a d v w h; cases d <;> exact h) [(0, false), (1, false), (2, false), (3, false), (4, true), (6, false), (7, false), (8, false), (9, true)] (fuel := 3) (by kernel_rfl) ?_
      apply Exists.intro; refine ⟨?_, ⟨c2, c3⟩, ?_⟩
      · iterate 9 ((first | (apply yieldN; (· (simp only [List.getElem?_toArray, List.getElem?_cons_succ, List.getElem?_cons_zero]; try rfl)); (· rfl)) | ((first | apply yieldP | apply yieldL); (· (simp only [List.getElem?_toArray, List.getElem?_cons_succ, List.getElem?_cons_zero]; try rfl)); (· rfl); (· (intros; go_simp; try with_reducible rfl)))); (· (simp only [Act.put, List.setIfInBounds_toArray, List.set_cons_zero, List.set_cons_succ]; try rfl)))
        exact rfl
      refine wpAnyM_one (fuel := 2) (i := 5) (by kernel_rfl) (by rfl) (fun K hK => ?_)    -- CALL
      go_wp2_with fail
      have hb2 : (pre2 ++ g.x.votes.flatMap packI).length ≤ 140000 := by
        have h1 := HFL.out.2.1
        have h2 := congrArg List.length HP2.out
        have h3 : g.x.shards.length ≤ 4 := HF6.out.wf.2.1
        have h4 := HF6.out.wf.1
        unfold numsS at h2
        simp only [List.length_append, packI_len, flat_len] at h2 ⊢
        omega
      have HB2 := Lib.hid hb2
      clear hb2
      refine (HF6.out.drew.packC dc (by have := HB2.out; omega)).mono ?_
      rintro e w7 ⟨v7, rfl, h7⟩
      have k7 : w7.cell? ⟨g.p, 2, none⟩ = some (.int .i64 dc) ∧ w7.cell? ⟨g.p, 3, none⟩ = some o :=
        ⟨(cell_of h7.facts.2.2 2 rfl).trans (by rw [HD.out.1]; rfl), (cell_of h7.facts.2.2 3 rfl).trans (congrArg some HD.out.2.symm)⟩
      have HF7 := Lib.hid h7
      clear h7 c2 c3 HF6
      go_wp2_with fail
      refine hK _ _ k7 ?_
      clear hK
      refine wpAnyM_one (fuel := 1) (i := 10) (by kernel_rfl) (by rfl) (fun K hK => ?_)    -- CALL
      go_wp2_with fail
      refine (HF7.out.numsC (u := o) (xs := g.x.owes) (by rw [HD.out.2]; simp [EntG.th]) (by have := HB2.out; rw [List.length_append, packI_len]; omega) (by have := HF7.out.wf.2.2; omega)).mono ?_
      rintro e w8 ⟨v8, rfl, h8⟩
      have k8 : w8.cell? ⟨g.p, 2, none⟩ = some (.int .i64 dc) ∧ w8.cell? ⟨g.p, 3, none⟩ = some o :=
        ⟨(cell_of h8.facts.2.2 2 rfl).trans (by rw [HD.out.1]; rfl), (cell_of h8.facts.2.2 3 rfl).trans (congrArg some HD.out.2.symm)⟩
      have HF8 := Lib.hid h8.back
      clear h8 k7 HF7
      go_wp2_with fail
      refine hK _ _ k8 ?_
      clear hK
      refine wpAnyM_of_any _ _ _ _ (by decide) ?_
      refine wpAny_list [11] (fuel := 0) (by kernel_rfl) ?_
      simp only [List.filterMap_cons, List.filterMap_nil, List.getElem?_toArray, List.getElem?_cons_succ, List.getElem?_cons_zero]
      go_wp2_with fail
      go_roundg ((keysS S).length - (p + 1))
      case rel =>
        refine ⟨p + 1, by omega, rfl, by go_num, ?_⟩
        have h8 := HF8.out
        rw [← HFL.out.2.2] at h8
        rw [HFL.out.1]
        have e : pre2 ++ g.x.votes.flatMap packI ++ packI dc ++ numsS g.x.owes = pre ++ entB idv g.x := by
          rw [HP2.out, HD.out.1]
          unfold entB
          simp only [List.append_assoc]
        rw [e] at h8
        exact h8
      case measure => omega
end
end Go.Proofs.Ytebmmbommkpjaaa

/-
  Decisions read: numbers of a reader, side by side with all else.
-/
namespace Go.Proofs.Ytebmmbommkpjaaa
open Go.RowKit Go.Av

section
variable {w0 w : World} {r : Nat} {d : Rd} {R : List Thing} {rows : List (Value × Bs)}
set_option maxRecDepth 100000 in
set_option maxHeartbeats 2000000 in
theorem read_any (h : Sep w0 w (ThRdr r d :: R) rows) :
    Calls Try.prog 44 #[.pointer (some ⟨r, 0, none⟩)] w fun e w' => ∃ v, e = .returned v ∧ Sep w0 w' (ThRow 1 v ((readR d).1.map iv) :: ThRdr r (readR d).2 :: R) rows := by
  obtain ⟨i0, hi0, hz0, hz1, hz2⟩ := info_parts infoI
  have HC := Lib.hid (rdrSep_count h 4 (by decide))
  have hb := cntR_bd (most := 4) (by decide) d
  clear h
  unfold readR
  obtain ⟨q, hq⟩ : ∃ q, cntR 4 d = q := ⟨_, rfl⟩
  rw [hq] at HC hb ⊢
  clear hq
  obtain ⟨n, d1⟩ := q
  dsimp only at HC hb ⊢
  obtain ⟨N, rfl⟩ : ∃ N : Nat, n = N := ⟨n.toNat, by omega⟩
  rw [Int.toNat_natCast]
  go_enter Try.func44, Try.ntmps44
  go_wp2_with fail
  refine HC.out.mono ?_
  rintro e w1 ⟨rfl, h1⟩
  have HS := Lib.hid (h1.nilRow 1)
  clear h1 HC
  go_wp2_with fail
  go_loopg [3, 6] N (fun k vl vi wr => ∃ j : Nat, j ≤ N ∧ k = N - j ∧ vi = .int .i64 (j : Int) ∧ Sep w0 wr (ThRow 1 vl ((cntN 3 j d1).1.map iv) :: ThRdr r (cntN 3 j d1).2 :: R) rows)
  case atStart => exact ⟨0, Nat.zero_le _, rfl, rfl, HS.out⟩
  case round =>
    obtain ⟨j, hj, hk, hvi, hS⟩ := hrel
    subst hvi
    clear HS
    by_cases hlt : j < N
    case neg =>
      obtain rfl : j = N := by omega
      have HO := Lib.hid hS
      clear hS
      go_wp2_with fail
      go_ret
      exact ⟨_, rfl, HO.out⟩
    have hsn := cntN_snoc 3 j d1
    have hl := cntN_len 3 j d1
    have hct := rdrSep_count hS.swap 3 (by decide)
    obtain ⟨q, hq⟩ : ∃ q, cntN 3 j d1 = q := ⟨_, rfl⟩
    rw [hq] at hsn hl hct
    obtain ⟨q2, hq2⟩ : ∃ z, cntR 3 q.2 = z := ⟨_, rfl⟩
    rw [hq2] at hsn hct
    obtain ⟨z, d2⟩ := q2
    obtain ⟨xs, d3⟩ := q
    dsimp only at hsn hl hct
    have HSN := Lib.hid (show _ ∧ _ from ⟨hsn, hl⟩)
    have HCT := Lib.hid hct
    clear hsn hl hct hq hq2 hS
    go_wp2_with fail
    refine HCT.out.mono ?_
    rintro e w2 ⟨rfl, h2⟩
    obtain ⟨D, hown, -, back⟩ := h2.swap.use
    have ha1 := Upd.alloc0 w2 (.cells #[.int .i64 z] 3 (0, 0)) []
    obtain ⟨al, nl, cl, hvl, -⟩ := _root_.id hown
    subst hvl
    have hownA : OwnRow _ 1 _ _ D := OwnRow.frame hown (ha1.same (OwnRow.lt hown) (by simp))
    obtain ⟨nb, hnb, hsrc⟩ := (cell_new w2 (.int .i64 z) 3 (0, 0)).src (P := Try.prog) (tx := 22) Try.underlying22 (by intro u hu; rw [List.mem_singleton.1 hu]; rfl)
    obtain rfl : 1 = nb := by simpa using hnb
    have HBD := Lib.hid (show ∀ n', (xs.map iv).length = n' * 1 → n' + 1 ≤ 140737488355328 ∧ (n' + 1) * i0.bytes ≤ 140737488355328 from fun n' hn' => by
      rw [List.length_map, HSN.out.2] at hn'
      rw [hz2]; omega)
    have HBK := Lib.hid back
    clear hown back h2 hnb HCT
    go_wp2_with (at_builtin; go_must (refine wpList_app rfl _ _ 22 22 rfl 1 _ _ _ rfl hownA _ i0 _ Try.underlying22 hi0 hz0 hz1 rfl _ _ _ rfl hsrc HBD.out ?_); intro a7 n7 c7 w7 D7 hown7 hu7)
    have HN := Lib.hid (HBK.out w7 D7 (ThRow 1 (.slice a7 n7 c7) ((xs ++ [z]).map iv)) ((ha1.mono (by simp) (fun b hb => .inr hb) : Upd w2 _ D D).trans hu7) (by rw [List.map_append]; exact hown7))
    clear hown7 hu7 hsrc hownA
    go_roundg (N - (j + 1))
    case rel =>
      refine ⟨j + 1, by omega, rfl, by go_num, ?_⟩
      rw [HSN.out.1]
      exact HN.out
    case measure => omega
end
end Go.Proofs.Ytebmmbommkpjaaa

/-
  Decisions read: Get.
-/
namespace Go.Proofs.Ytebmmbommkpjaaa
open Go.RowKit Go.Av

theorem Sep.dropL {w0 w : World} {R : List Thing} {rows : List (Value × Bs)} : ∀ (A : List Thing), Sep w0 w (A ++ R) rows → Sep w0 w R rows
  | [], h => h
  | _ :: A, h => Sep.dropL A h.drop
section
variable {w0 w : World} {c r : Nat} {S : CoS} {d : Rd} {R : List Thing} {rows : List (Value × Bs)}
theorem Co.rdI64 (h : Co w0 w c S (ThRdr r d :: R) rows) :
    Calls Try.prog 43 #[.pointer (some ⟨r, 0, none⟩)] w fun e w' => e = .returned (.int .i64 (i64R d).1) ∧ Co w0 w' c S (ThRdr r (i64R d).2 :: R) rows := by
  obtain ⟨X, hS, hb⟩ := Co.side (A := [_]) h
  refine (rdrSep_i64 hS).mono ?_
  rintro e w' ⟨rfl, h'⟩
  exact ⟨rfl, hb _ [_] h'⟩
theorem Co.rdCount (h : Co w0 w c S (ThRdr r d :: R) rows) (most : Int) (hm : 0 ≤ most) :
    Calls Try.prog 42 #[.pointer (some ⟨r, 0, none⟩), .int .i64 most] w fun e w' => e = .returned (.int .i64 (cntR most d).1) ∧ Co w0 w' c S (ThRdr r (cntR most d).2 :: R) rows := by
  obtain ⟨X, hS, hb⟩ := Co.side (A := [_]) h
  refine (rdrSep_count hS most hm).mono ?_
  rintro e w' ⟨rfl, h'⟩
  exact ⟨rfl, hb _ [_] h'⟩
theorem Co.rdRead (h : Co w0 w c S (ThRdr r d :: R) rows) :
    Calls Try.prog 44 #[.pointer (some ⟨r, 0, none⟩)] w fun e w' => ∃ v, e = .returned v ∧ Co w0 w' c S (ThRow 1 v ((readR d).1.map iv) :: ThRdr r (readR d).2 :: R) rows := by
  obtain ⟨X, hS, hb⟩ := Co.side (A := [_]) h
  refine (read_any hS).mono ?_
  rintro e w' ⟨v, rfl, h'⟩
  exact ⟨v, rfl, hb _ [_, _] h'⟩
theorem Co.rdBad (h : Co w0 w c S (ThRdr r d :: R) rows) :
    Calls Try.prog 45 #[.pointer (some ⟨r, 0, none⟩)] w fun e w' => e = .returned (.bool d.2) ∧ w' = w := by
  obtain ⟨X, hS, hb⟩ := Co.side (A := [_]) h
  exact rdrSep_bad hS
theorem Co.rdEnd (h : Co w0 w c S (ThRdr r d :: R) rows) :
    Calls Try.prog 47 #[.pointer (some ⟨r, 0, none⟩)] w fun e w' => e = .returned (.bool (!d.2 && d.1.isEmpty)) ∧ w' = w := by
  obtain ⟨X, hS, hb⟩ := Co.side (A := [_]) h
  exact rdrSep_end hS
theorem Co.out (h : Co w0 w c S R rows) : Sep w0 w R rows := by
  obtain ⟨m, gs, h1, h2, hS⟩ := h
  exact Sep.dropL _ (Sep.dropL _ hS)
theorem Co.get {v : Value} {l : Bs} (h : Co w0 w c S R rows) (hm : (v, l) ∈ rows) : ∃ E, ReadRow w 1 v (l.map bv) E := by
  obtain ⟨m, gs, h1, h2, hS⟩ := h
  exact hS.get hm

theorem readR_len (d : Rd) : (readR d).1.length ≤ 4 := by
  unfold readR
  rw [cntN_len]
  have := cntR_bd (most := 4) (by decide) d
  omega
theorem i64R_bd (d : Rd) : -9223372036854775808 ≤ (i64R d).1 ∧ (i64R d).1 ≤ 9223372036854775807 := by
  unfold i64R
  split
  · simp
  · simp only [rdI, IntKind.wrap_i64]
    omega
theorem getN_end (n : Nat) (last : Int) (d : Rd) (S : CoS) : getN (n + 1) last d S = if (entR d).2.2 = true ∨ (entR d).1.1 ≤ last ∨ goodS (entR d).1.2 = false then none else getN n (entR d).1.1 (entR d).2 (S ++ [(entR d).1]) := rfl

theorem Co.setR {q : Nat} {cs : Array Value} {T : TypeId} (h : Co w0 w c S (ThCell q (.cells cs T (0, 0)) :: R) rows) (i : Nat) (v : Value) : Co w0 (w.setCell ⟨q, i, none⟩ v) c S (ThCell q (.cells (cs.setIfInBounds i v) T (0, 0)) :: R) rows := by
  obtain ⟨X, hS, hb⟩ := Co.side (A := [_]) h
  exact hb _ [_] (hS.set i v)
theorem Co.ownR {v : Value} {xs : List Value} {A : List Thing} (h : Co w0 w c S (A ++ R) rows) (hm : ThRow 1 v xs ∈ A) : ∃ D, OwnRow w 1 v xs D := by
  obtain ⟨X, hS, hb⟩ := Co.side h
  exact hS.has (T := ThRow 1 v xs) (by simp [hm])
theorem Co.drew (h : Co w0 w c S R rows) : Co w0 w.drew c S R rows := h.keep (Upd.refl w []).drew
def endS (o : Option (CoS × Rd)) : Option CoS := match o with | none => none | some (S, r) => if r.2 = false ∧ r.1 = [] then some S else none
def GetPost (w0 : World) (R : List Thing) (rows : List (Value × Bs)) (o : Option CoS) (e : Ending) (w' : World) : Prop :=
  match o with
  | none => e = .returned (.tuple #[.pointer none, .int .i64 3]) ∧ Sep w0 w' R rows
  | some S => ∃ c, e = .returned (.tuple #[.pointer (some ⟨c, 0, none⟩), .int .i64 0]) ∧ Co w0 w' c S R rows

set_option maxRecDepth 100000 in
set_option maxHeartbeats 8000000 in
theorem get_any (h : Sep w0 w R rows) (v : Value) (l : Bs) (hv : (v, l) ∈ rows) (hl : l.length ≤ 1073741824) : Calls Try.prog 21 #[v] w (GetPost w0 R rows (getS l)) := by
  obtain ⟨i0, hi0, hz0, hz1, hz2⟩ := info_parts infoI
  have HN := Lib.hid (new_coord h)
  have HV := Lib.hid hv
  clear h hv
  have hgs : getS l = endS (getN (cntR 1048576 (l, false)).1.toNat 0 (cntR 1048576 (l, false)).2 []) := rfl
  have hb := cntR_bd (most := 1048576) (by decide) (l, false)
  obtain ⟨q, hq⟩ : ∃ q, cntR 1048576 (l, false) = q := ⟨_, rfl⟩
  rw [hq] at hb hgs
  obtain ⟨n, d0⟩ := q
  dsimp only at hb hgs
  obtain ⟨N, rfl⟩ : ∃ N : Nat, n = N := ⟨n.toNat, by omega⟩
  rw [Int.toNat_natCast] at hgs
  have HQ := Lib.hid hq
  have HGS := Lib.hid hgs
  clear hq hgs
  go_enter Try.func21, Try.ntmps21
  go_wp2_with fail
  refine HN.out.mono ?_
  rintro e w1 ⟨c, rfl, h1⟩
  obtain ⟨E, hE⟩ := h1.get HV.out
  have HR := Lib.hid (rdr_new v l E w1 hE hl)
  have H1 := Lib.hid h1
  clear h1 hE HN
  go_wp2_with fail
  refine HR.out.mono ?_
  rintro e w2 ⟨r, D, rfl, hr, hu⟩
  have h2 := H1.out.addR (T := ThRdr r (l, false)) hu hr
  have hct := h2.rdCount 1048576 (by decide)
  rw [HQ.out] at hct
  dsimp only at hct
  have HC := Lib.hid hct
  clear hct hr hu h2 HR H1 hl
  go_wp2_with fail
  refine HC.out.mono ?_
  rintro e w3 ⟨rfl, h3⟩
  clear HC
  have H3 := Lib.hid h3
  clear h3
  go_wp2_with fail
  go_loopg [6, 14] N (fun k vt vi wr => ∃ (j : Nat) (S : CoS) (last : Int) (d : Rd), j ≤ N ∧ k = N - j ∧ vi = .int .i64 (j : Int) ∧ vt = .int .i64 last ∧ Co w0 wr c S (ThRdr r d :: R) rows ∧
    getN N 0 d0 [] = getN (N - j) last d S ∧ (∀ e ∈ S, e.1 ≤ last) ∧ 0 ≤ last)
  case atStart => exact ⟨0, [], 0, d0, Nat.zero_le _, rfl, rfl, rfl, H3.out, rfl, by simp, Int.le_refl _⟩
  case round =>
    obtain ⟨j, S, last, d, hj, hk, hvi, hvt, hC, hg, hlast, hl0⟩ := hrel
    subst hvi hvt
    clear H3
    by_cases hlt : j < N
    case neg =>
      obtain rfl : j = N := by omega
      rw [Nat.sub_self] at hg
      have HG := Lib.hid hg
      have HE := Lib.hid hC.rdEnd
      have HC := Lib.hid hC
      clear hC hg hlast
      obtain ⟨b, hb'⟩ : ∃ b, (!d.2 && d.1.isEmpty) = b := ⟨_, rfl⟩
      rw [hb'] at HE
      have HB := Lib.hid hb'
      clear hb'
      go_wp2_with fail
      refine HE.out.mono ?_
      rintro e w4 ⟨rfl, hW⟩
      subst w4
      cases b with
      | true =>
        go_wp2_with fail
        go_ret2
        have hb2 := HB.out
        simp only [Bool.and_eq_true, Bool.not_eq_true', List.isEmpty_iff] at hb2
        rw [HGS.out, HG.out]
        unfold getN endS GetPost
        simp only
        rw [if_pos hb2]
        exact ⟨c, rfl, HC.out.dropR⟩
      | false =>
        go_wp2_with fail
        go_ret2
        have hb2 : ¬ (d.2 = false ∧ d.1 = []) := fun h => by
          have hb2 := HB.out
          rw [h.1, h.2] at hb2
          cases hb2
        rw [HGS.out, HG.out]
        unfold getN endS GetPost
        simp only
        rw [if_neg hb2]
        exact ⟨rfl, HC.out.out.drop⟩
    have hg2 : N - j = (N - (j + 1)) + 1 := by omega
    rw [hg2, getN_end] at hg
    unfold entR at hg
    have ha := i64R_bd d
    obtain ⟨qa, hqa⟩ : ∃ q, i64R d = q := ⟨_, rfl⟩
    have HI := Lib.hid hC.rdI64
    rw [hqa] at hg ha HI
    obtain ⟨id, da⟩ := qa
    dsimp only at hg ha HI
    clear hqa hC
    have HG := Lib.hid (show _ ∧ _ ∧ _ from ⟨hg, hlast, ha⟩)
    clear hg hlast ha
    go_wp2_with fail
    refine HI.out.mono ?_
    rintro e w4 ⟨rfl, h4⟩
    have HRd := Lib.hid h4.rdRead
    clear HI h4
    go_wp2_with fail
    refine HRd.out.mono ?_
    rintro e w5 ⟨vs, rfl, h5⟩
    have hsl := readR_len da
    have HG2 := HG.out
    obtain ⟨qs, hqs⟩ : ∃ q, readR da = q := ⟨_, rfl⟩
    rw [hqs] at h5 hsl
    simp only [hqs] at HG2
    obtain ⟨shards, ds⟩ := qs
    dsimp only at h5 hsl HG2
    have HG := Lib.hid HG2
    clear HG2 hqs HRd
    obtain ⟨D5, ho5, -⟩ := h5.row
    obtain ⟨asl, ns, csl, rfl, hns, -⟩ := _root_.id ho5
    rw [List.length_map, Nat.mul_one] at hns
    subst hns
    have h6 := h5.newCell (.cells #[.slice asl shards.length csl, .slice none 0 0, .int .i64 0, .slice none 0 0] 69 (0, 0))
    have H6 := Lib.hid h6
    clear h5 ho5 h6
    go_wp2_with fail
    obtain ⟨p, hp⟩ : ∃ p, p = w5.heap.size := ⟨_, rfl⟩
    obtain ⟨w6, hw6⟩ : ∃ x, x = w5.alloc (.cells #[.slice asl shards.length csl, .slice none 0 0, .int .i64 0, .slice none 0 0] 69 (0, 0)) := ⟨_, rfl⟩
    rw [← hw6, ← hp] at H6 ⊢
    clear hw6 hp
    have HX := Lib.hid (show Co w0 w6 c S (ThCell p (.cells #[.slice asl shards.length csl, .slice none 0 0, .int .i64 0, .slice none 0 0] 69 (0, 0)) :: ThRow 1 (.slice asl shards.length csl) (shards.map iv) :: ThRow 1 (.slice none 0 0) [] :: ThRdr r ds :: R) rows from
      (H6.out.addR (T := ThRow 1 (.slice none 0 0) []) (D' := []) (Upd.refl w6 []) (OwnRow.nil _ _)).permR (List.perm_middle (l₁ := [_, _])).symm)
    clear H6
    go_loopg [27] shards.length (fun k vi wr => ∃ (i : Nat) (vv : Value), i ≤ shards.length ∧ k = shards.length - i ∧ vi = .int .i64 (i : Int) ∧ Co w0 wr c S (ThCell p (.cells #[.slice asl shards.length csl, vv, .int .i64 0, .slice none 0 0] 69 (0, 0)) ::
      ThRow 1 (.slice asl shards.length csl) (shards.map iv) :: ThRow 1 vv ((cntN 2 i ds).1.map iv) :: ThRdr r (cntN 2 i ds).2 :: R) rows)
    case atStart => exact ⟨0, _, Nat.zero_le _, rfl, rfl, HX.out⟩
    case round =>
      obtain ⟨i, vv, hi, hk2, hvi, hC⟩ := hrel
      subst hvi
      clear HX
      by_cases hlt2 : i < shards.length
      case pos =>
        have k1 := cell_of hC.cellR 1 rfl
        rw [show (#[Value.slice asl shards.length csl, vv, .int .i64 0, .slice none 0 0] : Array Value)[1] = vv from rfl] at k1
        have hsn := cntN_snoc 2 i ds
        have hnl := cntN_len 2 i ds
        have HCC := Lib.hid hC
        clear hC
        obtain ⟨q, hq⟩ : ∃ q, cntN 2 i ds = q := ⟨_, rfl⟩
        rw [hq] at hsn hnl HCC
        obtain ⟨q2, hq2⟩ : ∃ z, cntR 2 q.2 = z := ⟨_, rfl⟩
        rw [hq2] at hsn
        obtain ⟨z, d2⟩ := q2
        obtain ⟨xs, d3⟩ := q
        dsimp only at hsn hnl HCC hq2
        have HSN := Lib.hid (show _ ∧ _ ∧ _ from ⟨hsn, hnl, hq2⟩)
        clear hsn hnl hq hq2
        go_wp2_with fail
        refine wp_region_M (fun W => W.cell? ⟨p, 1, none⟩ = some vv) 9 (by kernel_rfl) ?_
        refine wpAnyM_take (by kernel_rfl) (by intro c a d v w h; cases d <;> exact h) [(0, false), (1, false), (2, false), (3, false), (4, true), (5, false)] (fuel := 6) (by kernel_rfl) ?_
        apply Exists.intro; refine ⟨?_, k1, ?_⟩
        · iterate 6 ((first | (apply yieldN; (· (simp only [List.getElem?_toArray, List.getElem?_cons_succ, List.getElem?_cons_zero]; try rfl)); (· rfl)) | ((first | apply yieldP | apply yieldL); (· (simp only [List.getElem?_toArray, List.getElem?_cons_succ, List.getElem?_cons_zero]; try rfl)); (· rfl); (· (intros; go_simp; try with_reducible rfl)))); (· (simp only [Act.put, List.setIfInBounds_toArray, List.set_cons_zero, List.set_cons_succ]; try rfl)))
          exact rfl
        refine wpAnyM_one (fuel := 5) (i := 6) (by kernel_rfl) (by rfl) (fun K hK => ?_)    -- CALL
        go_wp2_with fail
        have hct := (HCC.out.drew.permR (List.perm_middle (l₁ := [_, _, _]))).rdCount 2 (by decide)
        rw [HSN.out.2.2] at hct
        refine hct.mono ?_
        rintro e w7 ⟨rfl, h7⟩
        have h7 := h7.permR (List.perm_middle (l₁ := [_, _, _])).symm
        have k7 := cell_of h7.cellR 1 rfl
        rw [show (#[Value.slice asl shards.length csl, vv, .int .i64 0, .slice none 0 0] : Array Value)[1] = vv from rfl] at k7
        obtain ⟨D, hown, back⟩ := (h7.permR (List.perm_middle (l₁ := [_, _]))).row
        have ha1 := Upd.alloc0 w7 (.cells #[.int .i64 z] 3 (0, 0)) []
        have k8 := upd_cell ha1 k7
        obtain ⟨al, nl, cl, hvl, -⟩ := _root_.id hown
        subst hvl
        have hownA : OwnRow _ 1 _ _ D := OwnRow.frame hown (ha1.same (OwnRow.lt hown) (by simp))
        obtain ⟨nb, hnb, hsrc⟩ := (cell_new w7 (.int .i64 z) 3 (0, 0)).src (P := Try.prog) (tx := 22) Try.underlying22 (by intro u hu; rw [List.mem_singleton.1 hu]; rfl)
        obtain rfl : 1 = nb := by simpa using hnb
        have HBD := Lib.hid (show ∀ n', (xs.map iv).length = n' * 1 → n' + 1 ≤ 140737488355328 ∧ (n' + 1) * i0.bytes ≤ 140737488355328 from fun n' hn' => by
          rw [List.length_map, HSN.out.2.1] at hn'
          rw [hz2]; omega)
        have HBK := Lib.hid back
        have HO := Lib.hid (show _ ∧ _ ∧ _ ∧ _ from ⟨hownA, hsrc, k8, ha1⟩)
        clear hown back h7 hnb HCC k1 hct hownA hsrc ha1
        go_wp2_with fail
        refine hK _ _ k7 ?_
        clear hK
        refine wpAnyM_one (fuel := 4) (i := 7) (by kernel_rfl) (by rfl) (fun K hK => ?_)    -- buildSlice
        go_wp2_with fail
        refine hK _ _ k8 ?_
        clear hK
        refine wpAnyM_one (fuel := 3) (i := 8) (by kernel_rfl) (by rfl) (fun K hK => ?_)    -- b:append
        obtain ⟨hownA, hsrc, -, ha1⟩ := HO.out
        refine wpList_app rfl _ _ 22 22 rfl 1 _ _ _ rfl hownA _ i0 _ Try.underlying22 hi0 hz0 hz1 rfl _ _ _ rfl hsrc HBD.out ?_
        intro a9 n9 c9 w9 D9 hown9 hu9
        have h9 := (HBK.out w9 D9 (.slice a9 n9 c9) ((xs ++ [z]).map iv) (by rw [List.map_append]; exact hown9) ((ha1.mono (by simp) (fun b hb => .inr hb) : Upd w7 _ D D).trans hu9)).permR (List.perm_middle (l₁ := [_, _])).symm
        have k9 := cell_of h9.cellR 1 rfl
        rw [show (#[Value.slice asl shards.length csl, .slice al nl cl, .int .i64 0, .slice none 0 0] : Array Value)[1] = .slice al nl cl from rfl] at k9
        have y9 := frz_of h9.cellR 1
        have H10 := Lib.hid (h9.setR 1 (.slice a9 n9 c9))
        clear hown9 hu9 hownA hsrc ha1 h9 k7 k8 HO HBK
        go_wp2_with fail
        refine hK _ _ k9 ?_
        clear hK
        refine wpAnyM_of_any _ _ _ _ (by decide) ?_
        refine wpAny_list [9, 10, 11] (fuel := 0) (by kernel_rfl) ?_
        simp only [List.filterMap_cons, List.filterMap_nil, List.getElem?_toArray, List.getElem?_cons_succ, List.getElem?_cons_zero]
        go_wp2_with fail
        go_roundg (shards.length - (i + 1))
        case rel =>
          refine ⟨i + 1, .slice a9 n9 c9, by omega, rfl, by go_num, ?_⟩
          rw [HSN.out.1]
          exact H10.out
        case measure => omega
      obtain rfl : i = shards.length := by omega
      have hvl := cntN_len 2 shards.length ds
      have HG2 := HG.out
      obtain ⟨q, hq⟩ : ∃ q, cntN 2 shards.length ds = q := ⟨_, rfl⟩
      rw [hq] at hvl hC
      simp only [hq] at HG2
      obtain ⟨votes, dv⟩ := q
      dsimp only at hvl hC HG2
      have HG := Lib.hid HG2
      have hC := hC.permR (List.perm_middle (l₁ := [_, _, _]))
      have hct := hC.rdCount 2 (by decide)
      have HG2 := HG.out
      obtain ⟨q2, hq2⟩ : ∃ q, cntR 2 dv = q := ⟨_, rfl⟩
      rw [hq2] at hct
      simp only [hq2] at HG2
      obtain ⟨dc, d2⟩ := q2
      dsimp only at hct HG2
      have HG := Lib.hid HG2
      have HCT := Lib.hid hct
      have HVL := Lib.hid hvl
      clear hq hq2 HG2 hct hC hvl
      go_wp2_with fail
      refine HCT.out.mono ?_
      rintro e w7 ⟨rfl, h7⟩
      have h7 := h7.permR (List.perm_middle (l₁ := [])).symm
      have h8 := h7.permR (List.Perm.swap _ _ _)
      have k7 := cell_of h8.cellR 2 rfl
      have y7 := frz_of h8.cellR 2
      have h9 := (h8.setR 2 (.int .i64 dc)).permR (List.Perm.swap _ _ _)
      have H9 := Lib.hid h9
      clear h7 h8 h9 HCT
      go_wp2_with fail
      refine H9.out.rdRead.mono ?_
      rintro e w10 ⟨vo, rfl, h10⟩
      have HG2 := HG.out
      have hol := readR_len d2
      obtain ⟨q3, hq3⟩ : ∃ q, readR d2 = q := ⟨_, rfl⟩
      rw [hq3] at h10 hol
      simp only [hq3] at HG2
      obtain ⟨owes, d4⟩ := q3
      dsimp only at h10 HG2 hol
      have HG := Lib.hid HG2
      have h11 : Co w0 w10 c S (ThCell p (.cells #[.slice asl shards.length csl, vv, .int .i64 dc, .slice none 0 0] 69 (0, 0)) :: ThRow 1 (.slice asl shards.length csl) (shards.map iv) :: ThRow 1 vv (votes.map iv) :: ThRow 1 vo (owes.map iv) :: ThRdr r d4 :: R) rows :=
        h10.permR (by
          refine (List.perm_append_comm_assoc [ThRow 1 vo (owes.map iv), ThRdr r d4] [_, _, _] R).trans ?_
          exact List.Perm.refl _)
      have y11 := frz_of h11.cellR 3
      have k11 := cell_of h11.cellR 3 rfl
      have h12 : Co w0 _ c S (ThCell p (.cells #[.slice asl shards.length csl, vv, .int .i64 dc, vo] 69 (0, 0)) :: ThRow 1 (.slice asl shards.length csl) (shards.map iv) :: ThRow 1 vv (votes.map iv) :: ThRow 1 vo (owes.map iv) :: ThRdr r d4 :: R) rows := h11.setR 3 vo
      have H12 := Lib.hid h12
      obtain ⟨Do, ho⟩ := h11.ownR (A := [_, _, _, ThRow 1 vo (owes.map iv)]) (R := ThRdr r d4 :: R) (v := vo) (xs := owes.map iv) (by simp)
      have HOL := Lib.hid hol
      obtain ⟨ao, no, co, hvo, -⟩ := OwnRow.len ho
      subst hvo
      clear h10 h11 HG2 h12 hq3 H9 y7 k7 ho
      go_wp2_with fail
      obtain ⟨w13, hw13⟩ : ∃ x, x = w10.setCell ⟨p, 3, none⟩ (.slice ao no co) := ⟨_, rfl⟩
      rw [← hw13] at H12 ⊢
      clear hw13 y11 k11
      have HBD := Lib.hid (H12.out.permR (List.perm_middle (l₁ := [_, _, _, _]))).rdBad
      refine HBD.out.mono ?_
      rintro e w14 ⟨rfl, hW⟩
      subst w14
      have hgd : ∃ Es Ev Eo, ReadRow w13 1 (.slice asl shards.length csl) (shards.map iv) Es ∧ ReadRow w13 1 vv (votes.map iv) Ev ∧ ReadRow w13 1 (.slice ao no co) (owes.map iv) Eo := by
        obtain ⟨D1, o1⟩ := H12.out.ownR (A := [_, ThRow 1 (.slice asl shards.length csl) (shards.map iv), ThRow 1 vv (votes.map iv), ThRow 1 (.slice ao no co) (owes.map iv)]) (R := ThRdr r d4 :: R) (v := .slice asl shards.length csl) (xs := shards.map iv) (by simp)
        obtain ⟨D2, o2⟩ := H12.out.ownR (A := [_, ThRow 1 (.slice asl shards.length csl) (shards.map iv), ThRow 1 vv (votes.map iv), ThRow 1 (.slice ao no co) (owes.map iv)]) (R := ThRdr r d4 :: R) (v := vv) (xs := votes.map iv) (by simp)
        obtain ⟨D3, o3⟩ := H12.out.ownR (A := [_, ThRow 1 (.slice asl shards.length csl) (shards.map iv), ThRow 1 vv (votes.map iv), ThRow 1 (.slice ao no co) (owes.map iv)]) (R := ThRdr r d4 :: R) (v := .slice ao no co) (xs := owes.map iv) (by simp)
        obtain ⟨E1, r1, -⟩ := o1.read
        obtain ⟨E2, r2, -⟩ := o2.read
        obtain ⟨E3, r3, -⟩ := o3.read
        exact ⟨E1, E2, E3, r1, r2, r3⟩
      obtain ⟨Es, Ev, Eo, r1, r2, r3⟩ := hgd
      have HGO := Lib.hid (good_any w13 p ⟨shards, votes, dc, owes⟩ _ _ _ Es Ev Eo (0, 0) H12.out.cellR r1 r2 r3)
      have k12 := (H12.out.len)
      clear r1 r2 r3 HBD hol
      cases hd4 : d4.2 with
      | true =>
        clear k12
        have HD4 := Lib.hid hd4
        clear hd4
        go_wp2_with fail
        go_ret2
        rw [HGS.out, HG.out.1, if_pos (.inl HD4.out)]
        exact ⟨rfl, Sep.dropL [_, _, _, _, _] H12.out.out⟩
      | false =>
      have HD4 := Lib.hid hd4
      clear hd4
      by_cases hle : id ≤ last
      · clear k12
        go_wp2_with fail
        go_ret2
        rw [HGS.out, HG.out.1, if_pos (.inr (.inl hle))]
        exact ⟨rfl, Sep.dropL [_, _, _, _, _] H12.out.out⟩
      obtain ⟨gb, hgb⟩ : ∃ gb, goodS ⟨shards, votes, dc, owes⟩ = gb := ⟨_, rfl⟩
      rw [hgb] at HGO
      have HGB := Lib.hid hgb
      clear hgb k12
      go_wp2_with fail
      refine HGO.out.mono ?_
      rintro e w15 ⟨rfl, hu15⟩
      have H15 := Lib.hid (H12.out.keep hu15)
      clear hu15 H12 HGO
      cases gb with
      | false =>
        go_wp2_with fail
        go_ret2
        rw [HGS.out, HG.out.1, if_pos (.inr (.inr HGB.out))]
        exact ⟨rfl, Sep.dropL [_, _, _, _, _] H15.out.out⟩
      | true =>
      have hno : lookS id S = none := by
        cases hl : lookS id S with
        | none => rfl
        | some x =>
          have := HG.out.2.1 _ (look_mem hl)
          simp only at this
          omega
      obtain ⟨m, w16, km, hrun, -, h16⟩ := H15.out.begun (x := ⟨shards, votes, dc, owes⟩) hno ⟨HVL.out, hsl, HOL.out⟩ (by omega) HG.out.2.2.2
      have H16 := Lib.hid h16
      clear h16 hno H15
      go_wp2_with fail
      go_roundg (N - (j + 1))
      case rel =>
        refine ⟨j + 1, _, id, d4, by omega, rfl, by go_num, rfl, H16.out, ?_, ?_, by omega⟩
        · rw [HG.out.1, if_neg (by rw [HD4.out, HGB.out]; simp; omega)]
        · intro e he
          rcases List.mem_append.1 he with he | he
          · have := HG.out.2.1 e he; omega
          · rw [List.mem_singleton.1 he]; exact Int.le_refl _
      case measure => omega
end
end Go.Proofs.Ytebmmbommkpjaaa

/-
  CoordApart: each decision goes by its own votes: others' change nothing of it.
-/
namespace Go.Proofs.Ytebmmbommkpjaaa
open Go.RowKit Go.Av

theorem spot_of {w : World} {x : Addr} {v : Value} (h : w.cell? x = some v) : x.spot = none := by
  cases hs : x.spot with
  | none => rfl
  | some _ =>
    unfold World.cell? at h
    split at h <;> simp [hs] at h
theorem add_field {w : World} {x : Addr} {k : Nat} {v : Value} (h : w.cell? (x.add k) = some v) (j : Nat) : x.add (k + j) = ⟨(x.add k).block, (x.add k).off + j, none⟩ := by
  have h1 := spot_of h
  rw [← Go.Deep.add_add]
  generalize x.add k = y at h1 ⊢
  obtain ⟨b, o, sp⟩ := y
  simp only at h1
  subst h1
  exact Addr.add_lit b o j



set_option maxRecDepth 100000 in
set_option maxHeartbeats 8000000 in
theorem coordApart_walk (a1 : Option Addr) (len1 cap1 : Nat) (acts : List ActS) (a : Option Addr) (len cap : Nat) (z : List Int) (w : World) (h1 : IsActs w a1 len1 cap1 acts) (h : IsInts w a len cap z) :
    Calls Try.prog 5 #[.slice a1 len1 cap1, .slice a len cap] w fun e w' => e = .returned (.bool true) ∧ Below w.heap.size w w' := by
  obtain ⟨l, El, hl, hrl⟩ := h.read
  subst hl
  obtain ⟨hnl, hncl, hcml, hcl⟩ := row_cell hrl
  obtain ⟨hla, hlca, hca, haa, hac, hax⟩ := h1
  subst hla
  unfold maxLen at hcml hca
  have HRL := Lib.hid hrl
  have HAC := Lib.hid (show _ ∧ _ ∧ _ from ⟨haa, hac, hax⟩)
  clear h hrl hcl hnl haa hac hax
  by_cases hok1 : 30 < acts.length
  · go_enter Try.func5, Try.ntmps5
    go_wp2_with fail
    refine (awake20_any _).mono ?_
    rintro e w1 ⟨rfl, hu1⟩
    go_wp2_with fail
    go_ret
    exact ⟨rfl, hu1.below⟩
  by_cases hok2 : 4 < l.length
  · go_enter Try.func5, Try.ntmps5
    go_wp2_with fail
    refine (awake20_any _).mono ?_
    rintro e w1 ⟨rfl, hu1⟩
    go_wp2_with fail
    go_ret
    exact ⟨rfl, hu1.below⟩
  go_enter Try.func5, Try.ntmps5
  go_wp2_with fail
  refine (awake20_any _).mono ?_
  rintro e w1 ⟨rfl, hu1⟩
  go_wp2_with fail
  refine (new_coord ((Sep.start w).keep hu1)).mono ?_
  rintro e w2 ⟨c, rfl, H⟩
  have HT := Lib.hid (two_new H)
  clear H hu1
  go_wp2_with fail
  refine HT.out.mono ?_
  rintro e w3 ⟨d, rfl, H⟩
  have hb2 := H.below
  obtain ⟨R1, g1, b1⟩ := H.flip.use
  have hb := begin_any g1 77 _ l El (by decide) (HRL.out.frame (fun b hb => hb2.block b (HRL.out.lt b hb)))
  obtain ⟨r, hr⟩ : ∃ r, beginS [] 77 l = r := ⟨_, rfl⟩
  rw [hr] at hb
  have HB := Lib.hid hb
  have HRB := Lib.hid hr
  have HBK := Lib.hid b1
  clear H hb hb2 hr g1 b1 HT
  go_wp2_with fail
  refine HB.out.mono ?_
  rintro e w4 ⟨rfl, h⟩
  have H := (HBK.out _ _ h).flip
  by_cases hr0 : r.1 = 0
  case neg =>
    have hb : (r.1 != 0) = true := by simp [hr0]
    have HBB := Lib.hid H.below
    clear H hr0 h HB HBK
    go_wp2_with fail
    go_ret
    exact ⟨rfl, HBB.out⟩
  have hbz : (r.1 != 0) = false := by simp [hr0]
  have hb2 := H.below
  obtain ⟨R1, g1, b1⟩ := H.use
  have hb := begin_any g1 77 _ l El (by decide) (HRL.out.frame (fun b hb => hb2.block b (HRL.out.lt b hb)))
  rw [HRB.out] at hb
  have HB2 := Lib.hid hb
  have HBK2 := Lib.hid b1
  clear H hb hb2 g1 b1 HB HBK h hr0
  go_wp2_with fail
  refine HB2.out.mono ?_
  rintro e w5 ⟨rfl, h⟩
  have HST := Lib.hid (HBK2.out _ _ h).flip
  clear HB2 HBK2 h
  go_wp2_with fail
  go_loopg [7] acts.length (fun k v wr => ∃ (p : Nat) (S T : CoS), p ≤ acts.length ∧ k = acts.length - p ∧ v = .int .i64 (p : Int) ∧ Two w wr c S d T [] [] ∧ lookS 77 S = lookS 77 T)
  case atStart => exact ⟨0, _, _, Nat.zero_le _, rfl, rfl, HST.out, rfl⟩
  case round =>
    obtain ⟨p, S, T, hp, hk, hv3, H, hlook⟩ := hrel
    subst hv3
    clear HST
    by_cases hlt : p < acts.length
    case neg =>
      have HBB := Lib.hid H.below
      clear H hlook
      go_wp2_with fail
      go_ret
      exact ⟨rfl, HBB.out⟩
    obtain ⟨x, hxa⟩ : ∃ x, a1 = some x := by
      cases a1 with
      | none => exact absurd (HAC.out.1 rfl) (by omega)
      | some x => exact ⟨x, rfl⟩
    subst hxa
    obtain ⟨g0, g1, g2, g3, g4⟩ := HAC.out.2.1 x rfl p hlt
    obtain ⟨hidm, Ev, hvs⟩ := HAC.out.2.2 _ (List.getElem_mem hlt)
    obtain ⟨q0, hq0⟩ : ∃ q, acts[p] = q := ⟨_, rfl⟩
    rw [hq0] at g0 g1 g2 g3 g4 hvs hidm
    obtain ⟨op, aid, avs, ash, sh, yes⟩ := q0
    dsimp only at g0 g1 g2 g3 g4 hvs hidm
    have HVS := Lib.hid hvs
    obtain ⟨aS, nS, cS, hvs, -⟩ := hvs
    subst hvs
    have hbl := H.below
    have up : ∀ {j : Nat} {v : Value}, w.cell? (x.add j) = some v → wr.cell? (x.add j) = some v := fun hv => (hbl.cell (World.block_lt_of_cell? w _ hv)).trans hv
    have g0 := up g0
    have g1 := up g1
    have g2 := up g2
    have g3 := up g3
    have g4 := up g4
    rw [add_field g0 1] at g1
    rw [add_field g0 2] at g2
    rw [add_field g0 3] at g3
    rw [add_field g0 4] at g4
    clear hbl up hq0
    by_cases hs6 : 6 < nS
    · have HBB := Lib.hid (H.newCell (.cells #[.int .i64 op, .int .i64 aid, .slice aS nS cS, .int .i64 sh, .bool yes] 40 (0, 0))).below
      clear H hlook
      go_wp2_with fail
      go_ret
      exact ⟨rfl, HBB.out⟩
    obtain ⟨S1, hS1⟩ : ∃ z, S = z := ⟨_, rfl⟩
    by_cases hid : aid = 77
    · subst hid
      have hM2 := H.newCell (.cells #[.int .i64 op, .int .i64 77, .slice aS nS cS, .int .i64 sh, .bool yes] 40 (0, 0))
      rw [hS1] at hM2 hlook
      have HL := Lib.hid hlook
      clear H hlook hS1
      have c0 := cell_of hM2.cellR 0 rfl
      by_cases hop : 0 < op
      · have c1 := cell_of hM2.cellR 1 rfl
        have c2 := cell_of hM2.cellR 2 rfl
        have c3 := cell_of hM2.cellR 3 rfl
        have c4 := cell_of hM2.cellR 4 rfl
        obtain ⟨R1, h1, b1⟩ := hM2.use
        have hbl := hM2.below
        have HS1 := Lib.hid (step_any h1 op 77 _ ash Ev sh yes (by decide) (HVS.out.frame (fun b hb => hbl.block b (HVS.out.lt b hb))))
        have HB1 := Lib.hid b1
        clear hM2 h1 b1 hbl
        go_wp2_with fail
        refine HS1.out.mono ?_
        rintro e' w7 ⟨rfl, h⟩
        have H := HB1.out _ _ h
        clear c0 c1 c2 c3 c4
        have c0 := cell_of H.cellR 0 rfl
        have c1 := cell_of H.cellR 1 rfl
        have c2 := cell_of H.cellR 2 rfl
        have c3 := cell_of H.cellR 3 rfl
        have c4 := cell_of H.cellR 4 rfl
        obtain ⟨R2, h1, b1⟩ := H.flip.use
        have hbl := H.below
        have HS2 := Lib.hid (step_any h1 op 77 _ ash Ev sh yes (by decide) (HVS.out.frame (fun b hb => hbl.block b (HVS.out.lt b hb))))
        have HB2 := Lib.hid b1
        clear H h1 b1 hbl HS1 HB1 h
        go_wp2_with fail
        refine HS2.out.mono ?_
        rintro e' w8 ⟨rfl, h⟩
        have H := (HB2.out _ _ h).flip
        have hlook := step_alike S1 T op 77 ash sh yes HL.out (by omega)
        clear HS2 HB2 h c0 c1 c2 c3 c4
        obtain ⟨S2, hS2⟩ : ∃ z, stepS S1 op 77 ash sh yes = z := ⟨_, rfl⟩
        obtain ⟨T2, hT2⟩ : ∃ z, stepS T op 77 ash sh yes = z := ⟨_, rfl⟩
        rw [hS2, hT2] at H hlook
        clear hS2 hT2
        obtain ⟨R1, h1, b1⟩ := H.use
        have HV := Lib.hid (decision_any h1 77)
        have HB := Lib.hid b1
        have HE := Lib.hid (show _ ∧ _ from ⟨hlook, decS_of _ _ _ hlook⟩)
        clear H h1 b1 hlook
        go_wp2_with fail
        refine HV.out.mono ?_
        rintro e' w9 ⟨rfl, h⟩
        have H := (HB.out _ _ h).flip
        obtain ⟨R2, h1, b1⟩ := H.use
        have hd2 := decision_any h1 77
        rw [← HE.out.2.1] at hd2
        have HV2 := Lib.hid hd2
        have HB2 := Lib.hid b1
        clear H h1 b1 HB HV h hd2
        obtain ⟨da, hda⟩ : ∃ x, decS S2 77 = x := ⟨_, rfl⟩
        obtain ⟨da, db⟩ := da
        rw [hda] at HV2 ⊢
        clear hda
        dsimp only at HV2 ⊢
        have hab : (da != da) = false := by simp
        have hbb : (db != db) = false := by simp
        go_wp2_with fail
        refine HV2.out.mono ?_
        rintro e' w10 ⟨rfl, h⟩
        have H := (HB2.out _ _ h).flip
        obtain ⟨R3, h1, b1⟩ := H.use
        have HV3 := Lib.hid (owes_any h1 77)
        have HH := Lib.hid H
        clear H h1 b1 HB2 HV2 h
        go_wp2_with fail
        refine HV3.out.mono ?_
        rintro e' w11 ⟨v11, D11, rfl, ho11, hu11⟩
        obtain ⟨E11, hr11, -⟩ := ho11.read
        have H := (HH.out.keep hu11).flip
        obtain ⟨R3, h1, b1⟩ := H.use
        have hw4 := owes_any h1 77
        rw [← HE.out.2.2] at hw4
        have HV4 := Lib.hid hw4
        have HH4 := Lib.hid H
        have HR11 := Lib.hid hr11
        clear H h1 b1 HH HV3 hw4 hu11 ho11 hr11
        go_wp2_with fail
        refine HV4.out.mono ?_
        rintro e' w12 ⟨v12, D12, rfl, ho12, hu12⟩
        obtain ⟨E12, hr12, -⟩ := ho12.read
        have H := (HH4.out.keep hu12).flip
        have hsm := same_any _ _ _ _ E11 E12 w12 (HR11.out.frame (hu12.same HR11.out.lt (by simp))) hr12
        have htt : decide (owesS S2 77 = owesS S2 77) = true := by simp
        rw [htt] at hsm
        have HS := Lib.hid hsm
        have HH5 := Lib.hid H
        clear H HV4 HH4 HR11 ho12 hu12 hr12 hsm htt
        go_wp2_with fail
        refine HS.out.mono ?_
        rintro e' w13 ⟨rfl, hu13⟩
        have HN := Lib.hid (HH5.out.keep hu13).dropR
        clear hu13 HH5 HS
        go_wp2_with fail
        go_roundg (acts.length - (p + 1))
        case rel => exact ⟨p + 1, _, _, by omega, rfl, by go_num, HN.out, HE.out.1⟩
        case measure => omega
      · have H := hM2
        have hlook := HL.out
        obtain ⟨S2, hS2⟩ : ∃ z, S1 = z := ⟨_, rfl⟩
        rw [hS2] at H hlook
        clear hM2 hS2
        obtain ⟨R1, h1, b1⟩ := H.use
        have HV := Lib.hid (decision_any h1 77)
        have HB := Lib.hid b1
        have HE := Lib.hid (show _ ∧ _ from ⟨hlook, decS_of _ _ _ hlook⟩)
        clear H h1 b1 hlook
        go_wp2_with fail
        refine HV.out.mono ?_
        rintro e' w9 ⟨rfl, h⟩
        have H := (HB.out _ _ h).flip
        obtain ⟨R2, h1, b1⟩ := H.use
        have hd2 := decision_any h1 77
        rw [← HE.out.2.1] at hd2
        have HV2 := Lib.hid hd2
        have HB2 := Lib.hid b1
        clear H h1 b1 HB HV h hd2
        obtain ⟨da, hda⟩ : ∃ x, decS S2 77 = x := ⟨_, rfl⟩
        obtain ⟨da, db⟩ := da
        rw [hda] at HV2 ⊢
        clear hda
        dsimp only at HV2 ⊢
        have hab : (da != da) = false := by simp
        have hbb : (db != db) = false := by simp
        go_wp2_with fail
        refine HV2.out.mono ?_
        rintro e' w10 ⟨rfl, h⟩
        have H := (HB2.out _ _ h).flip
        obtain ⟨R3, h1, b1⟩ := H.use
        have HV3 := Lib.hid (owes_any h1 77)
        have HH := Lib.hid H
        clear H h1 b1 HB2 HV2 h
        go_wp2_with fail
        refine HV3.out.mono ?_
        rintro e' w11 ⟨v11, D11, rfl, ho11, hu11⟩
        obtain ⟨E11, hr11, -⟩ := ho11.read
        have H := (HH.out.keep hu11).flip
        obtain ⟨R3, h1, b1⟩ := H.use
        have hw4 := owes_any h1 77
        rw [← HE.out.2.2] at hw4
        have HV4 := Lib.hid hw4
        have HH4 := Lib.hid H
        have HR11 := Lib.hid hr11
        clear H h1 b1 HH HV3 hw4 hu11 ho11 hr11
        go_wp2_with fail
        refine HV4.out.mono ?_
        rintro e' w12 ⟨v12, D12, rfl, ho12, hu12⟩
        obtain ⟨E12, hr12, -⟩ := ho12.read
        have H := (HH4.out.keep hu12).flip
        have hsm := same_any _ _ _ _ E11 E12 w12 (HR11.out.frame (hu12.same HR11.out.lt (by simp))) hr12
        have htt : decide (owesS S2 77 = owesS S2 77) = true := by simp
        rw [htt] at hsm
        have HS := Lib.hid hsm
        have HH5 := Lib.hid H
        clear H HV4 HH4 HR11 ho12 hu12 hr12 hsm htt
        go_wp2_with fail
        refine HS.out.mono ?_
        rintro e' w13 ⟨rfl, hu13⟩
        have HN := Lib.hid (HH5.out.keep hu13).dropR
        clear hu13 HH5 HS
        go_wp2_with fail
        go_roundg (acts.length - (p + 1))
        case rel => exact ⟨p + 1, _, _, by omega, rfl, by go_num, HN.out, HE.out.1⟩
        case measure => omega
    · have hb1 : ((aid : Int) != 77) = true := by simp [hid]
      have H0 := H.newCell (.cells #[.int .i64 op, .int .i64 aid, .slice aS nS cS, .int .i64 sh, .bool yes] 40 (0, 0))
      obtain ⟨R1, h1, b1⟩ := H0.use
      have hbl := H0.below
      have HS0 := Lib.hid (step_any h1 op aid _ ash Ev sh yes hidm (HVS.out.frame (fun b hb => hbl.block b (HVS.out.lt b hb))))
      have HB0 := Lib.hid b1
      have hl0 : lookS 77 (stepS S op aid ash sh yes) = lookS 77 T := (step_other S op aid 77 ash sh yes hid).trans hlook
      have HL := Lib.hid hl0
      clear H H0 h1 b1 hbl hlook hl0 hS1 hid
      go_wp2_with fail
      refine HS0.out.mono ?_
      rintro e' w6 ⟨rfl, h⟩
      have H := HB0.out _ _ h
      have k1 := cell_of H.cellR 1 rfl
      have f1 := frz_of H.cellR 1
      have hM2 := H.setR 1 (.int .i64 77)
      clear h HS0 HB0 H S1
      obtain ⟨S1, hS1⟩ : ∃ z, stepS S op aid ash sh yes = z := ⟨_, rfl⟩
      rw [hS1] at hM2 HL
      clear hS1 g0 g1 g2 g3 g4
      have c0 := cell_of hM2.cellR 0 rfl
      by_cases hop : 0 < op
      · have c1 := cell_of hM2.cellR 1 rfl
        have c2 := cell_of hM2.cellR 2 rfl
        have c3 := cell_of hM2.cellR 3 rfl
        have c4 := cell_of hM2.cellR 4 rfl
        obtain ⟨R1, h1, b1⟩ := hM2.use
        have hbl := hM2.below
        have HS1 := Lib.hid (step_any h1 op 77 _ ash Ev sh yes (by decide) (HVS.out.frame (fun b hb => hbl.block b (HVS.out.lt b hb))))
        have HB1 := Lib.hid b1
        clear hM2 h1 b1 hbl
        go_wp2_with fail
        refine HS1.out.mono ?_
        rintro e' w7 ⟨rfl, h⟩
        have H := HB1.out _ _ h
        clear c0 c1 c2 c3 c4
        have c0 := cell_of H.cellR 0 rfl
        have c1 := cell_of H.cellR 1 rfl
        have c2 := cell_of H.cellR 2 rfl
        have c3 := cell_of H.cellR 3 rfl
        have c4 := cell_of H.cellR 4 rfl
        obtain ⟨R2, h1, b1⟩ := H.flip.use
        have hbl := H.below
        have HS2 := Lib.hid (step_any h1 op 77 _ ash Ev sh yes (by decide) (HVS.out.frame (fun b hb => hbl.block b (HVS.out.lt b hb))))
        have HB2 := Lib.hid b1
        clear H h1 b1 hbl HS1 HB1 h
        go_wp2_with fail
        refine HS2.out.mono ?_
        rintro e' w8 ⟨rfl, h⟩
        have H := (HB2.out _ _ h).flip
        have hlook := step_alike S1 T op 77 ash sh yes HL.out (by omega)
        clear HS2 HB2 h c0 c1 c2 c3 c4
        obtain ⟨S2, hS2⟩ : ∃ z, stepS S1 op 77 ash sh yes = z := ⟨_, rfl⟩
        obtain ⟨T2, hT2⟩ : ∃ z, stepS T op 77 ash sh yes = z := ⟨_, rfl⟩
        rw [hS2, hT2] at H hlook
        clear hS2 hT2
        obtain ⟨R1, h1, b1⟩ := H.use
        have HV := Lib.hid (decision_any h1 77)
        have HB := Lib.hid b1
        have HE := Lib.hid (show _ ∧ _ from ⟨hlook, decS_of _ _ _ hlook⟩)
        clear H h1 b1 hlook
        go_wp2_with fail
        refine HV.out.mono ?_
        rintro e' w9 ⟨rfl, h⟩
        have H := (HB.out _ _ h).flip
        obtain ⟨R2, h1, b1⟩ := H.use
        have hd2 := decision_any h1 77
        rw [← HE.out.2.1] at hd2
        have HV2 := Lib.hid hd2
        have HB2 := Lib.hid b1
        clear H h1 b1 HB HV h hd2
        obtain ⟨da, hda⟩ : ∃ x, decS S2 77 = x := ⟨_, rfl⟩
        obtain ⟨da, db⟩ := da
        rw [hda] at HV2 ⊢
        clear hda
        dsimp only at HV2 ⊢
        have hab : (da != da) = false := by simp
        have hbb : (db != db) = false := by simp
        go_wp2_with fail
        refine HV2.out.mono ?_
        rintro e' w10 ⟨rfl, h⟩
        have H := (HB2.out _ _ h).flip
        obtain ⟨R3, h1, b1⟩ := H.use
        have HV3 := Lib.hid (owes_any h1 77)
        have HH := Lib.hid H
        clear H h1 b1 HB2 HV2 h
        go_wp2_with fail
        refine HV3.out.mono ?_
        rintro e' w11 ⟨v11, D11, rfl, ho11, hu11⟩
        obtain ⟨E11, hr11, -⟩ := ho11.read
        have H := (HH.out.keep hu11).flip
        obtain ⟨R3, h1, b1⟩ := H.use
        have hw4 := owes_any h1 77
        rw [← HE.out.2.2] at hw4
        have HV4 := Lib.hid hw4
        have HH4 := Lib.hid H
        have HR11 := Lib.hid hr11
        clear H h1 b1 HH HV3 hw4 hu11 ho11 hr11
        go_wp2_with fail
        refine HV4.out.mono ?_
        rintro e' w12 ⟨v12, D12, rfl, ho12, hu12⟩
        obtain ⟨E12, hr12, -⟩ := ho12.read
        have H := (HH4.out.keep hu12).flip
        have hsm := same_any _ _ _ _ E11 E12 w12 (HR11.out.frame (hu12.same HR11.out.lt (by simp))) hr12
        have htt : decide (owesS S2 77 = owesS S2 77) = true := by simp
        rw [htt] at hsm
        have HS := Lib.hid hsm
        have HH5 := Lib.hid H
        clear H HV4 HH4 HR11 ho12 hu12 hr12 hsm htt
        go_wp2_with fail
        refine HS.out.mono ?_
        rintro e' w13 ⟨rfl, hu13⟩
        have HN := Lib.hid (HH5.out.keep hu13).dropR
        clear hu13 HH5 HS
        go_wp2_with fail
        go_roundg (acts.length - (p + 1))
        case rel => exact ⟨p + 1, _, _, by omega, rfl, by go_num, HN.out, HE.out.1⟩
        case measure => omega
      · have H := hM2
        have hlook := HL.out
        obtain ⟨S2, hS2⟩ : ∃ z, S1 = z := ⟨_, rfl⟩
        rw [hS2] at H hlook
        clear hM2 hS2
        obtain ⟨R1, h1, b1⟩ := H.use
        have HV := Lib.hid (decision_any h1 77)
        have HB := Lib.hid b1
        have HE := Lib.hid (show _ ∧ _ from ⟨hlook, decS_of _ _ _ hlook⟩)
        clear H h1 b1 hlook
        go_wp2_with fail
        refine HV.out.mono ?_
        rintro e' w9 ⟨rfl, h⟩
        have H := (HB.out _ _ h).flip
        obtain ⟨R2, h1, b1⟩ := H.use
        have hd2 := decision_any h1 77
        rw [← HE.out.2.1] at hd2
        have HV2 := Lib.hid hd2
        have HB2 := Lib.hid b1
        clear H h1 b1 HB HV h hd2
        obtain ⟨da, hda⟩ : ∃ x, decS S2 77 = x := ⟨_, rfl⟩
        obtain ⟨da, db⟩ := da
        rw [hda] at HV2 ⊢
        clear hda
        dsimp only at HV2 ⊢
        have hab : (da != da) = false := by simp
        have hbb : (db != db) = false := by simp
        go_wp2_with fail
        refine HV2.out.mono ?_
        rintro e' w10 ⟨rfl, h⟩
        have H := (HB2.out _ _ h).flip
        obtain ⟨R3, h1, b1⟩ := H.use
        have HV3 := Lib.hid (owes_any h1 77)
        have HH := Lib.hid H
        clear H h1 b1 HB2 HV2 h
        go_wp2_with fail
        refine HV3.out.mono ?_
        rintro e' w11 ⟨v11, D11, rfl, ho11, hu11⟩
        obtain ⟨E11, hr11, -⟩ := ho11.read
        have H := (HH.out.keep hu11).flip
        obtain ⟨R3, h1, b1⟩ := H.use
        have hw4 := owes_any h1 77
        rw [← HE.out.2.2] at hw4
        have HV4 := Lib.hid hw4
        have HH4 := Lib.hid H
        have HR11 := Lib.hid hr11
        clear H h1 b1 HH HV3 hw4 hu11 ho11 hr11
        go_wp2_with fail
        refine HV4.out.mono ?_
        rintro e' w12 ⟨v12, D12, rfl, ho12, hu12⟩
        obtain ⟨E12, hr12, -⟩ := ho12.read
        have H := (HH4.out.keep hu12).flip
        have hsm := same_any _ _ _ _ E11 E12 w12 (HR11.out.frame (hu12.same HR11.out.lt (by simp))) hr12
        have htt : decide (owesS S2 77 = owesS S2 77) = true := by simp
        rw [htt] at hsm
        have HS := Lib.hid hsm
        have HH5 := Lib.hid H
        clear H HV4 HH4 HR11 ho12 hu12 hr12 hsm htt
        go_wp2_with fail
        refine HS.out.mono ?_
        rintro e' w13 ⟨rfl, hu13⟩
        have HN := Lib.hid (HH5.out.keep hu13).dropR
        clear hu13 HH5 HS
        go_wp2_with fail
        go_roundg (acts.length - (p + 1))
        case rel => exact ⟨p + 1, _, _, by omega, rfl, by go_num, HN.out, HE.out.1⟩
        case measure => omega
end Go.Proofs.Ytebmmbommkpjaaa

/-
  CoordBack: what is decided, and who owes, is the same in one that is written and read.
-/
namespace Go.Proofs.Ytebmmbommkpjaaa
open Go.RowKit Go.Av

section
variable {w0 w : World} {c d : Nat} {S T : CoS} {R : List Thing} {rows : List (Value × Bs)}
theorem Co.toRowR {v : Value} {b : Bs} (h : Co w0 w c S (ThRow 1 v (b.map bv) :: R) rows) : Co w0 w c S R ((v, b) :: rows) := by
  obtain ⟨m, gs, h1, h2, hS⟩ := h
  exact ⟨m, gs, h1, h2, (hS.perm (perm_last _ _ _ _).symm).toRow⟩
theorem two_get (h : Co w0 w c S R rows) {v : Value} (hv : (v, bytesS S) ∈ rows) (hI : InvC S) (hn : S.length ≤ 1000) :
    Calls Try.prog 21 #[v] w fun e w' => ∃ d, e = .returned (.tuple #[.pointer (some ⟨d, 0, none⟩), .int .i64 0]) ∧ Two w0 w' d (sortS S) c S R rows := by
  obtain ⟨m, gs, h1, h2, hS⟩ := h
  have hb : (bytesS S).length ≤ 1073741824 := by
    have := entK_len h2 (keysS S)
    rw [keys_len] at this
    unfold bytesS
    rw [List.length_append, packI_len]
    omega
  have := get_any hS v (bytesS S) hv hb
  rw [getS_put hI (by omega)] at this
  refine this.mono ?_
  rintro e w' ⟨d, rfl, h'⟩
  exact ⟨d, rfl, m, gs, h1, h2, h'⟩
theorem Two.toRowR {v : Value} {b : Bs} (h : Two w0 w c S d T (ThRow 1 v (b.map bv) :: R) rows) : Two w0 w c S d T R ((v, b) :: rows) := by
  obtain ⟨m, gs, h1, h2, h3⟩ := h
  exact ⟨m, gs, h1, h2, (h3.permR (two_perm _ _ _ _).symm).toRowR⟩
theorem Two.get {v : Value} {b : Bs} (h : Two w0 w c S d T R rows) (hm : (v, b) ∈ rows) : ∃ E, ReadRow w 1 v (b.map bv) E := by
  obtain ⟨R', h1, -⟩ := h.use
  exact h1.get hm
theorem Two.drew (h : Two w0 w c S d T R rows) : Two w0 w.drew c S d T R rows := h.keep (Upd.refl w []).drew
/-- Put, of one of two. -/
theorem Two.put (h : Two w0 w c S d T R rows) (hn : S.length ≤ 1000) :
    Calls Try.prog 26 #[.pointer (some ⟨c, 0, none⟩)] w fun e w' => ∃ v, e = .returned v ∧ Two w0 w' c S d T R ((v, bytesS S) :: rows) := by
  obtain ⟨m, gs, h1, h2, h3⟩ := h
  refine (put_any h3 hn).mono ?_
  rintro e w' ⟨v, rfl, h'⟩
  exact ⟨v, rfl, m, gs, h1, h2, h'.toRowR⟩
end



set_option maxRecDepth 100000 in
set_option maxHeartbeats 8000000 in
theorem coordBack_walk (a1 : Option Addr) (len1 cap1 : Nat) (acts : List ActS) (a2 : Option Addr) (len2 cap2 : Nat) (acts2 : List ActS) (w : World) (h1 : IsActs w a1 len1 cap1 acts) (h2 : IsActs w a2 len2 cap2 acts2) :
    Calls Try.prog 9 #[.slice a1 len1 cap1, .slice a2 len2 cap2] w fun e w' => e = .returned (.bool true) ∧ Below w.heap.size w w' := by
  obtain ⟨hla, hlca, hca, haa, hac, hax⟩ := h1
  obtain ⟨hlb, hlcb, hcb, hba, hbc, hbx⟩ := h2
  subst hla hlb
  unfold maxLen at hca hcb
  have HA1 := Lib.hid (show _ ∧ _ ∧ _ from ⟨haa, hac, hax⟩)
  have HA2 := Lib.hid (show _ ∧ _ ∧ _ from ⟨hba, hbc, hbx⟩)
  clear haa hac hax hba hbc hbx
  by_cases hok1 : 30 < acts.length
  · go_enter Try.func9, Try.ntmps9
    go_wp2_with fail
    refine (awake20_any _).mono ?_
    rintro e w1 ⟨rfl, hu1⟩
    go_wp2_with fail
    go_ret
    exact ⟨rfl, hu1.below⟩
  by_cases hok2 : 30 < acts2.length
  · go_enter Try.func9, Try.ntmps9
    go_wp2_with fail
    refine (awake20_any _).mono ?_
    rintro e w1 ⟨rfl, hu1⟩
    go_wp2_with fail
    go_ret
    exact ⟨rfl, hu1.below⟩
  go_enter Try.func9, Try.ntmps9
  go_wp2_with fail
  refine (awake20_any _).mono ?_
  rintro e w1 ⟨rfl, hu1⟩
  go_wp2_with fail
  refine (new_coord ((Sep.start w).keep hu1)).mono ?_
  rintro e w2 ⟨c, rfl, H⟩
  have HT := Lib.hid H
  clear H hu1
  go_wp2_with fail
  go_loopg [6] acts.length (fun k v wr => ∃ (p : Nat) (S : CoS), p ≤ acts.length ∧ k = acts.length - p ∧ v = .int .i64 (p : Int) ∧ Co w wr c S [] [] ∧ InvC S ∧ S.length ≤ p)
  case atStart => exact ⟨0, _, Nat.zero_le _, rfl, rfl, HT.out, inv_nil, Nat.zero_le _⟩
  case round =>
    obtain ⟨p, S, hp, hk, hv3, H, hinv, hlen⟩ := hrel
    subst hv3
    clear HT
    have HI := Lib.hid hinv
    clear hinv
    by_cases hlt : p < acts.length
    case pos =>
      obtain ⟨x, hxa⟩ : ∃ x, a1 = some x := by
        cases a1 with
        | none => exact absurd (HA1.out.1 rfl) (by omega)
        | some x => exact ⟨x, rfl⟩
      subst hxa
      obtain ⟨g0, g1, g2, g3, g4⟩ := HA1.out.2.1 x rfl p hlt
      obtain ⟨hidm, Ev, hvs⟩ := HA1.out.2.2 _ (List.getElem_mem hlt)
      obtain ⟨q0, hq0⟩ : ∃ q, acts[p] = q := ⟨_, rfl⟩
      rw [hq0] at g0 g1 g2 g3 g4 hvs hidm
      obtain ⟨op, aid, avs, ash, sh, yes⟩ := q0
      dsimp only at g0 g1 g2 g3 g4 hvs hidm
      have HVS := Lib.hid hvs
      obtain ⟨aS, nS, cS, hvs, -⟩ := hvs
      subst hvs
      have G := Lib.hid (show _ ∧ _ ∧ _ ∧ _ ∧ _ from ⟨g0, g1, g2, g3, g4⟩)
      have hbl := H.below
      have up : ∀ {j : Nat} {v : Value}, w.cell? (x.add j) = some v → wr.cell? (x.add j) = some v := fun hv => (hbl.cell (World.block_lt_of_cell? w _ hv)).trans hv
      have g0 := up g0
      have g1 := up g1
      have g2 := up g2
      have g3 := up g3
      have g4 := up g4
      rw [add_field g0 1] at g1
      rw [add_field g0 2] at g2
      rw [add_field g0 3] at g3
      rw [add_field g0 4] at g4
      clear up hq0
      by_cases hs6 : 6 < nS
      · have HBB := Lib.hid H.below
        clear H hbl
        go_wp2_with fail
        go_ret
        exact ⟨rfl, HBB.out⟩
      have HS1 := Lib.hid (step_any H op aid _ ash Ev sh yes hidm (HVS.out.frame (fun b hb => hbl.block b (HVS.out.lt b hb))))
      have hl2 := step_len S op aid ash sh yes
      clear H hbl
      go_wp2_with fail
      refine HS1.out.mono ?_
      rintro e' w3 ⟨rfl, h⟩
      have HN := Lib.hid h
      clear h HS1 g0 g1 g2 g3 g4
      go_wp2_with fail
      go_roundg (acts.length - (p + 1))
      case rel => exact ⟨p + 1, _, by omega, rfl, by go_num, HN.out, step_inv HI.out _ _ _ _ _ hidm, by omega⟩
      case measure => omega
    have hlen2 : S.length ≤ 1000 := by omega
    have HP := Lib.hid (put_any H hlen2)
    clear H
    go_wp2_with fail
    refine HP.out.mono ?_
    rintro e w3 ⟨v, rfl, h⟩
    have h' := h.toRowR
    have HG := Lib.hid (two_get (v := v) h' (by simp) HI.out hlen2)
    clear h h' HP
    go_wp2_with fail
    refine HG.out.mono ?_
    rintro e w4 ⟨d, rfl, h⟩
    have HT := Lib.hid h.flip
    clear h HG
    go_wp2_with fail
    have HL := Lib.hid (show _ ∧ _ ∧ _ from ⟨sort_inv HI.out, fun z => (sort_look HI.out z).symm, sort_len HI.out⟩)
    obtain ⟨rows, hrows⟩ : ∃ rows, rows = [(v, bytesS S)] := ⟨_, rfl⟩
    rw [← hrows] at HT
    clear hrows
    have HS := Lib.hid (show S.length ≤ 30 from by omega)
    clear hlen hlen2
    go_loopg [9] acts2.length (fun k v wr => ∃ (p : Nat) (S T : CoS), p ≤ acts2.length ∧ k = acts2.length - p ∧ v = .int .i64 (p : Int) ∧ Two w wr c S d T [] rows ∧ InvC S ∧ InvC T ∧ (∀ z, lookS z S = lookS z T) ∧ S.length ≤ 30 + p)
    case atStart => exact ⟨0, _, _, Nat.zero_le _, rfl, rfl, HT.out, HI.out, HL.out.1, HL.out.2.1, by have := HS.out; omega⟩
    case round =>
      clear HT HL HI HS
      clear S
      obtain ⟨p, S, T, hp, hk, hv3, H, hiS, hiT, hall, hlen⟩ := hrel
      subst hv3
      have HI := Lib.hid (show _ ∧ _ ∧ _ from ⟨hiS, hiT, hall⟩)
      clear hiS hiT hall
      by_cases hlt : p < acts2.length
      case pos =>
        obtain ⟨x, hxa⟩ : ∃ x, a2 = some x := by
          cases a2 with
          | none => exact absurd (HA2.out.1 rfl) (by omega)
          | some x => exact ⟨x, rfl⟩
        subst hxa
        obtain ⟨g0, g1, g2, g3, g4⟩ := HA2.out.2.1 x rfl p hlt
        obtain ⟨hidm, Ev, hvs⟩ := HA2.out.2.2 _ (List.getElem_mem hlt)
        obtain ⟨q0, hq0⟩ : ∃ q, acts2[p] = q := ⟨_, rfl⟩
        rw [hq0] at g0 g1 g2 g3 g4 hvs hidm
        obtain ⟨op, aid, avs, ash, sh, yes⟩ := q0
        dsimp only at g0 g1 g2 g3 g4 hvs hidm
        have HVS := Lib.hid hvs
        obtain ⟨aS, nS, cS, hvs, -⟩ := hvs
        subst hvs
        have G := Lib.hid (show _ ∧ _ ∧ _ ∧ _ ∧ _ from ⟨g0, g1, g2, g3, g4⟩)
        have hbl := H.below
        have up : ∀ {j : Nat} {v : Value}, w.cell? (x.add j) = some v → wr.cell? (x.add j) = some v := fun hv => (hbl.cell (World.block_lt_of_cell? w _ hv)).trans hv
        have g0 := up g0
        have g1 := up g1
        have g2 := up g2
        have g3 := up g3
        have g4 := up g4
        rw [add_field g0 1] at g1
        rw [add_field g0 2] at g2
        rw [add_field g0 3] at g3
        rw [add_field g0 4] at g4
        clear up hq0
        by_cases hs6 : 6 < nS
        · have HBB := Lib.hid H.below
          clear H hbl
          go_wp2_with fail
          go_ret
          exact ⟨rfl, HBB.out⟩
        obtain ⟨R1, f1, b1⟩ := H.use
        have HS1 := Lib.hid (step_any f1 op aid _ ash Ev sh yes hidm (HVS.out.frame (fun b hb => hbl.block b (HVS.out.lt b hb))))
        have HB1 := Lib.hid b1
        have hl2 := step_len S op aid ash sh yes
        clear H hbl f1 b1
        go_wp2_with fail
        refine HS1.out.mono ?_
        rintro e' w5 ⟨rfl, h⟩
        have H := (HB1.out _ _ h).flip
        have hbl := H.below
        clear g0 g1 g2 g3 g4
        have up : ∀ {j : Nat} {v : Value}, w.cell? (x.add j) = some v → _ := fun hv => (hbl.cell (World.block_lt_of_cell? w _ hv)).trans hv
        have g0 := up G.out.1
        have g1 := up G.out.2.1
        have g2 := up G.out.2.2.1
        have g3 := up G.out.2.2.2.1
        have g4 := up G.out.2.2.2.2
        rw [add_field g0 1] at g1
        rw [add_field g0 2] at g2
        rw [add_field g0 3] at g3
        rw [add_field g0 4] at g4
        clear up
        obtain ⟨R1, f1, b1⟩ := H.use
        have HS2 := Lib.hid (step_any f1 op aid _ ash Ev sh yes hidm (HVS.out.frame (fun b hb => hbl.block b (HVS.out.lt b hb))))
        have HB2 := Lib.hid b1
        clear H hbl f1 b1 h HS1 HB1
        go_wp2_with fail
        refine HS2.out.mono ?_
        rintro e' w6 ⟨rfl, h⟩
        have H := (HB2.out _ _ h).flip
        have HI2 := Lib.hid (show _ ∧ _ ∧ _ from ⟨step_inv HI.out.1 op aid ash sh yes hidm, step_inv HI.out.2.1 op aid ash sh yes hidm, step_all HI.out.2.2 op aid ash sh yes⟩)
        obtain ⟨S2, hS2⟩ : ∃ z, stepS S op aid ash sh yes = z := ⟨_, rfl⟩
        obtain ⟨T2, hT2⟩ : ∃ z, stepS T op aid ash sh yes = z := ⟨_, rfl⟩
        rw [hS2, hT2] at H
        rw [hS2, hT2] at HI2
        rw [hS2] at hl2
        have HLN := Lib.hid (show S2.length ≤ 30 + (p + 1) from by omega)
        have hbl := H.below
        clear g0 g1 g2 g3 g4
        have up : ∀ {j : Nat} {v : Value}, w.cell? (x.add j) = some v → _ := fun hv => (hbl.cell (World.block_lt_of_cell? w _ hv)).trans hv
        have g0 := up G.out.1
        have g1 := up G.out.2.1
        have g2 := up G.out.2.2.1
        have g3 := up G.out.2.2.2.1
        have g4 := up G.out.2.2.2.2
        rw [add_field g0 1] at g1
        rw [add_field g0 2] at g2
        rw [add_field g0 3] at g3
        rw [add_field g0 4] at g4
        clear up
        clear HI HS2 HB2 h hS2 hT2 hl2 hlen
        clear S T
        obtain ⟨R1, f1, b1⟩ := H.use
        have HV := Lib.hid (decision_any f1 aid)
        have HB := Lib.hid b1
        have HE := Lib.hid (decS_of _ _ aid (HI2.out.2.2 aid))
        clear H f1 b1 hbl
        go_wp2_with fail
        refine HV.out.mono ?_
        rintro e' w9 ⟨rfl, h⟩
        have H := (HB.out _ _ h).flip
        have hbl := H.below
        clear g0 g1 g2 g3 g4
        have up : ∀ {j : Nat} {v : Value}, w.cell? (x.add j) = some v → _ := fun hv => (hbl.cell (World.block_lt_of_cell? w _ hv)).trans hv
        have g0 := up G.out.1
        have g1 := up G.out.2.1
        have g2 := up G.out.2.2.1
        have g3 := up G.out.2.2.2.1
        have g4 := up G.out.2.2.2.2
        rw [add_field g0 1] at g1
        rw [add_field g0 2] at g2
        rw [add_field g0 3] at g3
        rw [add_field g0 4] at g4
        clear up
        obtain ⟨R2, f1, b1⟩ := H.use
        have hd2 := decision_any f1 aid
        rw [← HE.out.1] at hd2
        have HV2 := Lib.hid hd2
        have HB2 := Lib.hid b1
        clear H f1 b1 HB HV h hd2 hbl
        obtain ⟨da, hda⟩ : ∃ x, decS S2 aid = x := ⟨_, rfl⟩
        obtain ⟨da, db⟩ := da
        rw [hda] at HV2 ⊢
        clear hda
        dsimp only at HV2 ⊢
        have hab : (da != da) = false := by simp
        have hbb : (db != db) = false := by simp
        go_wp2_with fail
        refine HV2.out.mono ?_
        rintro e' w10 ⟨rfl, h⟩
        have H := (HB2.out _ _ h).flip
        have hbl := H.below
        clear g0 g1 g2 g3 g4
        have up : ∀ {j : Nat} {v : Value}, w.cell? (x.add j) = some v → _ := fun hv => (hbl.cell (World.block_lt_of_cell? w _ hv)).trans hv
        have g0 := up G.out.1
        have g1 := up G.out.2.1
        have g2 := up G.out.2.2.1
        have g3 := up G.out.2.2.2.1
        have g4 := up G.out.2.2.2.2
        rw [add_field g0 1] at g1
        rw [add_field g0 2] at g2
        rw [add_field g0 3] at g3
        rw [add_field g0 4] at g4
        clear up
        clear g0 g2 g3 g4
        have HH := Lib.hid H.drew
        clear H HB2 HV2 h hbl
        go_wp2_with fail
        refine wp_region_M (fun W => W.cell? ⟨(x.add (p * 5)).block, (x.add (p * 5)).off + 1, none⟩ = some (.int .i64 aid)) 26 (by kernel_rfl) ?_
        refine wpAnyM_take (by kernel_rfl) (by intro c a d v w h; cases d <;> exact h) [(0, false), (1, false), (2, false), (3, false), (4, false), (5, false), (6, false), (7, false), (8, false), (9, false), (10, false), (11, false), (12, false), (13, false), (14, true), (16, false), (17, false), (18, false), (19, false), (20, false), (21, true)] (fuel := 5) (by kernel_rfl) ?_
        apply Exists.intro; refine ⟨?_, g1, ?_⟩
        · iterate 21 ((first | (apply yieldN; (· (simp only [List.getElem?_toArray, List.getElem?_cons_succ, List.getElem?_cons_zero]; try rfl)); (· rfl)) | ((first | apply yieldP | apply yieldL); (· (simp only [List.getElem?_toArray, List.getElem?_cons_succ, List.getElem?_cons_zero]; try rfl)); (· rfl); (· (intros; go_simp; try with_reducible rfl)))); (· (simp only [Act.put, List.setIfInBounds_toArray, List.set_cons_zero, List.set_cons_succ]; try rfl)))
          exact rfl
        refine wpAnyM_one (fuel := 4) (i := 15) (by kernel_rfl) (by rfl) (fun K hK => ?_)    -- CALL
        go_wp2_with fail
        obtain ⟨R3, f1, b1⟩ := HH.out.use
        refine (owes_any f1 aid).mono ?_
        rintro e' w11 ⟨v11, D11, rfl, ho11, hu11⟩
        obtain ⟨E11, hr11, -⟩ := ho11.read
        have g1 := upd_cell hu11 g1
        have H4 := Lib.hid (HH.out.keep hu11).flip
        have HR11 := Lib.hid hr11
        clear f1 b1 ho11 hr11 hu11 HH
        go_wp2_with fail
        refine hK _ _ g1 ?_
        clear hK
        refine wpAnyM_one (fuel := 3) (i := 22) (by kernel_rfl) (by rfl) (fun K hK => ?_)    -- CALL
        go_wp2_with fail
        obtain ⟨R4, f1, b1⟩ := H4.out.use
        have hw4 := owes_any f1 aid
        rw [← HE.out.2] at hw4
        refine hw4.mono ?_
        rintro e' w12 ⟨v12, D12, rfl, ho12, hu12⟩
        obtain ⟨E12, hr12, -⟩ := ho12.read
        have g2 := upd_cell hu12 g1
        have H5 := Lib.hid (H4.out.keep hu12).flip
        have hsm := same_any _ _ _ _ E11 E12 w12 (HR11.out.frame (hu12.same HR11.out.lt (by simp))) hr12
        rw [show decide (owesS S2 aid = owesS S2 aid) = true by simp] at hsm
        have HSM := Lib.hid hsm
        clear f1 b1 ho12 hr12 hu12 H4 HR11 hw4 hsm
        go_wp2_with fail
        refine hK _ _ g2 ?_
        clear hK
        refine wpAnyM_one (fuel := 2) (i := 23) (by kernel_rfl) (by rfl) (fun K hK => ?_)    -- CALL
        go_wp2_with fail
        refine HSM.out.mono ?_
        rintro e' w13 ⟨rfl, hu13⟩
        have HN := Lib.hid (H5.out.keep hu13)
        have g3 := upd_cell hu13 g2
        clear hu13 H5 HSM
        go_wp2_with fail
        refine hK _ _ g3 ?_
        clear hK
        refine wpAnyM_take (by kernel_rfl) (by intro c a d v w h; cases d <;> exact h) [(24, false), (25, false)] (fuel := 0) (by kernel_rfl) ?_
        apply Exists.intro; refine ⟨?_, g3, ?_⟩
        · iterate 2 ((first | (apply yieldN; (· (simp only [List.getElem?_toArray, List.getElem?_cons_succ, List.getElem?_cons_zero]; try rfl)); (· rfl)) | ((first | apply yieldP | apply yieldL); (· (simp only [List.getElem?_toArray, List.getElem?_cons_succ, List.getElem?_cons_zero]; try rfl)); (· rfl); (· (intros; go_simp; try with_reducible rfl)))); (· (simp only [Act.put, List.setIfInBounds_toArray, List.set_cons_zero, List.set_cons_succ]; try rfl)))
          exact rfl
        refine wpAnyM_done (by kernel_rfl) ?_ _
        go_wp2_with fail
        go_roundg (acts2.length - (p + 1))
        case rel => exact ⟨p + 1, _, _, by omega, rfl, by go_num, HN.out, HI2.out.1, HI2.out.2.1, HI2.out.2.2, HLN.out⟩
        case measure => omega
      obtain ⟨bs, hbs⟩ : ∃ bs, bytesS S = bs := ⟨_, rfl⟩
      have hbt : bytesS T = bs := by rw [← hbs]; exact (bytes_alike HI.out.1 HI.out.2.1 HI.out.2.2).symm
      have hl1 : S.length ≤ 1000 := by omega
      have hl2 : T.length ≤ 1000 := by
        have := keys_alike HI.out.1 HI.out.2.1 HI.out.2.2
        rw [← keys_len T, ← this, keys_len]
        omega
      have HH := Lib.hid H
      have HB := Lib.hid (show _ ∧ _ from ⟨hbs, hbt⟩)
      clear H hbs hbt
      go_wp2_with fail
      refine wp_region_M (fun W => True) 6 (by kernel_rfl) ?_
      refine wpAnyM_take (by kernel_rfl) (by intro c a d v w h; cases d <;> exact h) [(0, false), (3, false)] (fuel := 6) (by kernel_rfl) ?_
      apply Exists.intro; refine ⟨?_, trivial, ?_⟩
      · iterate 2 ((first | (apply yieldN; (· (simp only [List.getElem?_toArray, List.getElem?_cons_succ, List.getElem?_cons_zero]; try rfl)); (· rfl)) | ((first | apply yieldP | apply yieldL); (· (simp only [List.getElem?_toArray, List.getElem?_cons_succ, List.getElem?_cons_zero]; try rfl)); (· rfl); (· (intros; go_simp; try with_reducible rfl)))); (· (simp only [Act.put, List.setIfInBounds_toArray, List.set_cons_zero, List.set_cons_succ]; try rfl)))
        exact rfl
      refine wpAnyM_one (fuel := 5) (i := 1) (by kernel_rfl) (by rfl) (fun K hK => ?_)    -- CALL
      go_wp2_with fail
      have hput := HH.out.drew.put hl1
      rw [HB.out.1] at hput
      refine hput.mono ?_
      rintro e w14 ⟨v14, rfl, H14⟩
      obtain ⟨E14, hr14⟩ := H14.get (v := v14) (b := bs) (by simp)
      have hcv := fun (W : World) (hW : ∀ b ∈ E14, W.heap[b]? = w14.heap[b]?) => conv_str (P := Try.prog) (src := 53) (dst := 9) Try.underlying53 Try.underlying5 Try.underlying9 hr14 W hW
      have hput2 := H14.flip.put hl2
      rw [HB.out.2] at hput2
      have HP2 := Lib.hid hput2
      have H14 := Lib.hid H14
      have hcv1 := hcv w14 (fun _ _ => rfl)
      have HCV := Lib.hid (show _ ∧ _ from ⟨hcv, hr14⟩)
      clear hput hput2 hcv hr14
      go_wp2_with fail
      refine hK _ _ trivial ?_
      clear hK
      refine wpAnyM_each (fuel := 4) [2, 4] (by kernel_rfl) (by simp) (fun i hi => ?_)
      simp only [List.mem_cons, List.not_mem_nil, or_false] at hi
      rcases hi with rfl | rfl
      case' inl =>
        refine ⟨_, by rfl, fun K hK => ?_⟩
        go_wp2_with fail
        refine hK _ _ trivial ?_
        clear hK hcv1
        refine wpAnyM_one (fuel := 3) (i := 4) (by kernel_rfl) (by rfl) (fun K hK => ?_)
        go_wp2_with fail
        refine HP2.out.mono ?_
        rintro e w15 ⟨v15, rfl, H15⟩
        obtain ⟨E15, hr15⟩ := H15.get (v := v15) (b := bs) (by simp)
        have hcv2 := conv_str (P := Try.prog) (src := 53) (dst := 9) Try.underlying53 Try.underlying5 Try.underlying9 hr15 w15 (fun _ _ => rfl)
        have HBL := Lib.hid H15.below
        clear H15 hr15 HP2
        go_wp2_with fail
        refine hK _ _ trivial ?_
        clear hK
        refine wpAnyM_one (fuel := 2) (i := 5) (by kernel_rfl) (by rfl) (fun K hK => ?_)
        go_wp2_with fail
        refine hK _ _ trivial ?_
        clear hK hcv2
      case' inr =>
        refine ⟨_, by rfl, fun K hK => ?_⟩
        clear hcv1
        go_wp2_with fail
        refine HP2.out.mono ?_
        rintro e w15 ⟨v15, rfl, H15⟩
        obtain ⟨E15, hr15⟩ := H15.get (v := v15) (b := bs) (by simp)
        obtain ⟨E16, hr16⟩ := H15.get (v := v14) (b := bs) (by simp)
        have hcv2 := conv_str (P := Try.prog) (src := 53) (dst := 9) Try.underlying53 Try.underlying5 Try.underlying9 hr15 w15 (fun _ _ => rfl)
        have hcv1 := conv_str (P := Try.prog) (src := 53) (dst := 9) Try.underlying53 Try.underlying5 Try.underlying9 hr16 w15 (fun _ _ => rfl)
        have HBL := Lib.hid H15.below
        clear H15 hr15 hr16 HP2
        go_wp2_with fail
        refine hK _ _ trivial ?_
        clear hK
        refine wpAnyM_each (fuel := 3) [2, 5] (by kernel_rfl) (by simp) (fun i hi => ?_)
        simp only [List.mem_cons, List.not_mem_nil, or_false] at hi
        rcases hi with rfl | rfl
        case' inl =>
          refine ⟨_, by rfl, fun K hK => ?_⟩
          go_wp2_with fail
          refine hK _ _ trivial ?_
          clear hK
          refine wpAnyM_one (fuel := 2) (i := 5) (by kernel_rfl) (by rfl) (fun K hK => ?_)
        case' inr =>
          refine ⟨_, by rfl, fun K hK => ?_⟩
          go_wp2_with fail
          refine hK _ _ trivial ?_
          clear hK
          refine wpAnyM_one (fuel := 2) (i := 2) (by kernel_rfl) (by rfl) (fun K hK => ?_)
        all_goals
          go_wp2_with fail
          refine hK _ _ trivial ?_
          clear hK hcv1 hcv2
      all_goals
        refine wpAnyM_of_any _ _ _ _ (by decide) ?_
        refine wpAny_list [6, 7] (fuel := 0) (by kernel_rfl) ?_
        simp only [List.filterMap_cons, List.filterMap_nil, List.getElem?_toArray, List.getElem?_cons_succ, List.getElem?_cons_zero]
        go_wp2_with fail
        go_ret
        exact ⟨by simp, HBL.out⟩
end Go.Proofs.Ytebmmbommkpjaaa

/-
  The program's decisions and the document's, side by side, in plain words.
-/
namespace Go.Proofs.Ytebmmbommkpjaaa
open Go.RowKit Go.Av
structure CRel (S T : CoS) : Prop where
  look : ∀ z, lookS z S = lookS z T
  invS : InvC S
  invT : InvC T
  sort : (T.map (·.1)).Pairwise (· < ·)
theorem crel_nil : CRel [] [] := ⟨fun _ => rfl, inv_nil, inv_nil, List.Pairwise.nil⟩
theorem look_perm {A B : CoS} (hp : A.Perm B) (hn : (B.map (·.1)).Nodup) (z : Int) : lookS z A = lookS z B := by
  have hnA : (A.map (·.1)).Nodup := ((hp.map (fun e : Int × EntS => e.1)).nodup_iff).2 hn
  cases ha : lookS z A with
  | none =>
    cases hb : lookS z B with
    | none => rfl
    | some x => exact absurd rfl (look_none ha (z, x) (hp.mem_iff.2 (look_mem hb)))
  | some x =>
    have hm := hp.mem_iff.1 (look_mem ha)
    obtain ⟨p, hp2, he⟩ := List.mem_iff_getElem.1 hm
    have := look_at hn hp2
    rw [he] at this
    exact this.symm
theorem inv_perm {A B : CoS} (hp : A.Perm B) (h : InvC B) : InvC A :=
  ⟨((hp.map (fun e : Int × EntS => e.1)).nodup_iff).2 h.1, fun e he => h.2 e (hp.mem_iff.1 he)⟩
section
variable {S T : CoS}
theorem CRel.dec (h : CRel S T) (id : Int) : decS T id = decS S id := by unfold decS; rw [h.look]
theorem CRel.owes (h : CRel S T) (id : Int) : owesS T id = owesS S id := by unfold owesS; rw [h.look]
theorem CRel.abort1 (h : CRel S T) (id : Int) : (abortS T id).1 = (abortS S id).1 ∧ (abortS T id).2.1 = (abortS S id).2.1 := by
  unfold abortS
  rw [h.look]
  cases lookS id T <;> exact ⟨rfl, rfl⟩
theorem CRel.vote1 (h : CRel S T) (id k : Int) (ok : Bool) : (voteS T id k ok).1 = (voteS S id k ok).1 := by
  unfold voteS
  rw [h.look]
  cases lookS id T with
  | none => rfl
  | some x =>
    dsimp only
    cases idxF k x.shards <;> rfl
theorem CRel.done1 (h : CRel S T) (id k : Int) : (doneS T id k).1 = (doneS S id k).1 := by
  unfold doneS
  rw [h.look]
  cases lookS id T with
  | none => rfl
  | some x =>
    dsimp only
    cases idxF k x.shards with
    | none => rfl
    | some i =>
      dsimp only
      split <;> rfl
theorem CRel.begin1 (h : CRel S T) (id : Int) (l : List Int) : (beginS T id l).1 = (beginS S id l).1 := by
  unfold beginS
  split
  · rfl
  · rw [h.look]
    cases lookS id T <;> rfl
theorem vote_ids (T : CoS) (id k : Int) (ok : Bool) : (voteS T id k ok).2.map (·.1) = T.map (·.1) := by
  unfold voteS
  cases lookS id T with
  | none => rfl
  | some x =>
    dsimp only
    cases idxF k x.shards with
    | none => rfl
    | some i => exact put_ids _ _ _
theorem done_ids (T : CoS) (id k : Int) : (doneS T id k).2.map (·.1) = T.map (·.1) := by
  unfold doneS
  cases lookS id T with
  | none => rfl
  | some x =>
    dsimp only
    cases idxF k x.shards with
    | none => rfl
    | some i =>
      dsimp only
      split
      · rfl
      · exact put_ids _ _ _
theorem abort_ids (T : CoS) (id : Int) : (abortS T id).2.2.map (·.1) = T.map (·.1) := by
  unfold abortS
  cases lookS id T with
  | none => rfl
  | some x => exact put_ids _ _ _
theorem CRel.vote (h : CRel S T) (id k : Int) (ok : Bool) (hid : id ≤ 9223372036854775807) : CRel (voteS S id k ok).2 (voteS T id k ok).2 :=
  ⟨fun z => step_all h.look 1 id [] k ok z, step_inv h.invS 1 id [] k ok hid, step_inv h.invT 1 id [] k ok hid, by rw [vote_ids]; exact h.sort⟩
theorem CRel.done (h : CRel S T) (id k : Int) (hid : id ≤ 9223372036854775807) : CRel (doneS S id k).2 (doneS T id k).2 :=
  ⟨fun z => step_all h.look 2 id [] k false z, step_inv h.invS 2 id [] k false hid, step_inv h.invT 2 id [] k false hid, by rw [done_ids]; exact h.sort⟩
theorem CRel.abort (h : CRel S T) (id : Int) (hid : id ≤ 9223372036854775807) : CRel (abortS S id).2.2 (abortS T id).2.2 :=
  ⟨fun z => step_all h.look 3 id [] 0 false z, step_inv h.invS 3 id [] 0 false hid, step_inv h.invT 3 id [] 0 false hid, by rw [abort_ids]; exact h.sort⟩
theorem CRel.begin (h : CRel S T) (id : Int) (l : List Int) (hid : id ≤ 9223372036854775807) {T' : CoS} (hb : BegR T id l T') : CRel (beginS S id l).2 T' := by
  have hI : InvC (beginS T id l).2 := step_inv h.invT 0 id l 0 false hid
  have hL : ∀ z, lookS z (beginS S id l).2 = lookS z (beginS T id l).2 := fun z => step_all h.look 0 id l 0 false z
  have hS : InvC (beginS S id l).2 := step_inv h.invS 0 id l 0 false hid
  obtain ⟨b1, b2⟩ := hb
  by_cases h0 : (beginS T id l).1 = 0
  · obtain ⟨p, hp, h1, h2, rfl⟩ := b2 h0
    have hT : (beginS T id l).2 = T ++ [(id, newE l)] ∧ lookS id T = none := by
      unfold beginS at h0 ⊢
      split
      · rename_i hc; rw [if_pos hc] at h0; cases h0
      · rename_i hc
        rw [if_neg hc] at h0
        cases hx : lookS id T with
        | some x => rw [hx] at h0; cases h0
        | none => exact ⟨rfl, rfl⟩
    rw [hT.1] at hI hL
    have hperm : (T.take p ++ (id, newE l) :: T.drop p).Perm (T ++ [(id, newE l)]) := by
      refine (List.perm_middle).trans ?_
      rw [List.take_append_drop]
      exact (List.perm_append_singleton _ _).symm
    refine ⟨fun z => (hL z).trans (look_perm hperm hI.1 z).symm, hS, inv_perm hperm hI, ?_⟩
    rw [List.map_append, List.map_cons, List.map_take, List.map_drop]
    have hspl : ((T.map (·.1)).take p ++ (T.map (·.1)).drop p).Pairwise (· < ·) := by rw [List.take_append_drop]; exact h.sort
    obtain ⟨s1, s2, s3⟩ := List.pairwise_append.1 hspl
    have hlow : ∀ a ∈ (T.map (·.1)).take p, a < id := fun a ha => by
      obtain ⟨j, hj, rfl⟩ := List.mem_iff_getElem.1 ha
      rw [List.length_take, List.length_map] at hj
      rw [List.getElem_take, List.getElem_map]
      exact h1 j (by omega) (by omega)
    have hhigh : ∀ b ∈ (T.map (·.1)).drop p, id < b := fun b hb => by
      have hlt : p < T.length := by
        rcases Nat.lt_or_ge p T.length with h | h
        · exact h
        · rw [List.drop_of_length_le (by simpa using h)] at hb; cases hb
      have hne : T[p].1 ≠ id := look_none hT.2 _ (List.getElem_mem hlt)
      have hp1 := h2 hlt
      have hfirst : id < T[p].1 := by omega
      have hd : (T.map (·.1)).drop p = T[p].1 :: (T.map (·.1)).drop (p + 1) := by
        rw [List.drop_eq_getElem_cons (by simpa using hlt), List.getElem_map]
      rw [hd] at hb s2
      rcases List.mem_cons.1 hb with rfl | hb
      · exact hfirst
      · have := (List.pairwise_cons.1 s2).1 b hb
        omega
    rw [List.pairwise_append]
    refine ⟨s1, List.pairwise_cons.2 ⟨hhigh, s2⟩, fun a ha b hb => ?_⟩
    rcases List.mem_cons.1 hb with rfl | hb
    · exact hlow a ha
    · exact s3 a ha b hb
  · rw [b1 h0]
    have hT : (beginS T id l).2 = T := by
      unfold beginS at h0 ⊢
      split
      · rfl
      · rename_i hc
        rw [if_neg hc] at h0
        cases hx : lookS id T with
        | some x => rfl
        | none => rw [hx] at h0; exact absurd rfl h0
    rw [hT] at hL
    exact ⟨hL, hS, h.invT, h.sort⟩
theorem keys_sortedT (h : (T.map (·.1)).Pairwise (· < ·)) : keysS T = T.map (·.1) := by
  unfold keysS
  apply List.mergeSort_of_pairwise
  exact h.imp fun {a b} hab => decide_eq_true (by omega)
theorem CRel.keys (h : CRel S T) : keysS S = T.map (·.1) := by rw [keys_alike h.invS h.invT h.look, keys_sortedT h.sort]
theorem CRel.open (h : CRel S T) : openSt S = openT T := by
  unfold openSt openT
  rw [h.keys, List.filter_map]
  congr 1
  apply List.filter_congr
  intro e he
  obtain ⟨p, hp, rfl⟩ := List.mem_iff_getElem.1 he
  show openF S T[p].1 = _
  unfold openF
  rw [h.look, look_at h.invT.1 hp]
  rfl
theorem CRel.bytes (h : CRel S T) : bytesS S = bytesO T := by
  rw [bytes_alike h.invS h.invT h.look]
  unfold bytesS bytesO
  rw [keys_sortedT h.sort, List.flatMap_map]
  congr 1
  have : ∀ l : CoS, (∀ e ∈ l, lookS e.1 T = some e.2) → l.flatMap (fun e => entK T e.1) = l.flatMap (fun e => entB e.1 e.2) := by
    intro l
    induction l with
    | nil => intro _; rfl
    | cons e l ih =>
      intro hl
      rw [List.flatMap_cons, List.flatMap_cons, ih (fun e he => hl e (by simp [he]))]
      congr 1
      unfold entK
      rw [hl e (by simp)]
  refine this T fun e he => ?_
  obtain ⟨p, hp, rfl⟩ := List.mem_iff_getElem.1 he
  exact look_at h.invT.1 hp
theorem CRel.sorted (h : CRel S T) : CRel (sortS S) T := ⟨fun z => (sort_look h.invS z).trans (h.look z), sort_inv h.invS, h.invT, h.sort⟩
end
end Go.Proofs.Ytebmmbommkpjaaa

/-
  Decisions in bytes: what is read was written so.
-/
namespace Go.Proofs.Ytebmmbommkpjaaa
open Go.RowKit Go.Av

theorem fold8 (b0 b1 b2 b3 b4 b5 b6 b7 : UInt8) : rdFold [b0, b1, b2, b3, b4, b5, b6, b7] = b0.toNat * 72057594037927936 + b1.toNat * 281474976710656 + b2.toNat * 1099511627776 + b3.toNat * 4294967296 + b4.toNat * 16777216 + b5.toNat * 65536 + b6.toNat * 256 + b7.toNat := by
  have h0 := b0.toNat_lt
  have h1 := b1.toNat_lt
  have h2 := b2.toNat_lt
  have h3 := b3.toNat_lt
  have h4 := b4.toNat_lt
  have h5 := b5.toNat_lt
  have h6 := b6.toNat_lt
  have h7 := b7.toNat_lt
  simp only [rdFold, List.foldl_cons, List.foldl_nil, rdStep]
  omega
theorem of_nat_eq {n : Nat} {b : UInt8} (h : n % 256 = b.toNat) : UInt8.ofNat n = b := by
  apply UInt8.toNat_inj.1
  rw [UInt8.toNat_ofNat']
  exact h
theorem pack_fold (b0 b1 b2 b3 b4 b5 b6 b7 : UInt8) : be8 (rdFold [b0, b1, b2, b3, b4, b5, b6, b7]) = [b0, b1, b2, b3, b4, b5, b6, b7] := by
  rw [fold8]
  have h0 := b0.toNat_lt
  have h1 := b1.toNat_lt
  have h2 := b2.toNat_lt
  have h3 := b3.toNat_lt
  have h4 := b4.toNat_lt
  have h5 := b5.toNat_lt
  have h6 := b6.toNat_lt
  have h7 := b7.toNat_lt
  unfold be8
  congr 1
  · exact of_nat_eq (by omega)
  congr 1
  · exact of_nat_eq (by omega)
  congr 1
  · exact of_nat_eq (by omega)
  congr 1
  · exact of_nat_eq (by omega)
  congr 1
  · exact of_nat_eq (by omega)
  congr 1
  · exact of_nat_eq (by omega)
  congr 1
  · exact of_nat_eq (by omega)
  congr 1
  exact of_nat_eq (by omega)
theorem rdI_inv {l : Bs} (h : 8 ≤ l.length) : l = packI (rdI l) ++ l.drop 8 := by
  match l, h with
  | b0 :: b1 :: b2 :: b3 :: b4 :: b5 :: b6 :: b7 :: r, _ =>
    have e : packI (rdI (b0 :: b1 :: b2 :: b3 :: b4 :: b5 :: b6 :: b7 :: r)) = [b0, b1, b2, b3, b4, b5, b6, b7] := by
      unfold rdI packI
      rw [show (b0 :: b1 :: b2 :: b3 :: b4 :: b5 :: b6 :: b7 :: r).take 8 = [b0, b1, b2, b3, b4, b5, b6, b7] from rfl, ← pack_fold]
      congr 1
      have hf : rdFold [b0, b1, b2, b3, b4, b5, b6, b7] < 18446744073709551616 := by
        rw [show ([b0, b1, b2, b3, b4, b5, b6, b7] : Bs) = [b0, b1, b2, b3, b4, b5, b6] ++ [b7] from rfl]
        unfold rdFold
        rw [List.foldl_append]
        exact rdStep_lt b7
      rw [pack_fold]
      generalize rdFold [b0, b1, b2, b3, b4, b5, b6, b7] = n at hf ⊢
      rw [IntKind.wrap_i64]
      omega
    rw [e]
    rfl
theorem i64_inv {d : Rd} (h : (i64R d).2.2 = false) : d.2 = false ∧ d.1 = packI (i64R d).1 ++ (i64R d).2.1 := by
  unfold i64R at h ⊢
  split at h
  · cases h
  · rename_i h8
    rw [if_neg h8]
    exact ⟨h, rdI_inv (by omega)⟩
theorem cnt_inv {m : Int} {d : Rd} (h : (cntR m d).2.2 = false) : d.2 = false ∧ d.1 = packI (cntR m d).1 ++ (cntR m d).2.1 := by
  unfold cntR cntS at h ⊢
  by_cases h8 : d.1.length < 8
  · rw [if_pos h8] at h; cases h
  · rw [if_neg h8] at h ⊢
    split at h
    · cases h
    · rename_i hb
      rw [if_neg hb]
      exact ⟨h, rdI_inv (by omega)⟩

theorem cntN_inv {m : Int} : ∀ {n : Nat} {d : Rd}, (cntN m n d).2.2 = false → d.2 = false ∧ d.1 = (cntN m n d).1.flatMap packI ++ (cntN m n d).2.1
  | 0, d, h => ⟨h, by simp [cntN]⟩
  | n + 1, d, h => by
    obtain ⟨h1, h2⟩ := cntN_inv (n := n) (d := (cntR m d).2) h
    obtain ⟨h3, h4⟩ := cnt_inv h1
    refine ⟨h3, ?_⟩
    show d.1 = ((cntR m d).1 :: (cntN m n (cntR m d).2).1).flatMap packI ++ (cntN m n (cntR m d).2).2.1
    rw [List.flatMap_cons, List.append_assoc, ← h2]
    exact h4
theorem readR_inv {d : Rd} (h : (readR d).2.2 = false) : d.2 = false ∧ d.1 = numsS (readR d).1 ++ (readR d).2.1 := by
  unfold readR at h ⊢
  obtain ⟨h1, h2⟩ := cntN_inv h
  obtain ⟨h3, h4⟩ := cnt_inv h1
  refine ⟨h3, ?_⟩
  unfold numsS
  have hb := cntR_bd (most := 4) (by decide) d
  have e : ((cntN 3 (cntR 4 d).1.toNat (cntR 4 d).2).1.length : Int) = (cntR 4 d).1 := by rw [cntN_len]; omega
  rw [e, List.append_assoc, ← h2]
  exact h4
theorem entR_inv {d : Rd} (h : (entR d).2.2 = false) : d.2 = false ∧ d.1 = entB (entR d).1.1 (entR d).1.2 ++ (entR d).2.1 := by
  unfold entR at h ⊢
  obtain ⟨a1, a2⟩ := readR_inv h
  obtain ⟨b1, b2⟩ := cnt_inv a1
  obtain ⟨c1, c2⟩ := cntN_inv b1
  obtain ⟨e1, e2⟩ := readR_inv c1
  obtain ⟨f1, f2⟩ := i64_inv e1
  refine ⟨f1, ?_⟩
  unfold entB
  dsimp only
  simp only [List.append_assoc]
  rw [← a2, ← b2, ← c2, ← e2]
  exact f2
theorem cntN_bd {m : Int} (hm : 0 ≤ m) : ∀ (n : Nat) (d : Rd), ∀ v ∈ (cntN m n d).1, 0 ≤ v ∧ v ≤ m
  | 0, d, v, h => by simp [cntN] at h
  | n + 1, d, v, h => by
    unfold cntN at h
    rcases List.mem_cons.1 h with rfl | h
    · exact cntR_bd hm d
    · exact cntN_bd hm n _ v h
theorem ris_sub : ∀ {s o : List Int} {a b : Int}, risF a o = true → risF b s = true → (∀ x ∈ o, x ∈ s) → o.Sublist s
  | [], [], _, _, _, _, _ => List.Sublist.slnil
  | [], x :: o, _, _, _, _, h => absurd (h x (by simp)) (by simp)
  | y :: s, [], _, _, _, _, _ => List.nil_sublist _
  | y :: s, x :: o, a, b, ho, hs, h => by
    rw [risF_cons] at ho hs
    simp only [Bool.and_eq_true] at ho hs
    have hog := fun z hz => (risF_all o x ho.2 z hz).1
    have hsg := fun z hz => (risF_all s y hs.2 z hz).1
    by_cases hxy : x = y
    · subst hxy
      refine List.Sublist.cons_cons x (ris_sub ho.2 hs.2 fun z hz => ?_)
      have h1 := h z (by simp [hz])
      rcases List.mem_cons.1 h1 with rfl | h1
      · have := hog z hz; omega
      · exact h1
    · have hxs : x ∈ s := by
        rcases List.mem_cons.1 (h x (by simp)) with h1 | h1
        · exact absurd h1 hxy
        · exact h1
      have hyx := hsg x hxs
      refine List.Sublist.cons y (ris_sub (a := a) (b := y) (by rw [risF_cons]; simp only [Bool.and_eq_true]; exact ho) hs.2 fun z hz => ?_)
      have h1 := h z hz
      rcases List.mem_cons.1 h1 with rfl | h1
      · rcases List.mem_cons.1 hz with h2 | h2
        · exact absurd h2.symm hxy
        · have := hog z h2; omega
      · exact h1
theorem good_inv {x : EntS} (h : goodS x = true) (hl : x.votes.length = x.shards.length) (hv : ∀ v ∈ x.votes, 0 ≤ v ∧ v ≤ 2) (hd : 0 ≤ x.dec ∧ x.dec ≤ 2) : InvE x := by
  unfold goodS at h
  split at h
  · cases h
  · rename_i hc
    simp only [not_or] at hc
    obtain ⟨c1, c2, c3, c4, c5⟩ := hc
    have hsub : x.owes.Sublist x.shards := by
      have hr : risS x.owes = true := by simpa using c3
      have hs : risS x.shards = true := by simpa using c2
      refine ris_sub hr hs fun z hz => ?_
      have c4' : (x.owes.any fun s => !(x.shards.contains s)) = false := by simpa using c4
      have := List.any_eq_false.1 c4' z hz
      simpa using this
    refine ⟨fun e => c1 (by rw [e]; rfl), by simpa using c2, hsub, hl, hv, by omega, ?_⟩
    split at h
    · rename_i h0
      simp only [Bool.and_eq_true, Bool.not_eq_true', decide_eq_true_eq] at h
      exact .inl ⟨h0, h.1.1, h.1.2, hsub.eq_of_length h.2⟩
    · rename_i h0
      split at h
      · rename_i h1
        exact .inr (.inl ⟨h1, h⟩)
      · rename_i h1
        exact .inr (.inr ⟨by omega, by simpa using h⟩)
theorem getN_inv : ∀ {k : Nat} {last : Int} {d : Rd} {S S' : CoS} {d' : Rd}, 0 ≤ last → getN k last d S = some (S', d') → d'.2 = false →
    d.2 = false ∧ ∃ es : CoS, S' = S ++ es ∧ es.length = k ∧ d.1 = es.flatMap (fun e => entB e.1 e.2) ++ d'.1 ∧ (last :: es.map (·.1)).Pairwise (· < ·) ∧ ∀ e ∈ es, InvE e.2 ∧ 1 ≤ e.1 ∧ e.1 ≤ 9223372036854775807
  | 0, last, d, S, S', d', _, h, hd => by
    cases h
    exact ⟨hd, [], by simp, rfl, rfl, by simp, by simp⟩
  | k + 1, last, d, S, S', d', hl, h, hd => by
    unfold getN at h
    split at h
    · cases h
    · rename_i hc
      simp only [not_or] at hc
      obtain ⟨c1, c2, c3⟩ := hc
      obtain ⟨a1, es, rfl, a3, a4, a5, a6⟩ := getN_inv (k := k) (by omega) h hd
      obtain ⟨b1, b2⟩ := entR_inv a1
      refine ⟨b1, (entR d).1 :: es, by simp, by simp [a3], ?_, ?_, fun e he => ?_⟩
      · rw [List.flatMap_cons, List.append_assoc, ← a4]
        exact b2
      · rw [List.map_cons, List.pairwise_cons]
        refine ⟨fun z hz => ?_, a5⟩
        rcases List.mem_cons.1 hz with rfl | hz
        · omega
        · have := (List.pairwise_cons.1 a5).1 z hz
          omega
      · rcases List.mem_cons.1 he with rfl | he
        · refine ⟨good_inv (by simpa using c3) ?_ ?_ ?_, by omega, (i64R_bd d).2⟩
          · show (cntN 2 _ _).1.length = _
            rw [cntN_len]
            rfl
          · exact cntN_bd (by decide) _ _
          · exact cntR_bd (by decide) _
        · exact a6 e he
theorem crel_refl {S : CoS} (h : InvC S) (hs : (S.map (·.1)).Pairwise (· < ·)) : CRel S S := ⟨fun _ => rfl, h, h, hs⟩
theorem getS_inv {b : Bs} {S : CoS} (h : getS b = some S) : CRel S S ∧ bytesO S = b ∧ S.length ≤ 1048576 := by
  unfold getS at h
  split at h
  · cases h
  · rename_i S' d hg
    split at h
    · rename_i hc
      cases h
      obtain ⟨a1, es, hes, a3, a4, a5, a6⟩ := getN_inv (Int.le_refl _) hg hc.1
      rw [List.nil_append] at hes
      subst hes
      obtain ⟨b1, b2⟩ := cnt_inv a1
      have hb := cntR_bd (most := 1048576) (by decide) (b, false)
      have hp := (List.pairwise_cons.1 a5).2
      have hI : InvC S := ⟨hp.imp fun {x y} hxy e => by omega, a6⟩
      refine ⟨crel_refl hI hp, ?_, by omega⟩
      unfold bytesO
      have e : ((S.length : Nat) : Int) = (cntR 1048576 (b, false)).1 := by omega
      rw [hc.2, List.append_nil] at a4
      rw [e, ← a4]
      exact b2.symm
    · cases h
end Go.Proofs.Ytebmmbommkpjaaa

/-
  What the document's own Coord reads is just what the program's reads, in plain words.
-/
namespace Go.Proofs.Ytebmmbommkpjaaa
open Go.RowKit Go.Av

/-- Who owes, as it is read. -/
def owesR (sh : List Int) : Nat → Int → Rd → List Bool → Option (List Bool × Rd)
  | 0, _, d, dn => some (dn, d)
  | n + 1, before, d, dn => if d.2 = true then some (dn, d) else
      match idxF (cntR 3 d).1 sh with
      | none => none
      | some i => if (cntR 3 d).1 ≤ before then none else owesR sh n (cntR 3 d).1 (cntR 3 d).2 (dn.set i false)
def kO (d : Rd) : Int := (cntR 4 (i64R d).2).1
def shO (d : Rd) : List Int × Rd := cntN 3 (kO d).toNat (cntR 4 (i64R d).2).2
def voO (d : Rd) : List Int × Rd := cntN 2 (kO d).toNat (shO d).2
def howO (d : Rd) : Int × Rd := cntR 2 (voO d).2
def oO (d : Rd) : Int × Rd := cntR 4 (howO d).2
def goodO (sh vo : List Int) (how o : Int) : Bool :=
  risS sh && decide (0 < sh.length) && !decide (1 < vo.countP (· == 2)) && !(vo.countP (· == 2) == 1 && how != 2) && !(vo.countP (· == 1) == sh.length && how != 1) && !(how == 1 && vo.countP (· == 1) != sh.length) && !(how == 0 && o != (sh.length : Int))
def getON : Nat → Int → Rd → CoS → Option (CoS × Rd)
  | 0, _, d, L => some (L, d)
  | n + 1, last, d, L => if d.2 = true then some (L, d) else
      match owesR (shO d).1 (oO d).1.toNat (-1) (oO d).2 (List.replicate (kO d).toNat true) with
      | none => none
      | some (dn, d') => if d'.2 = true ∨ (i64R d).1 ≤ last ∨ goodO (shO d).1 (voO d).1 (howO d).1 (oO d).1 = false then none else
          getON n (i64R d).1 d' (L ++ [((i64R d).1, ⟨(shO d).1, (voO d).1, (howO d).1, owesL (shO d).1 dn⟩)])
def finO (o : Option (CoS × Rd)) : Option CoS := match o with | none => none | some (S, r) => if r.2 = false ∧ r.1 = [] then some S else none
def getO (b : Bs) : Option CoS := if (i64R (b, false)).1 < 0 then none else finO (getON (i64R (b, false)).1.toNat 0 (i64R (b, false)).2 [])

theorem cnt_bad {m : Int} {d : Rd} (h : d.2 = true) : (cntR m d).2.2 = true := by
  cases hb : (cntR m d).2.2 with
  | true => rfl
  | false => have := (cnt_inv hb).1; rw [h] at this; cases this
theorem cntN_bad {m : Int} {n : Nat} {d : Rd} (h : d.2 = true) : (cntN m n d).2.2 = true := by
  cases hb : (cntN m n d).2.2 with
  | true => rfl
  | false => have := (cntN_inv hb).1; rw [h] at this; cases this
theorem idx_none {k : Int} : ∀ {l : List Int}, idxF k l = none ↔ k ∉ l
  | [] => by simp [idxF]
  | x :: l => by
    unfold idxF
    by_cases h : x = k
    · subst h; simp
    · rw [if_neg h, Option.map_eq_none_iff, idx_none]
      simp [Ne.symm h]
theorem idx_get {k : Int} : ∀ {l : List Int} {i : Nat}, idxF k l = some i → l[i]? = some k
  | [], _, h => by cases h
  | x :: l, i, h => by
    unfold idxF at h
    split at h
    · rename_i hx; cases h; simp [hx]
    · cases hj : idxF k l with
      | none => rw [hj] at h; cases h
      | some j => rw [hj] at h; cases h; simpa using idx_get hj
theorem owes_mem : ∀ {ss : List Int} {ds : List Bool} {s : Int}, ds.length = ss.length → (s ∈ owesL ss ds ↔ ∃ i : Nat, ss[i]? = some s ∧ ds[i]? = some false)
  | [], ds, s, _ => by cases ds <;> simp [owesL]
  | x :: ss, [], s, h => by simp at h
  | x :: ss, d :: ds, s, h => by
    have ih := owes_mem (ss := ss) (ds := ds) (s := s) (by simpa using h)
    rw [owesL]
    constructor
    · intro hm
      cases d with
      | true =>
        rw [if_pos rfl] at hm
        obtain ⟨i, h1, h2⟩ := ih.1 hm
        exact ⟨i + 1, by simpa using h1, by simpa using h2⟩
      | false =>
        rw [if_neg (by simp)] at hm
        rcases List.mem_cons.1 hm with rfl | hm
        · exact ⟨0, rfl, rfl⟩
        · obtain ⟨i, h1, h2⟩ := ih.1 hm
          exact ⟨i + 1, by simpa using h1, by simpa using h2⟩
    · rintro ⟨i, h1, h2⟩
      cases i with
      | zero =>
        simp at h1 h2
        subst h1 h2
        simp
      | succ i =>
        have := ih.2 ⟨i, by simpa using h1, by simpa using h2⟩
        split
        · exact this
        · exact List.mem_cons_of_mem _ this
theorem owes_subl : ∀ (ss : List Int) (ds : List Bool), (owesL ss ds).Sublist ss
  | [], ds => by cases ds <;> simp [owesL]
  | x :: ss, [] => by simp [owesL]
  | x :: ss, d :: ds => by
    rw [owesL]
    split
    · exact (owes_subl ss ds).cons x
    · exact (owes_subl ss ds).cons_cons x
theorem sub_filter {ss o : List Int} (h : o.Sublist ss) (hn : ss.Nodup) : ss.filter (fun s => decide (s ∈ o)) = o := by
  induction h with
  | slnil => rfl
  | @cons l1 l2 a h ih =>
    rw [List.nodup_cons] at hn
    have ha : a ∉ l1 := fun hm => hn.1 (h.subset hm)
    rw [List.filter_cons, if_neg (by simpa using ha)]
    exact ih hn.2
  | @cons_cons l1 l2 a h ih =>
    rw [List.nodup_cons] at hn
    rw [List.filter_cons, if_pos (by simp)]
    congr 1
    refine (List.filter_congr fun x hx => ?_).trans (ih hn.2)
    have hxa : x ≠ a := fun e => hn.1 (e ▸ hx)
    simp [hxa]
theorem sub_ext {ss o1 o2 : List Int} (hn : ss.Nodup) (h1 : o1.Sublist ss) (h2 : o2.Sublist ss) (h : ∀ s, s ∈ o1 ↔ s ∈ o2) : o1 = o2 := by
  rw [← sub_filter h1 hn, ← sub_filter h2 hn]
  exact List.filter_congr fun x _ => by simp [h x]
/-- What the loop over those that owe comes to. -/
theorem owesR_some {sh : List Int} (hn : sh.Nodup) : ∀ {n : Nat} {before : Int} {d d' : Rd} {dn dn' : List Bool}, dn.length = sh.length → owesR sh n before d dn = some (dn', d') → d'.2 = false →
    d' = (cntN 3 n d).2 ∧ risF before (cntN 3 n d).1 = true ∧ dn'.length = sh.length ∧ (∀ s ∈ (cntN 3 n d).1, s ∈ sh) ∧ ∀ s, s ∈ owesL sh dn' ↔ s ∈ owesL sh dn ∨ s ∈ (cntN 3 n d).1
  | 0, before, d, d', dn, dn', hl, h, hd => by
    cases h
    exact ⟨rfl, rfl, hl, by simp [cntN], by simp [cntN]⟩
  | n + 1, before, d, d', dn, dn', hl, h, hd => by
    unfold owesR at h
    split at h
    · cases h; rename_i hb; rw [hb] at hd; cases hd
    · split at h
      · cases h
      · rename_i i hi
        split at h
        · cases h
        · rename_i hlt
          obtain ⟨a1, a2, a3, a4, a5⟩ := owesR_some hn (by rw [List.length_set]; exact hl) h hd
          have hb := cntR_bd (most := 3) (by decide) d
          refine ⟨a1, ?_, a3, ?_, fun s => ?_⟩
          · show risF before ((cntR 3 d).1 :: (cntN 3 n (cntR 3 d).2).1) = true
            rw [risF_cons, a2, Bool.and_true]
            have h1 : ¬ 4 ≤ (cntR 3 d).1 := by omega
            simp [hlt, h1]
          · intro s hs
            have hs : s ∈ (cntR 3 d).1 :: (cntN 3 n (cntR 3 d).2).1 := hs
            rcases List.mem_cons.1 hs with rfl | hs
            · exact List.mem_of_getElem? (idx_get hi)
            · exact a4 s hs
          · rw [a5 s]
            show _ ↔ _ ∨ s ∈ (cntR 3 d).1 :: (cntN 3 n (cntR 3 d).2).1
            rw [List.mem_cons, owes_mem (by rw [List.length_set]; exact hl), owes_mem hl]
            have hgi := idx_get hi
            constructor
            · rintro (⟨j, h1, h2⟩ | h1)
              · by_cases hij : i = j
                · subst hij
                  rw [hgi] at h1
                  cases h1
                  exact .inr (.inl rfl)
                · rw [List.getElem?_set_ne hij] at h2
                  exact .inl ⟨j, h1, h2⟩
              · exact .inr (.inr h1)
            · rintro (⟨j, h1, h2⟩ | rfl | h1)
              · by_cases hij : i = j
                · subst hij
                  refine .inl ⟨i, h1, ?_⟩
                  rw [List.getElem?_set_self (by rw [hl]; exact idx_lt hi)]
                · exact .inl ⟨j, h1, by rw [List.getElem?_set_ne hij]; exact h2⟩
              · exact .inl ⟨i, hgi, by rw [List.getElem?_set_self (by rw [hl]; exact idx_lt hi)]⟩
              · exact .inr h1
theorem owesR_none {sh : List Int} : ∀ {n : Nat} {before : Int} {d : Rd} {dn : List Bool}, owesR sh n before d dn = none → (cntN 3 n d).2.2 = true ∨ risF before (cntN 3 n d).1 = false ∨ ∃ s ∈ (cntN 3 n d).1, s ∉ sh
  | 0, before, d, dn, h => by cases h
  | n + 1, before, d, dn, h => by
    unfold owesR at h
    split at h
    · cases h
    · split at h
      · rename_i hi
        exact .inr (.inr ⟨(cntR 3 d).1, by simp [cntN], idx_none.1 hi⟩)
      · rename_i i hi
        split at h
        · rename_i hlt
          refine .inr (.inl ?_)
          show risF before ((cntR 3 d).1 :: (cntN 3 n (cntR 3 d).2).1) = false
          rw [risF_cons]
          simp [hlt]
        · rename_i hlt
          rcases owesR_none h with h1 | h1 | ⟨s, h1, h2⟩
          · exact .inl h1
          · refine .inr (.inl ?_)
            show risF before ((cntR 3 d).1 :: (cntN 3 n (cntR 3 d).2).1) = false
            rw [risF_cons, h1, Bool.and_false]
          · exact .inr (.inr ⟨s, List.mem_cons_of_mem _ h1, h2⟩)
theorem owesR_bad {sh : List Int} : ∀ {n : Nat} {before : Int} {d d' : Rd} {dn dn' : List Bool}, owesR sh n before d dn = some (dn', d') → d'.2 = true → (cntN 3 n d).2.2 = true
  | 0, before, d, d', dn, dn', h, hd => by cases h; exact hd
  | n + 1, before, d, d', dn, dn', h, hd => by
    unfold owesR at h
    split at h
    · rename_i hb
      exact cntN_bad hb
    · split at h
      · cases h
      · split at h
        · cases h
        · exact owesR_bad (n := n) h hd
end Go.Proofs.Ytebmmbommkpjaaa

/-
  What the document's own Coord reads is just what the program's reads: all of it.
-/
namespace Go.Proofs.Ytebmmbommkpjaaa
open Go.RowKit Go.Av
theorem whole_cnt (vo : List Int) : (vo.countP (· == 1) == vo.length) = wholeS vo := by
  rw [Bool.eq_iff_iff, beq_iff_eq, List.countP_eq_length]
  unfold wholeS
  rw [List.all_eq_true]
theorem whole_no {vo : List Int} (h : wholeS vo = true) : vo.countP (· == 2) = 0 := by
  unfold wholeS at h
  rw [List.all_eq_true] at h
  rw [List.countP_eq_zero]
  intro v hv
  have := h v hv
  simp at this
  subst this
  simp
theorem good_same {sh vo ow : List Int} {how o : Int} (h1 : vo.length = sh.length) (hh : 0 ≤ how ∧ how ≤ 2) (ho : (ow.length : Int) = o) (hris : risS ow = true) (hsub : ∀ s ∈ ow, s ∈ sh) : goodO sh vo how o = goodS ⟨sh, vo, how, ow⟩ := by
  have hany : (ow.any fun s => !(sh.contains s)) = false := List.any_eq_false.2 fun s hs => by
    have := hsub s hs
    simp [this]
  have hW := whole_cnt vo
  rw [h1] at hW
  have hno := whole_no (vo := vo)
  unfold goodO goodS againstS
  dsimp only
  rw [hris, hany]
  generalize hA : vo.countP (· == 2) = A at hno ⊢
  have hA' : List.countP (fun v => v == (2 : Int)) vo = A := hA
  try rw [hA']
  generalize hC : vo.countP (· == 1) = C at hW ⊢
  have hC2 : (C != sh.length) = !wholeS vo := by rw [← hW]; rfl
  rw [hW, hC2]
  cases hs : risS sh with
  | false => simp
  | true =>
  by_cases hl : sh.length = 0
  · simp [hl]
  have hl0 : 0 < sh.length := by omega
  by_cases hA1 : 1 < A
  · simp [hA1]
  rw [if_neg (by simp [hl, hA1])]
  have hlen : (o != (sh.length : Int)) = !decide (ow.length = sh.length) := by
    subst ho
    by_cases he : ow.length = sh.length
    · simp [he]
    · have : ¬ (ow.length : Int) = (sh.length : Int) := by omega
      simp [he, this]
  rw [hlen]
  rcases (show how = 0 ∨ how = 1 ∨ how = 2 by omega) with rfl | rfl | rfl
  · cases hw : wholeS vo with
    | true => simp
    | false =>
      rcases (show A = 0 ∨ A = 1 by omega) with rfl | rfl <;> simp [hl0]
  · cases hw : wholeS vo with
    | true =>
      have := hno hw
      subst this
      simp [hl0]
    | false => simp
  · cases hw : wholeS vo with
    | true =>
      have := hno hw
      subst this
      simp
    | false =>
      rcases (show A = 0 ∨ A = 1 by omega) with rfl | rfl <;> simp [hl0]
theorem entR_eq (d : Rd) : entR d = (((i64R d).1, ⟨(shO d).1, (voO d).1, (howO d).1, (cntN 3 (oO d).1.toNat (oO d).2).1⟩), (cntN 3 (oO d).1.toNat (oO d).2).2) := by
  have hs : readR (i64R d).2 = shO d := rfl
  have hl : (shO d).1.length = (kO d).toNat := by unfold shO; rw [cntN_len]
  unfold entR
  dsimp only
  rw [hs, hl]
  rfl
theorem getON_fin : ∀ (n : Nat) (last : Int) (d : Rd) (L : CoS), 0 ≤ last → finO (getON n last d L) = finO (getN n last d L)
  | 0, last, d, L, _ => rfl
  | n + 1, last, d, L, hl => by
    unfold getON getN
    by_cases hb : d.2 = true
    · rw [if_pos hb, if_pos (.inl (by
        cases hx : (entR d).2.2 with
        | true => rfl
        | false => have := (entR_inv hx).1; rw [hb] at this; cases this))]
      unfold finO
      simp [hb]
    rw [if_neg hb]
    have hvl : (voO d).1.length = (shO d).1.length := by
      unfold voO shO
      rw [cntN_len, cntN_len]
    have hhb : 0 ≤ (howO d).1 ∧ (howO d).1 ≤ 2 := cntR_bd (by decide) _
    have hob : 0 ≤ (oO d).1 ∧ (oO d).1 ≤ 4 := cntR_bd (by decide) _
    have hol : ((cntN 3 (oO d).1.toNat (oO d).2).1.length : Int) = (oO d).1 := by rw [cntN_len]; omega
    have hkl : (kO d).toNat = (shO d).1.length := by unfold shO; rw [cntN_len]
    rw [entR_eq d]
    dsimp only
    cases hO : owesR (shO d).1 (oO d).1.toNat (-1) (oO d).2 (List.replicate (kO d).toNat true) with
    | none =>
      dsimp only
      rw [if_pos]
      rcases owesR_none hO with h1 | h1 | ⟨s, h1, h2⟩
      · exact .inl h1
      · refine .inr (.inr ?_)
        unfold goodS
        dsimp only
        rw [if_pos (.inr (.inr (.inl h1)))]
      · refine .inr (.inr ?_)
        unfold goodS
        dsimp only
        rw [if_pos (.inr (.inr (.inr (.inl (List.any_eq_true.2 ⟨s, h1, by simp [h2]⟩)))))]
    | some q =>
      obtain ⟨dn, d'⟩ := q
      dsimp only
      by_cases hd' : d'.2 = true
      · rw [if_pos (.inl hd'), if_pos (.inl (owesR_bad hO hd'))]
      cases hs : risS (shO d).1 with
      | false =>
        rw [if_pos (.inr (.inr (by unfold goodO; rw [hs]; rfl))), if_pos (.inr (.inr (by unfold goodS; dsimp only; rw [if_pos (.inr (.inl hs))])))]
      | true =>
        have hn := risF_nodup _ _ hs
        obtain ⟨a1, a2, a3, a4, a5⟩ := owesR_some hn (by rw [List.length_replicate]; exact hkl) hO (by simpa using hd')
        have how : owesL (shO d).1 dn = (cntN 3 (oO d).1.toNat (oO d).2).1 := by
          refine sub_ext hn (owes_subl _ _) (ris_sub a2 hs a4) fun s => ?_
          rw [a5 s]
          constructor
          · rintro (h | h)
            · obtain ⟨i, h1, h2⟩ := (owes_mem (by rw [List.length_replicate]; exact hkl)).1 h
              rw [List.getElem?_replicate] at h2
              split at h2
              · cases h2
              · cases h2
            · exact h
          · exact .inr
        have hgd := good_same (how := (howO d).1) (vo := (voO d).1) hvl hhb hol a2 a4
        rw [hgd, ← a1, how]
        by_cases hc : d'.2 = true ∨ (i64R d).1 ≤ last ∨ goodS ⟨(shO d).1, (voO d).1, (howO d).1, (cntN 3 (oO d).1.toNat (oO d).2).1⟩ = false
        · rw [if_pos hc, if_pos hc]
        · rw [if_neg hc, if_neg hc]
          exact getON_fin n _ _ _ (by
            have := fun h => hc (.inr (.inl h))
            omega)
theorem getS_fin (b : Bs) : getS b = finO (getN (cntR 1048576 (b, false)).1.toNat 0 (cntR 1048576 (b, false)).2 []) := by
  unfold getS finO
  rfl
theorem fin_bad {n : Nat} {last : Int} {d : Rd} {L : CoS} (hl : 0 ≤ last) (hd : d.2 = true) : finO (getN n last d L) = none := by
  cases hg : getN n last d L with
  | none => rfl
  | some q =>
    obtain ⟨S, d'⟩ := q
    unfold finO
    dsimp only
    rw [if_neg]
    intro hc
    have := (getN_inv hl hg hc.1).1
    rw [hd] at this
    cases this
theorem fin_long {n : Nat} {last : Int} {d : Rd} {L : CoS} (hl : 0 ≤ last) (hn : d.1.length < 8 * n) : finO (getN n last d L) = none := by
  cases hg : getN n last d L with
  | none => rfl
  | some q =>
    obtain ⟨S, d'⟩ := q
    unfold finO
    dsimp only
    rw [if_neg]
    intro hc
    obtain ⟨-, es, -, h2, h3, -⟩ := getN_inv hl hg hc.1
    have h4 : ∀ l : CoS, 8 * l.length ≤ (l.flatMap (fun e => entB e.1 e.2)).length := by
      intro l
      induction l with
      | nil => simp
      | cons e l ih =>
        have : 8 ≤ (entB e.1 e.2).length := by
          unfold entB
          rw [List.length_append, packI_len]
          omega
        rw [List.flatMap_cons, List.length_append, List.length_cons]
        omega
    have h5 := h4 es
    rw [h3, List.length_append] at hn
    omega
/-- Both read the same. -/
theorem getO_same {b : Bs} (hb : b.length ≤ 1000000) : getO b = getS b := by
  rw [getS_fin]
  unfold getO
  by_cases h8 : b.length < 8
  · have e1 : i64R (b, false) = (0, [], true) := by unfold i64R; rw [if_pos h8]
    have e2 : (cntR 1048576 (b, false)).2.2 = true := by
      unfold cntR cntS
      dsimp only
      rw [if_pos h8]
    rw [e1, if_neg (by simp), fin_bad (Int.le_refl _) e2]
    rfl
  have e1 : i64R (b, false) = (rdI b, b.drop 8, false) := by unfold i64R; rw [if_neg h8]
  rw [e1]
  dsimp only
  have e2 : cntR 1048576 (b, false) = if rdI b < 0 ∨ 1048576 < rdI b then (0, [], true) else (rdI b, b.drop 8, false) := by
    unfold cntR cntS
    dsimp only
    rw [if_neg h8]
    split <;> simp_all
  by_cases hneg : rdI b < 0
  · rw [if_pos hneg, e2, if_pos (.inl hneg), fin_bad (Int.le_refl _) rfl]
  rw [if_neg hneg, getON_fin _ _ _ _ (Int.le_refl _)]
  by_cases hbig : 1048576 < rdI b
  · rw [e2, if_pos (.inr hbig), fin_bad (d := ([], true)) (Int.le_refl _) rfl]
    refine fin_long (Int.le_refl _) ?_
    dsimp only
    rw [List.length_drop]
    omega
  · rw [e2, if_neg (by omega)]
end Go.Proofs.Ytebmmbommkpjaaa

/-
  The program's Coord and the document's, side by side: their calls.
-/
namespace Go.Proofs.Ytebmmbommkpjaaa
open Go.RowKit Go.Av
def crTh (d : Nat) (v : Value) (gs : List OneG) : List Thing := ThCell d (.cells #[v] 51 (0, 0)) :: ThRow 5 v (gs.flatMap OneG.cell) :: gs.flatMap OneG.th
def B2 (w0 w : World) (c : Nat) (S : CoS) (d : Nat) (T : CoS) (R : List Thing) (rows : List (Value × Bs)) : Prop :=
  ∃ (v : Value) (gs : List OneG), gs.map OneG.ent = T ∧ (∀ g ∈ gs, g.wf) ∧ gs.length ≤ 1000 ∧ Co w0 w c S (crTh d v gs ++ R) rows
section
variable {w0 w : World} {c d : Nat} {S S' T : CoS} {R R2 : List Thing} {rows : List (Value × Bs)} {n : Nat}
theorem B2.prog (h : B2 w0 w c S d T R rows) : ∃ R1, Co w0 w c S R1 rows ∧ ∀ {w' : World} {c' : Nat} {S' : CoS} {rows' : List (Value × Bs)}, Co w0 w' c' S' R1 rows' → B2 w0 w' c' S' d T R rows' := by
  obtain ⟨v, gs, h1, h2, h3, h4⟩ := h
  exact ⟨_, h4, fun h' => ⟨v, gs, h1, h2, h3, h'⟩⟩
theorem B2.ref (h : B2 w0 w c S d T R rows) : ∃ X, Cr w0 w d T (R ++ X) rows ∧ ∀ {w' : World} {T' : CoS} {R' : List Thing}, Cr w0 w' d T' (R' ++ X) rows → B2 w0 w' c S d T' R' rows := by
  obtain ⟨v, gs, h1, h2, h3, h4⟩ := h
  obtain ⟨X, hS, back⟩ := Co.side (A := crTh d v gs ++ R) (R := []) (by rw [List.append_nil]; exact h4)
  refine ⟨X, ⟨v, gs, h1, h2, h3, by
    rw [List.append_assoc] at hS
    exact hS⟩, fun {w' T' R'} h' => ?_⟩
  obtain ⟨v', gs', e1, hX⟩ := h'
  have := back w' (crTh d v' gs' ++ R') (by
    rw [List.append_assoc]
    exact hX.sep)
  rw [List.append_nil] at this
  exact ⟨v', gs', e1, hX.wf, hX.few, this⟩
theorem B2.keep (h : B2 w0 w c S d T R rows) {w' : World} {D' : List Nat} (hu : Upd w w' [] D') : B2 w0 w' c S d T R rows := by
  obtain ⟨v, gs, h1, h2, h3, h4⟩ := h
  exact ⟨v, gs, h1, h2, h3, h4.keep hu⟩
theorem B2.below (h : B2 w0 w c S d T R rows) : Below w0.heap.size w0 w := by obtain ⟨v, gs, -, -, -, h4⟩ := h; exact h4.below
theorem B2.permR (h : B2 w0 w c S d T R rows) (hp : R.Perm R2) : B2 w0 w c S d T R2 rows := by
  obtain ⟨v, gs, h1, h2, h3, h4⟩ := h
  exact ⟨v, gs, h1, h2, h3, h4.permR (hp.append_left _)⟩
theorem B2.front {X : Thing} (h : B2 w0 w c S d T (X :: R) rows) : ∃ v gs, gs.map OneG.ent = T ∧ (∀ g ∈ gs, g.wf) ∧ gs.length ≤ 1000 ∧ Co w0 w c S (X :: (crTh d v gs ++ R)) rows := by
  obtain ⟨v, gs, h1, h2, h3, h4⟩ := h
  exact ⟨v, gs, h1, h2, h3, h4.permR List.perm_middle⟩
theorem B2.toRowR {v : Value} {b : Bs} (h : B2 w0 w c S d T (ThRow 1 v (b.map bv) :: R) rows) : B2 w0 w c S d T R ((v, b) :: rows) := by
  obtain ⟨u, gs, h1, h2, h3, h4⟩ := h.front
  exact ⟨u, gs, h1, h2, h3, h4.toRowR⟩
theorem B2.dropCell {X : Thing} (h : B2 w0 w c S d T (X :: R) rows) : B2 w0 w c S d T R rows := by
  obtain ⟨u, gs, h1, h2, h3, h4⟩ := h.front
  exact ⟨u, gs, h1, h2, h3, h4.dropR⟩
theorem B2.newCell (h : B2 w0 w c S d T R rows) (o : Obj) : B2 w0 (w.alloc o) c S d T (ThCell w.heap.size o :: R) rows := by
  obtain ⟨u, gs, h1, h2, h3, h4⟩ := h
  exact ⟨u, gs, h1, h2, h3, (h4.newCell o).permR List.perm_middle.symm⟩
theorem B2.cell {b : Nat} {o : Obj} (h : B2 w0 w c S d T (ThCell b o :: R) rows) : w.heap[b]? = some o := by
  obtain ⟨u, gs, h1, h2, h3, h4⟩ := h.front
  exact h4.cellR
theorem B2.also {rows2 : List (Value × Bs)} (h : B2 w0 w c S d T R rows) (hr : ∀ r ∈ rows2, r ∈ rows) : B2 w0 w c S d T R rows2 := by
  obtain ⟨u, gs, h1, h2, h3, m, gs', k1, k2, hS⟩ := h
  exact ⟨u, gs, h1, h2, h3, m, gs', k1, k2, hS.also hr⟩
theorem B2.get {v : Value} {b : Bs} (h : B2 w0 w c S d T R rows) (hm : (v, b) ∈ rows) : ∃ E, ReadRow w 1 v (b.map bv) E := by
  obtain ⟨u, gs, h1, h2, h3, m, gs', k1, k2, hS⟩ := h
  exact hS.get hm
/-- Both, alike. -/
def TwoC (w0 w : World) (c d : Nat) (S : CoS) (n : Nat) (R : List Thing) (rows : List (Value × Bs)) : Prop := ∃ T, CRel S T ∧ S.length ≤ n ∧ B2 w0 w c S d T R rows
def MidC (w0 w : World) (c d : Nat) (S S' : CoS) (n : Nat) (R : List Thing) (rows : List (Value × Bs)) : Prop := ∃ T, CRel S T ∧ S.length ≤ n ∧ B2 w0 w c S' d T R rows
theorem crel_len {S T : CoS} (h : CRel S T) : T.length = S.length := by
  have := congrArg List.length h.keys
  rw [keys_len, List.length_map] at this
  exact this.symm
theorem TwoC.below (h : TwoC w0 w c d S n R rows) : Below w0.heap.size w0 w := by obtain ⟨T, -, -, hB⟩ := h; exact hB.below
theorem TwoC.drew (h : TwoC w0 w c d S n R rows) : TwoC w0 w.drew c d S n R rows := by obtain ⟨T, h1, h2, hB⟩ := h; exact ⟨T, h1, h2, hB.keep (Upd.refl w []).drew⟩
theorem TwoC.keep (h : TwoC w0 w c d S n R rows) {w' : World} {D' : List Nat} (hu : Upd w w' [] D') : TwoC w0 w' c d S n R rows := by obtain ⟨T, h1, h2, hB⟩ := h; exact ⟨T, h1, h2, hB.keep hu⟩
theorem TwoC.cell {b : Nat} {o : Obj} (h : TwoC w0 w c d S n (ThCell b o :: R) rows) : w.heap[b]? = some o := by obtain ⟨T, -, -, hB⟩ := h; exact hB.cell
theorem MidC.cell {b : Nat} {o : Obj} (h : MidC w0 w c d S S' n (ThCell b o :: R) rows) : w.heap[b]? = some o := by obtain ⟨T, -, -, hB⟩ := h; exact hB.cell
theorem TwoC.newCell (h : TwoC w0 w c d S n R rows) (o : Obj) : TwoC w0 (w.alloc o) c d S n (ThCell w.heap.size o :: R) rows := by obtain ⟨T, h1, h2, hB⟩ := h; exact ⟨T, h1, h2, hB.newCell o⟩
theorem TwoC.dropCell {X : Thing} (h : TwoC w0 w c d S n (X :: R) rows) : TwoC w0 w c d S n R rows := by obtain ⟨T, h1, h2, hB⟩ := h; exact ⟨T, h1, h2, hB.dropCell⟩
theorem TwoC.more (h : TwoC w0 w c d S n R rows) {m : Nat} (hm : n ≤ m) : TwoC w0 w c d S m R rows := by obtain ⟨T, h1, h2, hB⟩ := h; exact ⟨T, h1, Nat.le_trans h2 hm, hB⟩
theorem TwoC.also {rows2 : List (Value × Bs)} (h : TwoC w0 w c d S n R rows) (hr : ∀ r ∈ rows2, r ∈ rows) : TwoC w0 w c d S n R rows2 := by obtain ⟨T, h1, h2, hB⟩ := h; exact ⟨T, h1, h2, hB.also hr⟩
theorem TwoC.get {v : Value} {b : Bs} (h : TwoC w0 w c d S n R rows) (hm : (v, b) ∈ rows) : ∃ E, ReadRow w 1 v (b.map bv) E := by obtain ⟨T, h1, h2, hB⟩ := h; exact hB.get hm

theorem mid_below (h : MidC w0 w c d S S' n R rows) : Below w0.heap.size w0 w := by obtain ⟨T, -, -, hB⟩ := h; exact hB.below
theorem mid_begin (h : TwoC w0 w c d S n R rows) (id : Int) (v : Value) (l : List Int) (E : List Nat) (hid : id ≤ 9223372036854775807) (hv : ReadRow w 1 v (l.map iv) E) :
    Calls Try.prog 12 #[.pointer (some ⟨c, 0, none⟩), .int .i64 id, v] w fun e w' => e = .returned (.int .i64 (beginS S id l).1) ∧ MidC w0 w' c d S (beginS S id l).2 n R rows := by
  obtain ⟨T, h1, h2, hB⟩ := h
  obtain ⟨R1, hC, back⟩ := hB.prog
  exact (begin_any hC id v l E hid hv).mono fun e w' ⟨he, h'⟩ => ⟨he, T, h1, h2, back h'⟩
theorem two_begin {id : Int} {l : List Int} (h : MidC w0 w c d S (beginS S id l).2 n R rows) (v : Value) (E : List Nat) (hid : id ≤ 9223372036854775807) (hv : ReadRow w 1 v (l.map iv) E) (hn : n < 1000) :
    Calls Try.prog 22 #[.pointer (some ⟨d, 0, none⟩), .int .i64 id, v] w fun e w' => e = .returned (.int .i64 (beginS S id l).1) ∧ TwoC w0 w' c d (beginS S id l).2 (n + 1) R rows := by
  obtain ⟨T, h1, h2, hB⟩ := h
  obtain ⟨X, hC, back⟩ := hB.ref
  have hl := crel_len h1
  refine (cr_begin hC h1.invT id v l E hv (by omega)).mono fun e w' ⟨he, T', hb, h'⟩ => ?_
  rw [h1.begin1] at he
  have := step_len S 0 id l 0 false
  exact ⟨he, T', h1.begin id l hid hb, Nat.le_trans this (by omega), back h'⟩
theorem mid_vote (h : TwoC w0 w c d S n R rows) (id k : Int) (ok : Bool) :
    Calls Try.prog 13 #[.pointer (some ⟨c, 0, none⟩), .int .i64 id, .int .i64 k, .bool ok] w fun e w' => e = .returned (.int .i64 (voteS S id k ok).1) ∧ MidC w0 w' c d S (voteS S id k ok).2 n R rows := by
  obtain ⟨T, h1, h2, hB⟩ := h
  obtain ⟨R1, hC, back⟩ := hB.prog
  exact (vote_any hC id k ok).mono fun e w' ⟨he, h'⟩ => ⟨he, T, h1, h2, back h'⟩
theorem two_vote {id k : Int} {ok : Bool} (h : MidC w0 w c d S (voteS S id k ok).2 n R rows) (hid : id ≤ 9223372036854775807) :
    Calls Try.prog 23 #[.pointer (some ⟨d, 0, none⟩), .int .i64 id, .int .i64 k, .bool ok] w fun e w' => e = .returned (.int .i64 (voteS S id k ok).1) ∧ TwoC w0 w' c d (voteS S id k ok).2 (n + 1) R rows := by
  obtain ⟨T, h1, h2, hB⟩ := h
  obtain ⟨X, hC, back⟩ := hB.ref
  refine (cr_vote hC h1.invT id k ok).mono fun e w' ⟨he, h'⟩ => ?_
  rw [h1.vote1] at he
  have := step_len S 1 id [] k ok
  exact ⟨he, _, h1.vote id k ok hid, Nat.le_trans this (by omega), back h'⟩
theorem mid_done (h : TwoC w0 w c d S n R rows) (id k : Int) :
    Calls Try.prog 14 #[.pointer (some ⟨c, 0, none⟩), .int .i64 id, .int .i64 k] w fun e w' => e = .returned (.int .i64 (doneS S id k).1) ∧ MidC w0 w' c d S (doneS S id k).2 n R rows := by
  obtain ⟨T, h1, h2, hB⟩ := h
  obtain ⟨R1, hC, back⟩ := hB.prog
  exact (done_any hC id k).mono fun e w' ⟨he, h'⟩ => ⟨he, T, h1, h2, back h'⟩
theorem two_done {id k : Int} (h : MidC w0 w c d S (doneS S id k).2 n R rows) (hid : id ≤ 9223372036854775807) :
    Calls Try.prog 24 #[.pointer (some ⟨d, 0, none⟩), .int .i64 id, .int .i64 k] w fun e w' => e = .returned (.int .i64 (doneS S id k).1) ∧ TwoC w0 w' c d (doneS S id k).2 (n + 1) R rows := by
  obtain ⟨T, h1, h2, hB⟩ := h
  obtain ⟨X, hC, back⟩ := hB.ref
  refine (cr_done hC h1.invT id k).mono fun e w' ⟨he, h'⟩ => ?_
  rw [h1.done1] at he
  have := step_len S 2 id [] k false
  exact ⟨he, _, h1.done id k hid, Nat.le_trans this (by omega), back h'⟩
theorem mid_abort (h : TwoC w0 w c d S n R rows) (id : Int) :
    Calls Try.prog 19 #[.pointer (some ⟨c, 0, none⟩), .int .i64 id] w fun e w' => e = .returned (.tuple #[.bool (abortS S id).1, .int .i64 (abortS S id).2.1]) ∧ MidC w0 w' c d S (abortS S id).2.2 n R rows := by
  obtain ⟨T, h1, h2, hB⟩ := h
  obtain ⟨R1, hC, back⟩ := hB.prog
  exact (abort_any hC id).mono fun e w' ⟨he, h'⟩ => ⟨he, T, h1, h2, back h'⟩
theorem two_abort {id : Int} (h : MidC w0 w c d S (abortS S id).2.2 n R rows) (hid : id ≤ 9223372036854775807) :
    Calls Try.prog 25 #[.pointer (some ⟨d, 0, none⟩), .int .i64 id] w fun e w' => e = .returned (.tuple #[.bool (abortS S id).1, .int .i64 (abortS S id).2.1]) ∧ TwoC w0 w' c d (abortS S id).2.2 (n + 1) R rows := by
  obtain ⟨T, h1, h2, hB⟩ := h
  obtain ⟨X, hC, back⟩ := hB.ref
  refine (cr_abort hC h1.invT.1 id).mono fun e w' ⟨he, h'⟩ => ?_
  rw [(h1.abort1 id).1, (h1.abort1 id).2] at he
  have := step_len S 3 id [] 0 false
  exact ⟨he, _, h1.abort id hid, Nat.le_trans this (by omega), back h'⟩
theorem c_decision (h : TwoC w0 w c d S n R rows) (id : Int) :
    Calls Try.prog 18 #[.pointer (some ⟨c, 0, none⟩), .int .i64 id] w fun e w' => e = .returned (.tuple #[.bool (decS S id).1, .bool (decS S id).2]) ∧ TwoC w0 w' c d S n R rows := by
  obtain ⟨T, h1, h2, hB⟩ := h
  obtain ⟨R1, hC, back⟩ := hB.prog
  exact (decision_any hC id).mono fun e w' ⟨he, h'⟩ => ⟨he, T, h1, h2, back h'⟩
theorem d_decision (h : TwoC w0 w c d S n R rows) (id : Int) :
    Calls Try.prog 27 #[.pointer (some ⟨d, 0, none⟩), .int .i64 id] w fun e w' => e = .returned (.tuple #[.bool (decS S id).1, .bool (decS S id).2]) ∧ TwoC w0 w' c d S n R rows := by
  obtain ⟨T, h1, h2, hB⟩ := h
  obtain ⟨X, hC, back⟩ := hB.ref
  refine (cr_decision hC id).mono fun e w' ⟨he, h'⟩ => ?_
  rw [h1.dec] at he
  exact ⟨he, T, h1, h2, back h'⟩
theorem c_owes (h : TwoC w0 w c d S n R rows) (id : Int) :
    Calls Try.prog 16 #[.pointer (some ⟨c, 0, none⟩), .int .i64 id] w fun e w' => ∃ v D, e = .returned v ∧ OwnRow w' 1 v ((owesS S id).map iv) D ∧ Upd w w' [] D := by
  obtain ⟨T, h1, h2, hB⟩ := h
  obtain ⟨R1, hC, back⟩ := hB.prog
  exact owes_any hC id
theorem d_owes (h : TwoC w0 w c d S n R rows) (id : Int) :
    Calls Try.prog 28 #[.pointer (some ⟨d, 0, none⟩), .int .i64 id] w fun e w' => ∃ v D, e = .returned v ∧ OwnRow w' 1 v ((owesS S id).map iv) D ∧ Upd w w' [] D := by
  obtain ⟨T, h1, h2, hB⟩ := h
  obtain ⟨X, hC, back⟩ := hB.ref
  have := cr_owes hC id
  rw [h1.owes] at this
  exact this
theorem c_open (h : TwoC w0 w c d S n R rows) (hn : n ≤ 1000) :
    Calls Try.prog 17 #[.pointer (some ⟨c, 0, none⟩)] w fun e w' => ∃ v, e = .returned v ∧ TwoC w0 w' c d S n (ThRow 1 v ((openSt S).map iv) :: R) rows := by
  obtain ⟨T, h1, h2, v, gs, k1, k2, k3, hC⟩ := h
  refine (open_coord hC (by omega)).mono fun e w' ⟨v', he, h'⟩ => ⟨v', he, T, h1, h2, v, gs, k1, k2, k3, h'.permR List.perm_middle.symm⟩
theorem d_open (h : TwoC w0 w c d S n R rows) :
    Calls Try.prog 30 #[.pointer (some ⟨d, 0, none⟩)] w fun e w' => ∃ v D, e = .returned v ∧ OwnRow w' 1 v ((openSt S).map iv) D ∧ Upd w w' [] D := by
  obtain ⟨T, h1, h2, hB⟩ := h
  obtain ⟨X, hC, back⟩ := hB.ref
  have := cr_open hC h1.invT.1
  rw [← h1.open] at this
  exact this
theorem TwoC.row {u : Value} {xs : List Value} (h : TwoC w0 w c d S n (ThRow 1 u xs :: R) rows) : ∃ E, ReadRow w 1 u xs E := by
  obtain ⟨T, h1, h2, hB⟩ := h
  obtain ⟨v, gs, k1, k2, k3, hC⟩ := hB.front
  obtain ⟨D, hD⟩ := Co.ownR (v := u) (xs := xs) (A := [ThRow 1 u xs]) hC (by simp)
  obtain ⟨E, hE, -⟩ := hD.read
  exact ⟨E, hE⟩
theorem c_put (h : TwoC w0 w c d S n R rows) (hn : n ≤ 1000) :
    Calls Try.prog 26 #[.pointer (some ⟨c, 0, none⟩)] w fun e w' => ∃ v, e = .returned v ∧ TwoC w0 w' c d S n R ((v, bytesS S) :: rows) := by
  obtain ⟨T, h1, h2, v, gs, k1, k2, k3, hC⟩ := h
  refine (put_any hC (by omega)).mono fun e w' ⟨v', he, h'⟩ => ⟨v', he, T, h1, h2, v, gs, k1, k2, k3, h'.toRowR⟩
theorem d_put (h : TwoC w0 w c d S n R rows) :
    Calls Try.prog 31 #[.pointer (some ⟨d, 0, none⟩)] w fun e w' => ∃ v, e = .returned v ∧ TwoC w0 w' c d S n R ((v, bytesS S) :: rows) := by
  obtain ⟨T, h1, h2, hB⟩ := h
  obtain ⟨X, hC, back⟩ := hB.ref
  refine (cr_put hC h1.invT.1).mono fun e w' ⟨v', he, h'⟩ => ⟨v', he, T, h1, h2, ?_⟩
  have := B2.toRowR (R := R) (back (R' := ThRow 1 v' ((bytesO T).map bv) :: R) h')
  rw [← h1.bytes] at this
  exact this
theorem c_get (h : TwoC w0 w c d S n R rows) {v : Value} (hv : (v, bytesS S) ∈ rows) (hn : n ≤ 1000) :
    Calls Try.prog 21 #[v] w fun e w' => ∃ c', e = .returned (.tuple #[.pointer (some ⟨c', 0, none⟩), .int .i64 0]) ∧ TwoC w0 w' c' d (sortS S) n R rows := by
  obtain ⟨T, h1, h2, u, gs, k1, k2, k3, m, gs', e1, e2, hS⟩ := h
  have hb : (bytesS S).length ≤ 1073741824 := by
    have := entK_len e2 (keysS S)
    rw [keys_len] at this
    unfold bytesS
    rw [List.length_append, packI_len]
    omega
  have hS2 : Sep w0 w (crTh d u gs ++ R) rows := by
    have h3 := Sep.dropL _ hS
    exact Sep.dropL _ h3
  have := get_any hS2 v (bytesS S) hv hb
  rw [getS_put h1.invS (by omega)] at this
  refine this.mono ?_
  rintro e w' ⟨c', rfl, h'⟩
  exact ⟨c', rfl, T, h1.sorted, by rw [sort_len h1.invS]; exact h2, u, gs, k1, k2, k3, h'⟩
theorem twoC_new (h : Co w0 w c [] R rows) :
    TwoC w0 (w.alloc (.cells #[.slice none 0 0] 51 (0, 0))) c w.heap.size [] 0 R rows := by
  refine ⟨[], crel_nil, Nat.le_refl _, .slice none 0 0, [], rfl, by simp, by simp, ?_⟩
  have h1 : Co w0 w c [] (ThRow 5 (.slice none 0 0) [] :: R) rows := h.addR (T := ThRow 5 (.slice none 0 0) []) (Upd.refl w []) (OwnRow.nil w 5)
  exact h1.newCell (.cells #[.slice none 0 0] 51 (0, 0))
end
end Go.Proofs.Ytebmmbommkpjaaa
