/-
  RouteWhole: all that is under one first name is one shard's; each Op is just one shard's, in its order.
-/
import Derived.Test.YtfncdgnhiinmjaaDoorRouteX
import Derived.Test.YtfncdgnhiinmjaaDoorRouteMovesW
namespace Go.Proofs.YtfncdgnhiinmjaaDoor
open Go.RowKit Go.Av


def bvv (b : Bool) : Value := .bool b
theorem infoBool : (Tryd.prog.info? 4).map (fun i => (i.zero, i.size, i.bytes)) = some (some (.bool false), 1, 1) := by kernel_rfl
theorem falseRow (w : World) (z : Nat) (hz : z ≤ 30000) : OwnRow (w.alloc (.cells (madeCells #[.bool false] z) 4)) 1 (.slice (some ⟨w.heap.size, 0, none⟩) z z) ((List.replicate z false).map bvv) [w.heap.size] :=
  OwnRow.made w 4 1 z z (madeCells #[.bool false] z) _ (by simp) (Nat.le_refl _) (by unfold maxLen; omega) (by rw [size_madeCells]; omega) (by
    rw [toList_madeCells_one, Nat.mul_one, List.take_of_length_le (by simp), List.map_replicate]; rfl)
/-- What the table says of one path. -/
theorem whole_path {S : RtS} (h : RtOK S) (p : Bs) (hg : goodP p = true) : ofS S (47 :: topP p) = ofS S p ∧ 0 ≤ ofS S p ∧ ofS S p < S.n := by
  refine ⟨of_top S hg, ?_, (of_bd h p).2⟩
  have := of_neg h p
  rw [hg] at this
  simpa using this

section
variable {w0 w : World} {t : Nat} {S : RtS} {R : List Thing} {T : Thing} {rows : List (Value × Bs)}
theorem Rt.addR (h : Rt w0 w t S R rows) {w' : World} {D' : List Nat} (hu : Upd w w' [] D') (hT : T.P w' D') : Rt w0 w' t S (T :: R) rows := by
  obtain ⟨m, hS⟩ := h
  exact ⟨m, (hS.add hu hT).perm (List.perm_middle (l₁ := rtTh t m S)).symm⟩
end


set_option maxRecDepth 100000 in
set_option maxHeartbeats 16000000 in
theorem routeWhole_walk (n : Int) (a1 : Option Addr) (len1 cap1 : Nat) (l : List (ByteArray × Int)) (pp : ByteArray) (a3 : Option Addr) (len3 cap3 : Nat) (ops : List OpS) (w : World) (hd : Door w) (h1 : IsMvs w a1 len1 cap1 l) (hp : pp.size ≤ maxLen) (h3 : IsOps w a3 len3 cap3 ops) :
    Calls Tryd.prog 4 #[.int .i64 n, .slice a1 len1 cap1, .string pp, .slice a3 len3 cap3] w fun e w' => e = .returned (.bool true) ∧ Below w.heap.size w w' := by
  obtain ⟨hla, hlca, hca, haa, hac, hax⟩ := h1
  subst hla
  have hl3 : ops.length = len3 := h3.1
  subst hl3
  have hcap3 := h3.2.1
  have hcm3 := h3.2.2.1
  unfold maxLen at hca hp hcm3
  have HAC := Lib.hid (show _ ∧ _ ∧ _ from ⟨haa, hac, hax⟩)
  have HD := Lib.hid hd
  have HOP := Lib.hid h3
  clear haa hac hax hd h3
  by_cases hn1 : n < 1
  · go_enter Tryd.func4, Tryd.ntmps4
    go_wp2_with fail
    refine (awake16_any _ HD.out).mono ?_
    rintro e w1 ⟨rfl, hu1⟩
    go_wp2_with fail
    go_ret
    exact ⟨rfl, hu1.below⟩
  by_cases hn4 : 4 < n
  · go_enter Tryd.func4, Tryd.ntmps4
    go_wp2_with fail
    refine (awake16_any _ HD.out).mono ?_
    rintro e w1 ⟨rfl, hu1⟩
    go_wp2_with fail
    go_ret
    exact ⟨rfl, hu1.below⟩
  by_cases hl20 : 20 < l.length
  · go_enter Tryd.func4, Tryd.ntmps4
    go_wp2_with fail
    refine (awake16_any _ HD.out).mono ?_
    rintro e w1 ⟨rfl, hu1⟩
    go_wp2_with fail
    go_ret
    exact ⟨rfl, hu1.below⟩
  by_cases hp300 : 300 < pp.size
  · go_enter Tryd.func4, Tryd.ntmps4
    go_wp2_with fail
    refine (awake16_any _ HD.out).mono ?_
    rintro e w1 ⟨rfl, hu1⟩
    go_wp2_with fail
    go_ret
    exact ⟨rfl, hu1.below⟩
  cases hlo : longS ops with
  | true =>
    have HLO := Lib.hid hlo
    clear hlo
    go_enter Tryd.func4, Tryd.ntmps4
    go_wp2_with fail
    refine (awake16_any _ HD.out).mono ?_
    rintro e w1 ⟨rfl, hu1⟩
    have hlg := long_any _ _ _ _ _ (HOP.out.below hu1.below)
    rw [HLO.out] at hlg
    have HLG := Lib.hid hlg
    clear hlg
    go_wp2_with fail
    refine HLG.out.mono ?_
    rintro e w2 ⟨rfl, hW⟩
    subst w2
    go_wp2_with fail
    go_ret
    exact ⟨rfl, hu1.below⟩
  | false =>
  have hP : ops.length ≤ 20 := by
    unfold longS at hlo
    simp only [Bool.or_eq_false_iff, decide_eq_false_iff_not] at hlo
    omega
  have HLO := Lib.hid hlo
  clear hlo
  go_enter Tryd.func4, Tryd.ntmps4
  go_wp2_with fail
  refine (awake16_any _ HD.out).mono ?_
  rintro e w1 ⟨rfl, hu1⟩
  have hlg := long_any _ _ _ _ _ (HOP.out.below hu1.below)
  rw [HLO.out] at hlg
  have HLG := Lib.hid hlg
  have HU1 := Lib.hid hu1
  clear hlg hu1
  go_wp2_with fail
  refine HLG.out.mono ?_
  rintro e w2 ⟨rfl, hW⟩
  subst w2
  go_wp2_with fail
  refine (rt_new ((Sep.start w).keep HU1.out) n (by omega) (by omega)).mono ?_
  rintro e w2 ⟨t, rfl, H⟩
  have HT := Lib.hid H
  have hok0 : RtOK ⟨n, 1, []⟩ := ⟨by simp only; omega, by simp only; omega, by simp⟩
  have HK0 := Lib.hid hok0
  clear H HU1 HLG hok0
  go_wp2_with fail
  go_loopg [11] l.length (fun k v wr => ∃ (p : Nat) (S : RtS), p ≤ l.length ∧ k = l.length - p ∧ v = .int .i64 (p : Int) ∧ Rt w wr t S [] [] ∧ S.n = n ∧ 1 ≤ S.ver ∧ S.ver ≤ 1 + p ∧ RtOK S)
  case atStart => exact ⟨0, _, Nat.zero_le _, rfl, rfl, HT.out, rfl, by simp, by simp, HK0.out⟩
  case round =>
    obtain ⟨p, S, hpl, hk, hv3, H, hSn, hv1, hv2, hok⟩ := hrel
    subst hv3
    have HSN := Lib.hid hSn
    have HOK := Lib.hid hok
    clear HT hSn hok
    by_cases hlt : p < l.length
    case pos =>
      obtain ⟨x, hxa⟩ : ∃ x, a1 = some x := by
        cases a1 with
        | none => exact absurd (HAC.out.1 rfl) (by omega)
        | some x => exact ⟨x, rfl⟩
      subst hxa
      obtain ⟨g0, g1⟩ := HAC.out.2.1 x rfl p hlt
      have hsz := HAC.out.2.2 _ (List.getElem_mem hlt)
      obtain ⟨q0, hq0⟩ : ∃ q, l[p] = q := ⟨_, rfl⟩
      rw [hq0] at g0 g1 hsz
      obtain ⟨ts, sh⟩ := q0
      dsimp only at g0 g1 hsz
      have G := Lib.hid (show _ ∧ _ from ⟨g0, g1⟩)
      have hbl := H.below
      have up : ∀ {j : Nat} {v : Value}, w.cell? (x.add j) = some v → wr.cell? (x.add j) = some v := fun hv => (hbl.cell (World.block_lt_of_cell? w _ hv)).trans hv
      have g0 := up g0
      have g1 := up g1
      rw [add_field g0 1] at g1
      unfold maxLen at hsz
      clear up hq0
      by_cases hs100 : 100 < ts.size
      · have HBB := Lib.hid H.below
        clear H hbl
        go_wp2_with fail
        go_ret
        exact ⟨rfl, HBB.out⟩
      obtain ⟨m1, m2, m3⟩ := move_n S ts.data.toList sh
      have HM := Lib.hid (move_any H.drew HD.out ts sh (by omega) (by omega) (by omega))
      have HN := Lib.hid m1
      clear H hbl m1
      go_wp2_with fail
      refine wp_region_M (fun W => W.cell? (x.add (p * 2)) = some (.string ts) ∧ W.cell? ⟨(x.add (p * 2)).block, (x.add (p * 2)).off + 1, none⟩ = some (.int .i64 sh)) 12 (by kernel_rfl) ?_
      refine wpAnyM_take (by kernel_rfl) (by intro c a d v w h; cases d <;> exact h) [(0, false), (1, false), (2, false), (3, false), (4, false), (5, true), (6, false), (7, false), (8, false), (9, false), (10, true)] (fuel := 1) (by kernel_rfl) ?_
      apply Exists.intro; refine ⟨?_, ⟨g0, g1⟩, ?_⟩
      · iterate 11 ((first | (apply yieldN; (· (simp only [List.getElem?_toArray, List.getElem?_cons_succ, List.getElem?_cons_zero]; try rfl)); (· rfl)) | ((first | apply yieldP | apply yieldL); (· (simp only [List.getElem?_toArray, List.getElem?_cons_succ, List.getElem?_cons_zero]; try rfl)); (· rfl); (· (intros; go_simp; try with_reducible rfl)))); (· (simp only [Act.put, List.setIfInBounds_toArray, List.set_cons_zero, List.set_cons_succ]; try rfl)))
        exact rfl
      refine wpAnyM_one (fuel := 0) (i := 11) (by kernel_rfl) (by rfl) (fun K hK => ?_)    -- CALL
      go_wp2_with fail
      refine HM.out.mono ?_
      rintro e w3 ⟨rfl, h⟩
      have HX := Lib.hid h
      have hbl := h.below
      have k0 : w3.cell? (x.add (p * 2)) = some (.string ts) := (hbl.cell (World.block_lt_of_cell? w _ G.out.1)).trans G.out.1
      have k1 := (hbl.cell (World.block_lt_of_cell? w _ G.out.2)).trans G.out.2
      rw [add_field k0 1] at k1
      clear h HM hbl g0 g1
      go_wp2_with fail
      refine hK _ _ ⟨k0, k1⟩ ?_
      clear hK
      refine wpAnyM_done (by kernel_rfl) ?_ _
      go_wp2_with fail
      go_roundg (l.length - (p + 1))
      case rel => exact ⟨p + 1, _, by omega, rfl, by go_num, HX.out, HN.out.trans HSN.out, by omega, by omega, move_okS HOK.out _ _⟩
      case measure => omega
    have hGd := good1_any pp wr (by unfold maxLen; omega)
    have hmk := fun W => run_make_row' (P := Tryd.prog) 38 4 (.bool false) 1 Tryd.underlying38 infoBool rfl .i64 .i64 ops.length (by omega) (by omega) W
    have H0 := Lib.hid H
    clear H
    cases hg : goodP pp.data.toList with
    | false =>
      rw [hg] at hGd
      have HGD := Lib.hid hGd
      clear hGd hg
      go_wp2_with fail
      refine HGD.out.mono ?_
      rintro e wK ⟨rfl, hu⟩
      have HK := Lib.hid (H0.out.keep hu)
      clear hu HGD H0
      have hzr := falseRow wK ops.length (by omega)
      have HG0 := Lib.hid (HK.out.addR (T := ThRow 1 (.slice (some ⟨wK.heap.size, 0, none⟩) ops.length ops.length) ((List.replicate ops.length false).map bvv)) (Upd.alloc1 wK (.cells (madeCells #[.bool false] ops.length) 4) []) hzr)
      clear hzr HK
      go_wp2_with fail
      obtain ⟨q, hq⟩ : ∃ q, q = wK.heap.size := ⟨_, rfl⟩
      obtain ⟨wL, hwL⟩ : ∃ x, x = wK.alloc (.cells (madeCells #[.bool false] ops.length) 4) := ⟨_, rfl⟩
      rw [← hwL, ← hq] at HG0 ⊢
      clear hwL hq
      obtain ⟨ps, hps⟩ : ∃ ps, ps = ops.map (fun o => o.path.data.toList) := ⟨_, rfl⟩
      have hspl := split_walk HG0.out HD.out HOK.out _ _ _ ops HOP.out (by omega)
      rw [← hps] at hspl
      have HSP := Lib.hid hspl
      have HPS := Lib.hid hps
      clear hspl hps HG0
      refine HSP.out.mono ?_
      rintro e wM ⟨v, rfl, HM⟩
      obtain ⟨N, hN⟩ : ∃ N : Nat, S.n = N := ⟨S.n.toNat, by have := HOK.out.1; omega⟩
      have hNt : S.n.toNat = N := by rw [hN]; rfl
      have hN1 : 1 ≤ N := by have := HOK.out.1; omega
      have hN4 : N ≤ 4 := by have := HOK.out.2.1; omega
      have hnN : n = N := by rw [← HSN.out]; exact hN
      obtain ⟨vi0, D0, -, ⟨yv, nv, cv, hv, hnv, hys, -⟩, -, -⟩ := HM.take (s := 0) (grid_get (by rw [hNt]; omega))
      rw [grid_len, hNt] at hnv
      rw [hnv] at hv
      subst hv
      obtain ⟨cvv, hcvv⟩ : ∃ z, z = cv := ⟨_, rfl⟩
      rw [← seen_zero S ps ops.length] at HM
      have HN := Lib.hid (show _ ∧ _ from ⟨hN, hNt⟩)
      have HM := Lib.hid HM
      subst hnN
      clear HSP hys hN hNt hcvv
      go_wp2_with fail
      go_loopg [14] N (fun k vi wr => ∃ i : Nat, i ≤ N ∧ k = N - i ∧ vi = .int .i64 (i : Int) ∧ RtG w wr t S (.slice (some yv) N cv) (gridS S ps ops.length) [ThRow 1 (.slice (some ⟨q, 0, none⟩) ops.length ops.length) ((seenS S ps ops.length i 0).map bvv)] [])
      case atStart => exact ⟨0, Nat.zero_le _, rfl, rfl, HM.out⟩
      case round =>
        obtain ⟨i, hi, hk, hvi, HM⟩ := hrel
        subst hvi
        by_cases hltI : i < N
        case pos =>
          obtain ⟨vi, D, -, ⟨y', n', c', hv, -, hys, hcy⟩, hown, -⟩ := HM.take (grid_get (show i < S.n.toNat by rw [HN.out.2]; exact hltI))
          cases hv
          have hrl : (rowN S ps ops.length i).length ≤ ops.length := by have := row_len S ps ops.length i; rw [rowS_eq, List.length_map] at this; exact this
          have hrl2 : (rowN S ps ops.length i).length = (rowS S ps ops.length i).length := by rw [rowS_eq, List.length_map]
          have HM0 := Lib.hid HM
          clear HM hcy hown
          clear vi D
          go_wp2_with fail
          go_loopg [15] (rowN S ps ops.length i).length (fun k2 vk wr2 => ∃ j : Nat, j ≤ (rowN S ps ops.length i).length ∧ k2 = (rowN S ps ops.length i).length - j ∧ vk = .int .i64 (j : Int) ∧
            RtG w wr2 t S (.slice (some yv) N cv) (gridS S ps ops.length) [ThRow 1 (.slice (some ⟨q, 0, none⟩) ops.length ops.length) ((seenS S ps ops.length i j).map bvv)] [])
          case atStart => exact ⟨0, Nat.zero_le _, rfl, rfl, HM0.out⟩
          case round =>
            obtain ⟨j, hj, hk2, hvk, HM⟩ := hrel
            subst hvk
            clear HM0
            have hsN : i < S.n.toNat := by rw [HN.out.2]; exact hltI
            obtain ⟨vi, D, -, ⟨y', n', c', hv, -, -, hcy⟩, hown, -⟩ := HM.take (grid_get (ps := ps) (p := ops.length) hsN)
            cases hv
            obtain ⟨ai, ni, ci, rfl, hll, -⟩ := _root_.id hown
            rw [List.length_map, Nat.mul_one, ← hrl2] at hll
            subst hll
            by_cases hltJ : j < (rowN S ps ops.length i).length
            case neg =>
              obtain rfl : j = (rowN S ps ops.length i).length := by omega
              rw [seen_row] at HM
              have HX := Lib.hid HM
              clear HM hown
              go_wp2_with fail
              go_roundg (N - (i + 1))
              case rel => exact ⟨i + 1, by omega, rfl, by go_num, HX.out⟩
              case measure => omega
            obtain ⟨r1, r2, r3, r4⟩ := row_at hltJ
            have hsx := seen_next hltJ
            have hel : ∀ {j : Nat}, (hj : j < (rowN S ps ops.length i).length) → ∃ y2 : Addr, ai = some y2 ∧ y2.spot = none ∧ wr.cell? (y2.add j) = some (.int .i64 ((rowN S ps ops.length i)[j] : Int)) := fun {j} hj => by
              obtain ⟨y2, h1, h2, h3⟩ := ownCell hown (i := j) (x := ivv ((rowN S ps ops.length i)[j] : Int)) (by rw [rowS_eq, List.map_map, List.getElem?_map, List.getElem?_eq_getElem hj]; rfl)
              exact ⟨y2, h1, h2, h3⟩
            obtain ⟨⟨yb, yo, ysp⟩, rfl, hsp, hcn⟩ := hel hltJ
            dsimp only at hsp
            subst hsp
            rw [Addr.add_lit] at hcn
            have hcp : 0 < j → ∃ pv : Nat, wr.cell? ⟨yb, yo + (j - 1), none⟩ = some (.int .i64 (pv : Int)) ∧ pv < (rowN S ps ops.length i)[j] := fun h0 => by
              obtain ⟨y3, h1, -, h2⟩ := hel (j := j - 1) (by omega)
              cases h1
              rw [Addr.add_lit] at h2
              exact ⟨_, h2, r4 h0 (by omega)⟩
            have hgetA : ∀ (k : Nat) (h : k < ops.length), ps.getD k [] = ops[k].path.data.toList := fun k h => by
              rw [HPS.out, List.getD_eq_getElem?_getD, List.getElem?_map, List.getElem?_eq_getElem h]; rfl
            obtain ⟨nn, hnn⟩ : ∃ nn, (rowN S ps ops.length i)[j] = nn := ⟨_, rfl⟩
            rw [hnn] at r1 r2 r3 hsx hcn hcp
            clear r4 hel hnn
            obtain ⟨Ds, hsr⟩ := HM.row
            obtain ⟨ys, hys2, -, hcs⟩ := ownCell hsr (i := nn) (x := bvv false) (by rw [List.getElem?_map, seen_get r1, r3]; rfl)
            cases hys2
            rw [Addr.add_lit, Nat.zero_add] at hcs
            unfold bvv at hcs
            obtain ⟨xo, rfl, -, gp, -, -, -, hszp, -⟩ := (HOP.out.below HM.below).at r1
            have hget := hgetA nn r1
            obtain ⟨o, ho⟩ : ∃ o, ops[nn] = o := ⟨_, rfl⟩
            rw [ho] at gp hszp hget
            obtain ⟨R1, ht, bk⟩ := HM.table
            have hOf := of_any ht HD.out o.path hszp HOK.out.1 HOK.out.2.1
            rw [← hget, r2] at hOf
            have HOF := Lib.hid hOf
            have HBK := Lib.hid bk
            have HSX := Lib.hid (show _ ∧ _ from ⟨hsx, r3⟩)
            have hnn1 : ¬ (ops.length : Int) ≤ (nn : Int) := by omega
            have hnn2 : (nn : Int) < ops.length := by omega
            have hii : ((i : Int) != (i : Int)) = false := by simp
            clear hOf bk hsx r2 r3 hsr hget ho hgetA ht HM hown hszp
            obtain ⟨J, hJ⟩ : ∃ J, J = j := ⟨_, rfl⟩
            have HJ := Lib.hid hJ
            clear hJ
            by_cases hj0 : j = 0
            case' pos =>
              subst hj0
              rw [Nat.add_zero] at hcn
              clear hcp
            case' neg =>
              obtain ⟨pv, hpv, hpl2⟩ := hcp (by omega)
              obtain ⟨j', rfl⟩ : ∃ j', j = j' + 1 := ⟨j - 1, by omega⟩
              rw [Nat.add_sub_cancel] at hpv
              have hle : ¬ (nn : Int) ≤ (pv : Int) := by omega
              clear hcp
            all_goals
              go_wp2_with fail
              refine HOF.out.mono ?_
              rintro e wz ⟨rfl, hz⟩
              obtain ⟨f1, f2, hset⟩ := (HBK.out _ hz).rowSet (i := nn) r1 (.bool true)
              rw [Addr.add_lit, Nat.zero_add] at f1 f2 hset
              obtain ⟨uu, f2⟩ := f2
              have HSET := Lib.hid hset
              clear hz hset HOF
              go_wp2_with fail
              go_roundg ((rowN S ps ops.length i).length - (J + 1))
              case rel =>
                refine ⟨J + 1, by have := HJ.out; omega, rfl, by rw [HJ.out]; go_num, ?_⟩
                have := HSX.out.1
                rw [HJ.out, this, List.map_set]
                exact HSET.out
              case measure => have := HJ.out; omega
        obtain rfl : i = N := by omega
        have hBB := HM.below
        have HM0 := Lib.hid HM
        clear HM hBB
        go_wp2_with fail
        go_loopg [17] ops.length (fun k2 vk wr2 => ∃ j : Nat, j ≤ ops.length ∧ k2 = ops.length - j ∧ vk = .int .i64 (j : Int) ∧
          RtG w wr2 t S (.slice (some yv) i cv) (gridS S ps ops.length) [ThRow 1 (.slice (some ⟨q, 0, none⟩) ops.length ops.length) ((seenS S ps ops.length i 0).map bvv)] [])
        case atStart => exact ⟨0, Nat.zero_le _, rfl, rfl, HM0.out⟩
        case round =>
          obtain ⟨j, hj, hk2, hvk, HM⟩ := hrel
          subst hvk
          clear HM0
          by_cases hltJ : j < ops.length
          case neg =>
            have HBB := Lib.hid HM.below
            clear HM
            go_wp2_with fail
            go_ret
            exact ⟨rfl, HBB.out⟩
          have hsa := seen_all HOK.out ps ops.length j
          rw [HN.out.2] at hsa
          obtain ⟨Ds, hsr⟩ := HM.row
          obtain ⟨ys, hys2, -, hcs⟩ := ownCell hsr (i := j) (x := bvv (goodP (ps.getD j []))) (by rw [List.getElem?_map, seen_get hltJ, hsa]; rfl)
          cases hys2
          rw [Addr.add_lit, Nat.zero_add] at hcs
          unfold bvv at hcs
          obtain ⟨xo, rfl, -, gp, -, -, -, hszp, -⟩ := (HOP.out.below HM.below).at hltJ
          have hget : ps.getD j [] = ops[j].path.data.toList := by
            rw [HPS.out, List.getD_eq_getElem?_getD, List.getElem?_map, List.getElem?_eq_getElem hltJ]; rfl
          obtain ⟨o, ho⟩ : ∃ o, ops[j] = o := ⟨_, rfl⟩
          rw [ho] at gp hszp hget
          have hgd := good1_any o.path wr.drew hszp
          rw [← hget] at hgd
          obtain ⟨b, hb⟩ : ∃ b, goodP (ps.getD j []) = b := ⟨_, rfl⟩
          rw [hb] at hgd hcs
          have hbb : (b != b) = false := by simp
          have HGD := Lib.hid hgd
          have HM1 := Lib.hid (HM.keep (Upd.refl wr []).drew)
          clear hgd hsa hsr hget ho hb HM hszp
          go_wp2_with fail
          refine wp_region_M (fun W => W.cell? ⟨q, j, none⟩ = some (.bool b) ∧ W.cell? ⟨(xo.add (j * 5)).block, (xo.add (j * 5)).off + 1, none⟩ = some (.string o.path)) 11 (by kernel_rfl) ?_
          refine wpAnyM_take (by kernel_rfl) (by intro c a d v w h; cases d <;> exact h) [(0, false), (1, false), (2, false), (3, true), (4, false), (5, false), (6, false), (7, false), (8, true)] (fuel := 2) (by kernel_rfl) ?_
          apply Exists.intro; refine ⟨?_, ⟨hcs, gp⟩, ?_⟩
          · iterate 9 ((first | (apply yieldN; (· (simp only [List.getElem?_toArray, List.getElem?_cons_succ, List.getElem?_cons_zero]; try rfl)); (· rfl)) | ((first | apply yieldP | apply yieldL); (· (simp only [List.getElem?_toArray, List.getElem?_cons_succ, List.getElem?_cons_zero]; try rfl)); (· rfl); (· (intros; go_simp; try with_reducible rfl)))); (· (simp only [Act.put, List.setIfInBounds_toArray, List.set_cons_zero, List.set_cons_succ]; try rfl)))
            exact rfl
          refine wpAnyM_one (fuel := 1) (i := 9) (by kernel_rfl) (by rfl) (fun K hK => ?_)    -- CALL
          go_wp2_with fail
          refine HGD.out.mono ?_
          rintro e w8 ⟨rfl, hu⟩
          have k1 := upd_cell (Upd.drewL hu) hcs
          have k2 := upd_cell (Upd.drewL hu) gp
          have HX := Lib.hid (HM1.out.keep hu)
          clear hu HM1 HGD
          go_wp2_with fail
          refine hK _ _ ⟨k1, k2⟩ ?_
          clear hK
          refine wpAnyM_take (by kernel_rfl) (by intro c a d v w h; cases d <;> exact h) [(10, false)] (fuel := 0) (by kernel_rfl) ?_
          apply Exists.intro; refine ⟨?_, ⟨k1, k2⟩, ?_⟩
          · iterate 1 ((first | (apply yieldN; (· (simp only [List.getElem?_toArray, List.getElem?_cons_succ, List.getElem?_cons_zero]; try rfl)); (· rfl)) | ((first | apply yieldP | apply yieldL); (· (simp only [List.getElem?_toArray, List.getElem?_cons_succ, List.getElem?_cons_zero]; try rfl)); (· rfl); (· (intros; go_simp; try with_reducible rfl)))); (· (simp only [Act.put, List.setIfInBounds_toArray, List.set_cons_zero, List.set_cons_succ]; try rfl)))
            exact rfl
          refine wpAnyM_done (by kernel_rfl) ?_ _
          go_wp2_with fail
          go_roundg (ops.length - (j + 1))
          case rel => exact ⟨j + 1, by omega, rfl, by go_num, HX.out⟩
          case measure => omega
    | true =>
      rw [hg] at hGd
      obtain ⟨p1, p2, p3⟩ := whole_path HOK.out _ hg
      have HGD := Lib.hid hGd
      have hp3 : ofS S pp.data.toList < n := by rw [← HSN.out]; exact p3
      obtain ⟨o, ho⟩ : ∃ o, ofS S pp.data.toList = o := ⟨_, rfl⟩
      rw [ho] at p1 p2 hp3
      have HO := Lib.hid (show _ ∧ _ from ⟨ho, p1⟩)
      have hnl : ¬ o < 0 := by omega
      have hnn : ¬ n ≤ o := by omega
      have hoo : (o != o) = false := by simp
      clear hGd hg p1 p2 p3 ho
      go_wp2_with fail
      refine HGD.out.mono ?_
      rintro e w3 ⟨rfl, hu⟩
      have h3 := H0.out.keep hu
      have hOf := of_any h3 HD.out pp (by unfold maxLen; omega) HOK.out.1 HOK.out.2.1
      rw [HO.out.1] at hOf
      have HOF := Lib.hid hOf
      clear hu HGD H0 h3 hOf
      go_wp2_with fail
      refine HOF.out.mono ?_
      rintro e w4 ⟨rfl, h4⟩
      have H4 := Lib.hid h4
      have HTP := Lib.hid (top1_any pp w4 (by unfold maxLen; omega))
      clear h4 HOF
      go_wp2_with fail
      refine HTP.out.mono ?_
      rintro e w5 ⟨rfl, hu⟩
      have h5 := H4.out.keep hu
      have hts : (topP pp.data.toList).length ≤ 1000 := by
        by_cases h0 : topP pp.data.toList = []
        · rw [h0]; simp
        · obtain ⟨-, q, -, -, -, hnm⟩ := top_path h0
          unfold nameS at hnm
          simp only [Bool.and_eq_true, decide_eq_true_eq] at hnm
          omega
      obtain ⟨tp, htp⟩ : ∃ tp, topP pp.data.toList = tp := ⟨_, rfl⟩
      rw [htp] at hts HO ⊢
      unfold sv
      obtain ⟨tb, htb⟩ : ∃ tb : ByteArray, tb = ⟨tp.toArray⟩ := ⟨_, rfl⟩
      have htb2 : tb.data.toList = tp := by rw [htb]
      have htb3 : tb.size ≤ 1000 := by rw [htb]; show tp.toArray.size ≤ _; simpa using hts
      rw [← htb]
      have hOf := of_any h5 HD.out (⟨#[47]⟩ ++ tb) (by rw [cat_size]; unfold maxLen; show 1 + _ ≤ _; omega) HOK.out.1 HOK.out.2.1
      rw [cat_data, htb2, show (⟨#[47]⟩ : ByteArray).data.toList ++ tp = 47 :: tp from rfl, HO.out.2] at hOf
      have HOF := Lib.hid hOf
      clear hu HTP H4 h5 hOf htb htb2 htp
      go_wp2_with fail
      refine HOF.out.mono ?_
      rintro e w6 ⟨rfl, h6⟩
      have hOf := of_any h6 HD.out pp (by unfold maxLen; omega) HOK.out.1 HOK.out.2.1
      rw [HO.out.1] at hOf
      have HOF := Lib.hid hOf
      clear h6 hOf
      go_wp2_with fail
      refine HOF.out.mono ?_
      rintro e w7 ⟨rfl, h7⟩
      have hOf := of_any h7 HD.out pp (by unfold maxLen; omega) HOK.out.1 HOK.out.2.1
      rw [HO.out.1] at hOf
      have HOF := Lib.hid hOf
      clear h7 hOf
      go_wp2_with fail
      refine HOF.out.mono ?_
      rintro e wK ⟨rfl, h8⟩
      have HK := Lib.hid h8
      clear h8 HOF
      have hzr := falseRow wK ops.length (by omega)
      have HG0 := Lib.hid (HK.out.addR (T := ThRow 1 (.slice (some ⟨wK.heap.size, 0, none⟩) ops.length ops.length) ((List.replicate ops.length false).map bvv)) (Upd.alloc1 wK (.cells (madeCells #[.bool false] ops.length) 4) []) hzr)
      clear hzr HK
      go_wp2_with fail
      obtain ⟨q, hq⟩ : ∃ q, q = wK.heap.size := ⟨_, rfl⟩
      obtain ⟨wL, hwL⟩ : ∃ x, x = wK.alloc (.cells (madeCells #[.bool false] ops.length) 4) := ⟨_, rfl⟩
      rw [← hwL, ← hq] at HG0 ⊢
      clear hwL hq
      obtain ⟨ps, hps⟩ : ∃ ps, ps = ops.map (fun o => o.path.data.toList) := ⟨_, rfl⟩
      have hspl := split_walk HG0.out HD.out HOK.out _ _ _ ops HOP.out (by omega)
      rw [← hps] at hspl
      have HSP := Lib.hid hspl
      have HPS := Lib.hid hps
      clear hspl hps HG0
      refine HSP.out.mono ?_
      rintro e wM ⟨v, rfl, HM⟩
      obtain ⟨N, hN⟩ : ∃ N : Nat, S.n = N := ⟨S.n.toNat, by have := HOK.out.1; omega⟩
      have hNt : S.n.toNat = N := by rw [hN]; rfl
      have hN1 : 1 ≤ N := by have := HOK.out.1; omega
      have hN4 : N ≤ 4 := by have := HOK.out.2.1; omega
      have hnN : n = N := by rw [← HSN.out]; exact hN
      obtain ⟨vi0, D0, -, ⟨yv, nv, cv, hv, hnv, hys, -⟩, -, -⟩ := HM.take (s := 0) (grid_get (by rw [hNt]; omega))
      rw [grid_len, hNt] at hnv
      rw [hnv] at hv
      subst hv
      obtain ⟨cvv, hcvv⟩ : ∃ z, z = cv := ⟨_, rfl⟩
      rw [← seen_zero S ps ops.length] at HM
      have HN := Lib.hid (show _ ∧ _ from ⟨hN, hNt⟩)
      have HM := Lib.hid HM
      subst hnN
      clear HSP hys hN hNt hcvv
      go_wp2_with fail
      go_loopg [14] N (fun k vi wr => ∃ i : Nat, i ≤ N ∧ k = N - i ∧ vi = .int .i64 (i : Int) ∧ RtG w wr t S (.slice (some yv) N cv) (gridS S ps ops.length) [ThRow 1 (.slice (some ⟨q, 0, none⟩) ops.length ops.length) ((seenS S ps ops.length i 0).map bvv)] [])
      case atStart => exact ⟨0, Nat.zero_le _, rfl, rfl, HM.out⟩
      case round =>
        obtain ⟨i, hi, hk, hvi, HM⟩ := hrel
        subst hvi
        by_cases hltI : i < N
        case pos =>
          obtain ⟨vi, D, -, ⟨y', n', c', hv, -, hys, hcy⟩, hown, -⟩ := HM.take (grid_get (show i < S.n.toNat by rw [HN.out.2]; exact hltI))
          cases hv
          have hrl : (rowN S ps ops.length i).length ≤ ops.length := by have := row_len S ps ops.length i; rw [rowS_eq, List.length_map] at this; exact this
          have hrl2 : (rowN S ps ops.length i).length = (rowS S ps ops.length i).length := by rw [rowS_eq, List.length_map]
          have HM0 := Lib.hid HM
          clear HM hcy hown
          clear vi D
          go_wp2_with fail
          go_loopg [15] (rowN S ps ops.length i).length (fun k2 vk wr2 => ∃ j : Nat, j ≤ (rowN S ps ops.length i).length ∧ k2 = (rowN S ps ops.length i).length - j ∧ vk = .int .i64 (j : Int) ∧
            RtG w wr2 t S (.slice (some yv) N cv) (gridS S ps ops.length) [ThRow 1 (.slice (some ⟨q, 0, none⟩) ops.length ops.length) ((seenS S ps ops.length i j).map bvv)] [])
          case atStart => exact ⟨0, Nat.zero_le _, rfl, rfl, HM0.out⟩
          case round =>
            obtain ⟨j, hj, hk2, hvk, HM⟩ := hrel
            subst hvk
            clear HM0
            have hsN : i < S.n.toNat := by rw [HN.out.2]; exact hltI
            obtain ⟨vi, D, -, ⟨y', n', c', hv, -, -, hcy⟩, hown, -⟩ := HM.take (grid_get (ps := ps) (p := ops.length) hsN)
            cases hv
            obtain ⟨ai, ni, ci, rfl, hll, -⟩ := _root_.id hown
            rw [List.length_map, Nat.mul_one, ← hrl2] at hll
            subst hll
            by_cases hltJ : j < (rowN S ps ops.length i).length
            case neg =>
              obtain rfl : j = (rowN S ps ops.length i).length := by omega
              rw [seen_row] at HM
              have HX := Lib.hid HM
              clear HM hown
              go_wp2_with fail
              go_roundg (N - (i + 1))
              case rel => exact ⟨i + 1, by omega, rfl, by go_num, HX.out⟩
              case measure => omega
            obtain ⟨r1, r2, r3, r4⟩ := row_at hltJ
            have hsx := seen_next hltJ
            have hel : ∀ {j : Nat}, (hj : j < (rowN S ps ops.length i).length) → ∃ y2 : Addr, ai = some y2 ∧ y2.spot = none ∧ wr.cell? (y2.add j) = some (.int .i64 ((rowN S ps ops.length i)[j] : Int)) := fun {j} hj => by
              obtain ⟨y2, h1, h2, h3⟩ := ownCell hown (i := j) (x := ivv ((rowN S ps ops.length i)[j] : Int)) (by rw [rowS_eq, List.map_map, List.getElem?_map, List.getElem?_eq_getElem hj]; rfl)
              exact ⟨y2, h1, h2, h3⟩
            obtain ⟨⟨yb, yo, ysp⟩, rfl, hsp, hcn⟩ := hel hltJ
            dsimp only at hsp
            subst hsp
            rw [Addr.add_lit] at hcn
            have hcp : 0 < j → ∃ pv : Nat, wr.cell? ⟨yb, yo + (j - 1), none⟩ = some (.int .i64 (pv : Int)) ∧ pv < (rowN S ps ops.length i)[j] := fun h0 => by
              obtain ⟨y3, h1, -, h2⟩ := hel (j := j - 1) (by omega)
              cases h1
              rw [Addr.add_lit] at h2
              exact ⟨_, h2, r4 h0 (by omega)⟩
            have hgetA : ∀ (k : Nat) (h : k < ops.length), ps.getD k [] = ops[k].path.data.toList := fun k h => by
              rw [HPS.out, List.getD_eq_getElem?_getD, List.getElem?_map, List.getElem?_eq_getElem h]; rfl
            obtain ⟨nn, hnn⟩ : ∃ nn, (rowN S ps ops.length i)[j] = nn := ⟨_, rfl⟩
            rw [hnn] at r1 r2 r3 hsx hcn hcp
            clear r4 hel hnn
            obtain ⟨Ds, hsr⟩ := HM.row
            obtain ⟨ys, hys2, -, hcs⟩ := ownCell hsr (i := nn) (x := bvv false) (by rw [List.getElem?_map, seen_get r1, r3]; rfl)
            cases hys2
            rw [Addr.add_lit, Nat.zero_add] at hcs
            unfold bvv at hcs
            obtain ⟨xo, rfl, -, gp, -, -, -, hszp, -⟩ := (HOP.out.below HM.below).at r1
            have hget := hgetA nn r1
            obtain ⟨o, ho⟩ : ∃ o, ops[nn] = o := ⟨_, rfl⟩
            rw [ho] at gp hszp hget
            obtain ⟨R1, ht, bk⟩ := HM.table
            have hOf := of_any ht HD.out o.path hszp HOK.out.1 HOK.out.2.1
            rw [← hget, r2] at hOf
            have HOF := Lib.hid hOf
            have HBK := Lib.hid bk
            have HSX := Lib.hid (show _ ∧ _ from ⟨hsx, r3⟩)
            have hnn1 : ¬ (ops.length : Int) ≤ (nn : Int) := by omega
            have hnn2 : (nn : Int) < ops.length := by omega
            have hii : ((i : Int) != (i : Int)) = false := by simp
            clear hOf bk hsx r2 r3 hsr hget ho hgetA ht HM hown hszp
            obtain ⟨J, hJ⟩ : ∃ J, J = j := ⟨_, rfl⟩
            have HJ := Lib.hid hJ
            clear hJ
            by_cases hj0 : j = 0
            case' pos =>
              subst hj0
              rw [Nat.add_zero] at hcn
              clear hcp
            case' neg =>
              obtain ⟨pv, hpv, hpl2⟩ := hcp (by omega)
              obtain ⟨j', rfl⟩ : ∃ j', j = j' + 1 := ⟨j - 1, by omega⟩
              rw [Nat.add_sub_cancel] at hpv
              have hle : ¬ (nn : Int) ≤ (pv : Int) := by omega
              clear hcp
            all_goals
              go_wp2_with fail
              refine HOF.out.mono ?_
              rintro e wz ⟨rfl, hz⟩
              obtain ⟨f1, f2, hset⟩ := (HBK.out _ hz).rowSet (i := nn) r1 (.bool true)
              rw [Addr.add_lit, Nat.zero_add] at f1 f2 hset
              obtain ⟨uu, f2⟩ := f2
              have HSET := Lib.hid hset
              clear hz hset HOF
              go_wp2_with fail
              go_roundg ((rowN S ps ops.length i).length - (J + 1))
              case rel =>
                refine ⟨J + 1, by have := HJ.out; omega, rfl, by rw [HJ.out]; go_num, ?_⟩
                have := HSX.out.1
                rw [HJ.out, this, List.map_set]
                exact HSET.out
              case measure => have := HJ.out; omega
        obtain rfl : i = N := by omega
        have hBB := HM.below
        have HM0 := Lib.hid HM
        clear HM hBB
        go_wp2_with fail
        go_loopg [17] ops.length (fun k2 vk wr2 => ∃ j : Nat, j ≤ ops.length ∧ k2 = ops.length - j ∧ vk = .int .i64 (j : Int) ∧
          RtG w wr2 t S (.slice (some yv) i cv) (gridS S ps ops.length) [ThRow 1 (.slice (some ⟨q, 0, none⟩) ops.length ops.length) ((seenS S ps ops.length i 0).map bvv)] [])
        case atStart => exact ⟨0, Nat.zero_le _, rfl, rfl, HM0.out⟩
        case round =>
          obtain ⟨j, hj, hk2, hvk, HM⟩ := hrel
          subst hvk
          clear HM0
          by_cases hltJ : j < ops.length
          case neg =>
            have HBB := Lib.hid HM.below
            clear HM
            go_wp2_with fail
            go_ret
            exact ⟨rfl, HBB.out⟩
          have hsa := seen_all HOK.out ps ops.length j
          rw [HN.out.2] at hsa
          obtain ⟨Ds, hsr⟩ := HM.row
          obtain ⟨ys, hys2, -, hcs⟩ := ownCell hsr (i := j) (x := bvv (goodP (ps.getD j []))) (by rw [List.getElem?_map, seen_get hltJ, hsa]; rfl)
          cases hys2
          rw [Addr.add_lit, Nat.zero_add] at hcs
          unfold bvv at hcs
          obtain ⟨xo, rfl, -, gp, -, -, -, hszp, -⟩ := (HOP.out.below HM.below).at hltJ
          have hget : ps.getD j [] = ops[j].path.data.toList := by
            rw [HPS.out, List.getD_eq_getElem?_getD, List.getElem?_map, List.getElem?_eq_getElem hltJ]; rfl
          obtain ⟨o, ho⟩ : ∃ o, ops[j] = o := ⟨_, rfl⟩
          rw [ho] at gp hszp hget
          have hgd := good1_any o.path wr.drew hszp
          rw [← hget] at hgd
          obtain ⟨b, hb⟩ : ∃ b, goodP (ps.getD j []) = b := ⟨_, rfl⟩
          rw [hb] at hgd hcs
          have hbb : (b != b) = false := by simp
          have HGD := Lib.hid hgd
          have HM1 := Lib.hid (HM.keep (Upd.refl wr []).drew)
          clear hgd hsa hsr hget ho hb HM hszp
          go_wp2_with fail
          refine wp_region_M (fun W => W.cell? ⟨q, j, none⟩ = some (.bool b) ∧ W.cell? ⟨(xo.add (j * 5)).block, (xo.add (j * 5)).off + 1, none⟩ = some (.string o.path)) 11 (by kernel_rfl) ?_
          refine wpAnyM_take (by kernel_rfl) (by intro c a d v w h; cases d <;> exact h) [(0, false), (1, false), (2, false), (3, true), (4, false), (5, false), (6, false), (7, false), (8, true)] (fuel := 2) (by kernel_rfl) ?_
          apply Exists.intro; refine ⟨?_, ⟨hcs, gp⟩, ?_⟩
          · iterate 9 ((first | (apply yieldN; (· (simp only [List.getElem?_toArray, List.getElem?_cons_succ, List.getElem?_cons_zero]; try rfl)); (· rfl)) | ((first | apply yieldP | apply yieldL); (· (simp only [List.getElem?_toArray, List.getElem?_cons_succ, List.getElem?_cons_zero]; try rfl)); (· rfl); (· (intros; go_simp; try with_reducible rfl)))); (· (simp only [Act.put, List.setIfInBounds_toArray, List.set_cons_zero, List.set_cons_succ]; try rfl)))
            exact rfl
          refine wpAnyM_one (fuel := 1) (i := 9) (by kernel_rfl) (by rfl) (fun K hK => ?_)    -- CALL
          go_wp2_with fail
          refine HGD.out.mono ?_
          rintro e w8 ⟨rfl, hu⟩
          have k1 := upd_cell (Upd.drewL hu) hcs
          have k2 := upd_cell (Upd.drewL hu) gp
          have HX := Lib.hid (HM1.out.keep hu)
          clear hu HM1 HGD
          go_wp2_with fail
          refine hK _ _ ⟨k1, k2⟩ ?_
          clear hK
          refine wpAnyM_take (by kernel_rfl) (by intro c a d v w h; cases d <;> exact h) [(10, false)] (fuel := 0) (by kernel_rfl) ?_
          apply Exists.intro; refine ⟨?_, ⟨k1, k2⟩, ?_⟩
          · iterate 1 ((first | (apply yieldN; (· (simp only [List.getElem?_toArray, List.getElem?_cons_succ, List.getElem?_cons_zero]; try rfl)); (· rfl)) | ((first | apply yieldP | apply yieldL); (· (simp only [List.getElem?_toArray, List.getElem?_cons_succ, List.getElem?_cons_zero]; try rfl)); (· rfl); (· (intros; go_simp; try with_reducible rfl)))); (· (simp only [Act.put, List.setIfInBounds_toArray, List.set_cons_zero, List.set_cons_succ]; try rfl)))
            exact rfl
          refine wpAnyM_done (by kernel_rfl) ?_ _
          go_wp2_with fail
          go_roundg (ops.length - (j + 1))
          case rel => exact ⟨j + 1, by omega, rfl, by go_num, HX.out⟩
          case measure => omega
end Go.Proofs.YtfncdgnhiinmjaaDoor
