/-
  Decisions read: Get.
-/
import Derived.Test.YtebmmbommkpjaaaCoordQ
namespace Go.Proofs.Ytebmmbommkpjaaa
open Go.RowKit Go.Av

theorem Sep.dropL {w0 w : World} {R : List Thing} {rows : List (Value × Bs)} : ∀ (A : List Thing), Sep w0 w (A ++ R) rows → Sep w0 w R rows
  | [], h => h
  | _ :: A, h => Sep.dropL A h.drop
section
variable {w0 w : World} {c r : Nat} {S : CoS} {d : Rd} {R : List Thing} {rows : List (Value × Bs)}
theorem Co.rdI64 (h : Co w0 w c S (ThRdr r d :: R) rows) :
    Calls Try.prog 43 #[.pointer (some ⟨r, 0, none⟩)] w fun e w' => e = .returned (.int .i64 (i64R d).1) ∧ Co w0 w' c S (ThRdr r (i64R d).2 :: R) rows := by
  obtain ⟨X, hS, hb⟩ := Co.side (A := [_]) h
  refine (rdrSep_i64 hS).mono ?_
  rintro e w' ⟨rfl, h'⟩
  exact ⟨rfl, hb _ [_] h'⟩
theorem Co.rdCount (h : Co w0 w c S (ThRdr r d :: R) rows) (most : Int) (hm : 0 ≤ most) :
    Calls Try.prog 42 #[.pointer (some ⟨r, 0, none⟩), .int .i64 most] w fun e w' => e = .returned (.int .i64 (cntR most d).1) ∧ Co w0 w' c S (ThRdr r (cntR most d).2 :: R) rows := by
  obtain ⟨X, hS, hb⟩ := Co.side (A := [_]) h
  refine (rdrSep_count hS most hm).mono ?_
  rintro e w' ⟨rfl, h'⟩
  exact ⟨rfl, hb _ [_] h'⟩
theorem Co.rdRead (h : Co w0 w c S (ThRdr r d :: R) rows) :
    Calls Try.prog 44 #[.pointer (some ⟨r, 0, none⟩)] w fun e w' => ∃ v, e = .returned v ∧ Co w0 w' c S (ThRow 1 v ((readR d).1.map iv) :: ThRdr r (readR d).2 :: R) rows := by
  obtain ⟨X, hS, hb⟩ := Co.side (A := [_]) h
  refine (read_any hS).mono ?_
  rintro e w' ⟨v, rfl, h'⟩
  exact ⟨v, rfl, hb _ [_, _] h'⟩
theorem Co.rdBad (h : Co w0 w c S (ThRdr r d :: R) rows) :
    Calls Try.prog 45 #[.pointer (some ⟨r, 0, none⟩)] w fun e w' => e = .returned (.bool d.2) ∧ w' = w := by
  obtain ⟨X, hS, hb⟩ := Co.side (A := [_]) h
  exact rdrSep_bad hS
theorem Co.rdEnd (h : Co w0 w c S (ThRdr r d :: R) rows) :
    Calls Try.prog 47 #[.pointer (some ⟨r, 0, none⟩)] w fun e w' => e = .returned (.bool (!d.2 && d.1.isEmpty)) ∧ w' = w := by
  obtain ⟨X, hS, hb⟩ := Co.side (A := [_]) h
  exact rdrSep_end hS
theorem Co.out (h : Co w0 w c S R rows) : Sep w0 w R rows := by
  obtain ⟨m, gs, h1, h2, hS⟩ := h
  exact Sep.dropL _ (Sep.dropL _ hS)
theorem Co.get {v : Value} {l : Bs} (h : Co w0 w c S R rows) (hm : (v, l) ∈ rows) : ∃ E, ReadRow w 1 v (l.map bv) E := by
  obtain ⟨m, gs, h1, h2, hS⟩ := h
  exact hS.get hm

theorem readR_len (d : Rd) : (readR d).1.length ≤ 4 := by
  unfold readR
  rw [cntN_len]
  have := cntR_bd (most := 4) (by decide) d
  omega
theorem i64R_bd (d : Rd) : -9223372036854775808 ≤ (i64R d).1 ∧ (i64R d).1 ≤ 9223372036854775807 := by
  unfold i64R
  split
  · simp
  · simp only [rdI, IntKind.wrap_i64]
    omega
theorem getN_end (n : Nat) (last : Int) (d : Rd) (S : CoS) : getN (n + 1) last d S = if (entR d).2.2 = true ∨ (entR d).1.1 ≤ last ∨ goodS (entR d).1.2 = false then none else getN n (entR d).1.1 (entR d).2 (S ++ [(entR d).1]) := rfl

theorem Co.setR {q : Nat} {cs : Array Value} {T : TypeId} (h : Co w0 w c S (ThCell q (.cells cs T (0, 0)) :: R) rows) (i : Nat) (v : Value) : Co w0 (w.setCell ⟨q, i, none⟩ v) c S (ThCell q (.cells (cs.setIfInBounds i v) T (0, 0)) :: R) rows := by
  obtain ⟨X, hS, hb⟩ := Co.side (A := [_]) h
  exact hb _ [_] (hS.set i v)
theorem Co.ownR {v : Value} {xs : List Value} {A : List Thing} (h : Co w0 w c S (A ++ R) rows) (hm : ThRow 1 v xs ∈ A) : ∃ D, OwnRow w 1 v xs D := by
  obtain ⟨X, hS, hb⟩ := Co.side h
  exact hS.has (T := ThRow 1 v xs) (by simp [hm])
theorem Co.drew (h : Co w0 w c S R rows) : Co w0 w.drew c S R rows := h.keep (Upd.refl w []).drew
def endS (o : Option (CoS × Rd)) : Option CoS := match o with | none => none | some (S, r) => if r.2 = false ∧ r.1 = [] then some S else none
def GetPost (w0 : World) (R : List Thing) (rows : List (Value × Bs)) (o : Option CoS) (e : Ending) (w' : World) : Prop :=
  match o with
  | none => e = .returned (.tuple #[.pointer none, .int .i64 3]) ∧ Sep w0 w' R rows
  | some S => ∃ c, e = .returned (.tuple #[.pointer (some ⟨c, 0, none⟩), .int .i64 0]) ∧ Co w0 w' c S R rows

set_option maxRecDepth 100000 in
set_option maxHeartbeats 8000000 in
theorem get_any (h : Sep w0 w R rows) (v : Value) (l : Bs) (hv : (v, l) ∈ rows) (hl : l.length ≤ 1073741824) : Calls Try.prog 21 #[v] w (GetPost w0 R rows (getS l)) := by
  obtain ⟨i0, hi0, hz0, hz1, hz2⟩ := info_parts infoI
  have HN := Lib.hid (new_coord h)
  have HV := Lib.hid hv
  clear h hv
  have hgs : getS l = endS (getN (cntR 1048576 (l, false)).1.toNat 0 (cntR 1048576 (l, false)).2 []) := rfl
  have hb := cntR_bd (most := 1048576) (by decide) (l, false)
  obtain ⟨q, hq⟩ : ∃ q, cntR 1048576 (l, false) = q := ⟨_, rfl⟩
  rw [hq] at hb hgs
  obtain ⟨n, d0⟩ := q
  dsimp only at hb hgs
  obtain ⟨N, rfl⟩ : ∃ N : Nat, n = N := ⟨n.toNat, by omega⟩
  rw [Int.toNat_natCast] at hgs
  have HQ := Lib.hid hq
  have HGS := Lib.hid hgs
  clear hq hgs
  go_enter Try.func21, Try.ntmps21
  go_wp2_with fail
  refine HN.out.mono ?_
  rintro e w1 ⟨c, rfl, h1⟩
  obtain ⟨E, hE⟩ := h1.get HV.out
  have HR := Lib.hid (rdr_new v l E w1 hE hl)
  have H1 := Lib.hid h1
  clear h1 hE HN
  go_wp2_with fail
  refine HR.out.mono ?_
  rintro e w2 ⟨r, D, rfl, hr, hu⟩
  have h2 := H1.out.addR (T := ThRdr r (l, false)) hu hr
  have hct := h2.rdCount 1048576 (by decide)
  rw [HQ.out] at hct
  dsimp only at hct
  have HC := Lib.hid hct
  clear hct hr hu h2 HR H1 hl
  go_wp2_with fail
  refine HC.out.mono ?_
  rintro e w3 ⟨rfl, h3⟩
  clear HC
  have H3 := Lib.hid h3
  clear h3
  go_wp2_with fail
  go_loopg [6, 14] N (fun k vt vi wr => ∃ (j : Nat) (S : CoS) (last : Int) (d : Rd), j ≤ N ∧ k = N - j ∧ vi = .int .i64 (j : Int) ∧ vt = .int .i64 last ∧ Co w0 wr c S (ThRdr r d :: R) rows ∧
    getN N 0 d0 [] = getN (N - j) last d S ∧ (∀ e ∈ S, e.1 ≤ last) ∧ 0 ≤ last)
  case atStart => exact ⟨0, [], 0, d0, Nat.zero_le _, rfl, rfl, rfl, H3.out, rfl, by simp, Int.le_refl _⟩
  case round =>
    obtain ⟨j, S, last, d, hj, hk, hvi, hvt, hC, hg, hlast, hl0⟩ := hrel
    subst hvi hvt
    clear H3
    by_cases hlt : j < N
    case neg =>
      obtain rfl : j = N := by omega
      rw [Nat.sub_self] at hg
      have HG := Lib.hid hg
      have HE := Lib.hid hC.rdEnd
      have HC := Lib.hid hC
      clear hC hg hlast
      obtain ⟨b, hb'⟩ : ∃ b, (!d.2 && d.1.isEmpty) = b := ⟨_, rfl⟩
      rw [hb'] at HE
      have HB := Lib.hid hb'
      clear hb'
      go_wp2_with fail
      refine HE.out.mono ?_
      rintro e w4 ⟨rfl, hW⟩
      subst w4
      cases b with
      | true =>
        go_wp2_with fail
        go_ret2
        have hb2 := HB.out
        simp only [Bool.and_eq_true, Bool.not_eq_true', List.isEmpty_iff] at hb2
        rw [HGS.out, HG.out]
        unfold getN endS GetPost
        simp only
        rw [if_pos hb2]
        exact ⟨c, rfl, HC.out.dropR⟩
      | false =>
        go_wp2_with fail
        go_ret2
        have hb2 : ¬ (d.2 = false ∧ d.1 = []) := fun h => by
          have hb2 := HB.out
          rw [h.1, h.2] at hb2
          cases hb2
        rw [HGS.out, HG.out]
        unfold getN endS GetPost
        simp only
        rw [if_neg hb2]
        exact ⟨rfl, HC.out.out.drop⟩
    have hg2 : N - j = (N - (j + 1)) + 1 := by omega
    rw [hg2, getN_end] at hg
    unfold entR at hg
    have ha := i64R_bd d
    obtain ⟨qa, hqa⟩ : ∃ q, i64R d = q := ⟨_, rfl⟩
    have HI := Lib.hid hC.rdI64
    rw [hqa] at hg ha HI
    obtain ⟨id, da⟩ := qa
    dsimp only at hg ha HI
    clear hqa hC
    have HG := Lib.hid (show _ ∧ _ ∧ _ from ⟨hg, hlast, ha⟩)
    clear hg hlast ha
    go_wp2_with fail
    refine HI.out.mono ?_
    rintro e w4 ⟨rfl, h4⟩
    have HRd := Lib.hid h4.rdRead
    clear HI h4
    go_wp2_with fail
    refine HRd.out.mono ?_
    rintro e w5 ⟨vs, rfl, h5⟩
    have hsl := readR_len da
    have HG2 := HG.out
    obtain ⟨qs, hqs⟩ : ∃ q, readR da = q := ⟨_, rfl⟩
    rw [hqs] at h5 hsl
    simp only [hqs] at HG2
    obtain ⟨shards, ds⟩ := qs
    dsimp only at h5 hsl HG2
    have HG := Lib.hid HG2
    clear HG2 hqs HRd
    obtain ⟨D5, ho5, -⟩ := h5.row
    obtain ⟨asl, ns, csl, rfl, hns, -⟩ := _root_.id ho5
    rw [List.length_map, Nat.mul_one] at hns
    subst hns
    have h6 := h5.newCell (.cells #[.slice asl shards.length csl, .slice none 0 0, .int .i64 0, .slice none 0 0] 69 (0, 0))
    have H6 := Lib.hid h6
    clear h5 ho5 h6
    go_wp2_with fail
    obtain ⟨p, hp⟩ : ∃ p, p = w5.heap.size := ⟨_, rfl⟩
    obtain ⟨w6, hw6⟩ : ∃ x, x = w5.alloc (.cells #[.slice asl shards.length csl, .slice none 0 0, .int .i64 0, .slice none 0 0] 69 (0, 0)) := ⟨_, rfl⟩
    rw [← hw6, ← hp] at H6 ⊢
    clear hw6 hp
    have HX := Lib.hid (show Co w0 w6 c S (ThCell p (.cells #[.slice asl shards.length csl, .slice none 0 0, .int .i64 0, .slice none 0 0] 69 (0, 0)) :: ThRow 1 (.slice asl shards.length csl) (shards.map iv) :: ThRow 1 (.slice none 0 0) [] :: ThRdr r ds :: R) rows from
      (H6.out.addR (T := ThRow 1 (.slice none 0 0) []) (D' := []) (Upd.refl w6 []) (OwnRow.nil _ _)).permR (List.perm_middle (l₁ := [_, _])).symm)
    clear H6
    go_loopg [27] shards.length (fun k vi wr => ∃ (i : Nat) (vv : Value), i ≤ shards.length ∧ k = shards.length - i ∧ vi = .int .i64 (i : Int) ∧ Co w0 wr c S (ThCell p (.cells #[.slice asl shards.length csl, vv, .int .i64 0, .slice none 0 0] 69 (0, 0)) ::
      ThRow 1 (.slice asl shards.length csl) (shards.map iv) :: ThRow 1 vv ((cntN 2 i ds).1.map iv) :: ThRdr r (cntN 2 i ds).2 :: R) rows)
    case atStart => exact ⟨0, _, Nat.zero_le _, rfl, rfl, HX.out⟩
    case round =>
      obtain ⟨i, vv, hi, hk2, hvi, hC⟩ := hrel
      subst hvi
      clear HX
      by_cases hlt2 : i < shards.length
      case pos =>
        have k1 := cell_of hC.cellR 1 rfl
        rw [show (#[Value.slice asl shards.length csl, vv, .int .i64 0, .slice none 0 0] : Array Value)[1] = vv from rfl] at k1
        have hsn := cntN_snoc 2 i ds
        have hnl := cntN_len 2 i ds
        have HCC := Lib.hid hC
        clear hC
        obtain ⟨q, hq⟩ : ∃ q, cntN 2 i ds = q := ⟨_, rfl⟩
        rw [hq] at hsn hnl HCC
        obtain ⟨q2, hq2⟩ : ∃ z, cntR 2 q.2 = z := ⟨_, rfl⟩
        rw [hq2] at hsn
        obtain ⟨z, d2⟩ := q2
        obtain ⟨xs, d3⟩ := q
        dsimp only at hsn hnl HCC hq2
        have HSN := Lib.hid (show _ ∧ _ ∧ _ from ⟨hsn, hnl, hq2⟩)
        clear hsn hnl hq hq2
        go_wp2_with fail
        refine wp_region_M (fun W => W.cell? ⟨p, 1, none⟩ = some vv) 9 (by kernel_rfl) ?_
        refine wpAnyM_take (by kernel_rfl) (by intro c a d v w h; cases d <;> exact h) [(0, false), (1, false), (2, false), (3, false), (4, true), (5, false)] (fuel := 6) (by kernel_rfl) ?_
        apply Exists.intro; refine ⟨?_, k1, ?_⟩
        · iterate 6 ((first | (apply yieldN; (· (simp only [List.getElem?_toArray, List.getElem?_cons_succ, List.getElem?_cons_zero]; try rfl)); (· rfl)) | ((first | apply yieldP | apply yieldL); (· (simp only [List.getElem?_toArray, List.getElem?_cons_succ, List.getElem?_cons_zero]; try rfl)); (· rfl); (· (intros; go_simp; try with_reducible rfl)))); (· (simp only [Act.put, List.setIfInBounds_toArray, List.set_cons_zero, List.set_cons_succ]; try rfl)))
          exact rfl
        refine wpAnyM_one (fuel := 5) (i := 6) (by kernel_rfl) (by rfl) (fun K hK => ?_)    -- CALL
        go_wp2_with fail
        have hct := (HCC.out.drew.permR (List.perm_middle (l₁ := [_, _, _]))).rdCount 2 (by decide)
        rw [HSN.out.2.2] at hct
        refine hct.mono ?_
        rintro e w7 ⟨rfl, h7⟩
        have h7 := h7.permR (List.perm_middle (l₁ := [_, _, _])).symm
        have k7 := cell_of h7.cellR 1 rfl
        rw [show (#[Value.slice asl shards.length csl, vv, .int .i64 0, .slice none 0 0] : Array Value)[1] = vv from rfl] at k7
        obtain ⟨D, hown, back⟩ := (h7.permR (List.perm_middle (l₁ := [_, _]))).row
        have ha1 := Upd.alloc0 w7 (.cells #[.int .i64 z] 3 (0, 0)) []
        have k8 := upd_cell ha1 k7
        obtain ⟨al, nl, cl, hvl, -⟩ := _root_.id hown
        subst hvl
        have hownA : OwnRow _ 1 _ _ D := OwnRow.frame hown (ha1.same (OwnRow.lt hown) (by simp))
        obtain ⟨nb, hnb, hsrc⟩ := (cell_new w7 (.int .i64 z) 3 (0, 0)).src (P := Try.prog) (tx := 22) Try.underlying22 (by intro u hu; rw [List.mem_singleton.1 hu]; rfl)
        obtain rfl : 1 = nb := by simpa using hnb
        have HBD := Lib.hid (show ∀ n', (xs.map iv).length = n' * 1 → n' + 1 ≤ 140737488355328 ∧ (n' + 1) * i0.bytes ≤ 140737488355328 from fun n' hn' => by
          rw [List.length_map, HSN.out.2.1] at hn'
          rw [hz2]; omega)
        have HBK := Lib.hid back
        have HO := Lib.hid (show _ ∧ _ ∧ _ ∧ _ from ⟨hownA, hsrc, k8, ha1⟩)
        clear hown back h7 hnb HCC k1 hct hownA hsrc ha1
        go_wp2_with fail
        refine hK _ _ k7 ?_
        clear hK
        refine wpAnyM_one (fuel := 4) (i := 7) (by kernel_rfl) (by rfl) (fun K hK => ?_)    -- buildSlice
        go_wp2_with fail
        refine hK _ _ k8 ?_
        clear hK
        refine wpAnyM_one (fuel := 3) (i := 8) (by kernel_rfl) (by rfl) (fun K hK => ?_)    -- b:append
        obtain ⟨hownA, hsrc, -, ha1⟩ := HO.out
        refine wpList_app rfl _ _ 22 22 rfl 1 _ _ _ rfl hownA _ i0 _ Try.underlying22 hi0 hz0 hz1 rfl _ _ _ rfl hsrc HBD.out ?_
        intro a9 n9 c9 w9 D9 hown9 hu9
        have h9 := (HBK.out w9 D9 (.slice a9 n9 c9) ((xs ++ [z]).map iv) (by rw [List.map_append]; exact hown9) ((ha1.mono (by simp) (fun b hb => .inr hb) : Upd w7 _ D D).trans hu9)).permR (List.perm_middle (l₁ := [_, _])).symm
        have k9 := cell_of h9.cellR 1 rfl
        rw [show (#[Value.slice asl shards.length csl, .slice al nl cl, .int .i64 0, .slice none 0 0] : Array Value)[1] = .slice al nl cl from rfl] at k9
        have y9 := frz_of h9.cellR 1
        have H10 := Lib.hid (h9.setR 1 (.slice a9 n9 c9))
        clear hown9 hu9 hownA hsrc ha1 h9 k7 k8 HO HBK
        go_wp2_with fail
        refine hK _ _ k9 ?_
        clear hK
        refine wpAnyM_of_any _ _ _ _ (by decide) ?_
        refine wpAny_list [9, 10, 11] (fuel := 0) (by kernel_rfl) ?_
        simp only [List.filterMap_cons, List.filterMap_nil, List.getElem?_toArray, List.getElem?_cons_succ, List.getElem?_cons_zero]
        go_wp2_with fail
        go_roundg (shards.length - (i + 1))
        case rel =>
          refine ⟨i + 1, .slice a9 n9 c9, by omega, rfl, by go_num, ?_⟩
          rw [HSN.out.1]
          exact H10.out
        case measure => omega
      obtain rfl : i = shards.length := by omega
      have hvl := cntN_len 2 shards.length ds
      have HG2 := HG.out
      obtain ⟨q, hq⟩ : ∃ q, cntN 2 shards.length ds = q := ⟨_, rfl⟩
      rw [hq] at hvl hC
      simp only [hq] at HG2
      obtain ⟨votes, dv⟩ := q
      dsimp only at hvl hC HG2
      have HG := Lib.hid HG2
      have hC := hC.permR (List.perm_middle (l₁ := [_, _, _]))
      have hct := hC.rdCount 2 (by decide)
      have HG2 := HG.out
      obtain ⟨q2, hq2⟩ : ∃ q, cntR 2 dv = q := ⟨_, rfl⟩
      rw [hq2] at hct
      simp only [hq2] at HG2
      obtain ⟨dc, d2⟩ := q2
      dsimp only at hct HG2
      have HG := Lib.hid HG2
      have HCT := Lib.hid hct
      have HVL := Lib.hid hvl
      clear hq hq2 HG2 hct hC hvl
      go_wp2_with fail
      refine HCT.out.mono ?_
      rintro e w7 ⟨rfl, h7⟩
      have h7 := h7.permR (List.perm_middle (l₁ := [])).symm
      have h8 := h7.permR (List.Perm.swap _ _ _)
      have k7 := cell_of h8.cellR 2 rfl
      have y7 := frz_of h8.cellR 2
      have h9 := (h8.setR 2 (.int .i64 dc)).permR (List.Perm.swap _ _ _)
      have H9 := Lib.hid h9
      clear h7 h8 h9 HCT
      go_wp2_with fail
      refine H9.out.rdRead.mono ?_
      rintro e w10 ⟨vo, rfl, h10⟩
      have HG2 := HG.out
      have hol := readR_len d2
      obtain ⟨q3, hq3⟩ : ∃ q, readR d2 = q := ⟨_, rfl⟩
      rw [hq3] at h10 hol
      simp only [hq3] at HG2
      obtain ⟨owes, d4⟩ := q3
      dsimp only at h10 HG2 hol
      have HG := Lib.hid HG2
      have h11 : Co w0 w10 c S (ThCell p (.cells #[.slice asl shards.length csl, vv, .int .i64 dc, .slice none 0 0] 69 (0, 0)) :: ThRow 1 (.slice asl shards.length csl) (shards.map iv) :: ThRow 1 vv (votes.map iv) :: ThRow 1 vo (owes.map iv) :: ThRdr r d4 :: R) rows :=
        h10.permR (by
          refine (List.perm_append_comm_assoc [ThRow 1 vo (owes.map iv), ThRdr r d4] [_, _, _] R).trans ?_
          exact List.Perm.refl _)
      have y11 := frz_of h11.cellR 3
      have k11 := cell_of h11.cellR 3 rfl
      have h12 : Co w0 _ c S (ThCell p (.cells #[.slice asl shards.length csl, vv, .int .i64 dc, vo] 69 (0, 0)) :: ThRow 1 (.slice asl shards.length csl) (shards.map iv) :: ThRow 1 vv (votes.map iv) :: ThRow 1 vo (owes.map iv) :: ThRdr r d4 :: R) rows := h11.setR 3 vo
      have H12 := Lib.hid h12
      obtain ⟨Do, ho⟩ := h11.ownR (A := [_, _, _, ThRow 1 vo (owes.map iv)]) (R := ThRdr r d4 :: R) (v := vo) (xs := owes.map iv) (by simp)
      have HOL := Lib.hid hol
      obtain ⟨ao, no, co, hvo, -⟩ := OwnRow.len ho
      subst hvo
      clear h10 h11 HG2 h12 hq3 H9 y7 k7 ho
      go_wp2_with fail
      obtain ⟨w13, hw13⟩ : ∃ x, x = w10.setCell ⟨p, 3, none⟩ (.slice ao no co) := ⟨_, rfl⟩
      rw [← hw13] at H12 ⊢
      clear hw13 y11 k11
      have HBD := Lib.hid (H12.out.permR (List.perm_middle (l₁ := [_, _, _, _]))).rdBad
      refine HBD.out.mono ?_
      rintro e w14 ⟨rfl, hW⟩
      subst w14
      have hgd : ∃ Es Ev Eo, ReadRow w13 1 (.slice asl shards.length csl) (shards.map iv) Es ∧ ReadRow w13 1 vv (votes.map iv) Ev ∧ ReadRow w13 1 (.slice ao no co) (owes.map iv) Eo := by
        obtain ⟨D1, o1⟩ := H12.out.ownR (A := [_, ThRow 1 (.slice asl shards.length csl) (shards.map iv), ThRow 1 vv (votes.map iv), ThRow 1 (.slice ao no co) (owes.map iv)]) (R := ThRdr r d4 :: R) (v := .slice asl shards.length csl) (xs := shards.map iv) (by simp)
        obtain ⟨D2, o2⟩ := H12.out.ownR (A := [_, ThRow 1 (.slice asl shards.length csl) (shards.map iv), ThRow 1 vv (votes.map iv), ThRow 1 (.slice ao no co) (owes.map iv)]) (R := ThRdr r d4 :: R) (v := vv) (xs := votes.map iv) (by simp)
        obtain ⟨D3, o3⟩ := H12.out.ownR (A := [_, ThRow 1 (.slice asl shards.length csl) (shards.map iv), ThRow 1 vv (votes.map iv), ThRow 1 (.slice ao no co) (owes.map iv)]) (R := ThRdr r d4 :: R) (v := .slice ao no co) (xs := owes.map iv) (by simp)
        obtain ⟨E1, r1, -⟩ := o1.read
        obtain ⟨E2, r2, -⟩ := o2.read
        obtain ⟨E3, r3, -⟩ := o3.read
        exact ⟨E1, E2, E3, r1, r2, r3⟩
      obtain ⟨Es, Ev, Eo, r1, r2, r3⟩ := hgd
      have HGO := Lib.hid (good_any w13 p ⟨shards, votes, dc, owes⟩ _ _ _ Es Ev Eo (0, 0) H12.out.cellR r1 r2 r3)
      have k12 := (H12.out.len)
      clear r1 r2 r3 HBD hol
      cases hd4 : d4.2 with
      | true =>
        clear k12
        have HD4 := Lib.hid hd4
        clear hd4
        go_wp2_with fail
        go_ret2
        rw [HGS.out, HG.out.1, if_pos (.inl HD4.out)]
        exact ⟨rfl, Sep.dropL [_, _, _, _, _] H12.out.out⟩
      | false =>
      have HD4 := Lib.hid hd4
      clear hd4
      by_cases hle : id ≤ last
      · clear k12
        go_wp2_with fail
        go_ret2
        rw [HGS.out, HG.out.1, if_pos (.inr (.inl hle))]
        exact ⟨rfl, Sep.dropL [_, _, _, _, _] H12.out.out⟩
      obtain ⟨gb, hgb⟩ : ∃ gb, goodS ⟨shards, votes, dc, owes⟩ = gb := ⟨_, rfl⟩
      rw [hgb] at HGO
      have HGB := Lib.hid hgb
      clear hgb k12
      go_wp2_with fail
      refine HGO.out.mono ?_
      rintro e w15 ⟨rfl, hu15⟩
      have H15 := Lib.hid (H12.out.keep hu15)
      clear hu15 H12 HGO
      cases gb with
      | false =>
        go_wp2_with fail
        go_ret2
        rw [HGS.out, HG.out.1, if_pos (.inr (.inr HGB.out))]
        exact ⟨rfl, Sep.dropL [_, _, _, _, _] H15.out.out⟩
      | true =>
      have hno : lookS id S = none := by
        cases hl : lookS id S with
        | none => rfl
        | some x =>
          have := HG.out.2.1 _ (look_mem hl)
          simp only at this
          omega
      obtain ⟨m, w16, km, hrun, -, h16⟩ := H15.out.begun (x := ⟨shards, votes, dc, owes⟩) hno ⟨HVL.out, hsl, HOL.out⟩ (by omega) HG.out.2.2.2
      have H16 := Lib.hid h16
      clear h16 hno H15
      go_wp2_with fail
      go_roundg (N - (j + 1))
      case rel =>
        refine ⟨j + 1, _, id, d4, by omega, rfl, by go_num, rfl, H16.out, ?_, ?_, by omega⟩
        · rw [HG.out.1, if_neg (by rw [HD4.out, HGB.out]; simp; omega)]
        · intro e he
          rcases List.mem_append.1 he with he | he
          · have := HG.out.2.1 e he; omega
          · rw [List.mem_singleton.1 he]; exact Int.le_refl _
      case measure => omega
end
end Go.Proofs.Ytebmmbommkpjaaa
