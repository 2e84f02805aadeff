/-
  Decisions in bytes: Put.
-/
import Derived.Test.YtebmmbommkpjaaaCoordN
namespace Go.Proofs.Ytebmmbommkpjaaa
open Go.RowKit Go.Av

theorem entB_len (id : Int) (x : EntS) (h : x.wf) : (entB id x).length ≤ 128 := by
  obtain ⟨h1, h2, h3⟩ := h
  unfold entB numsS
  simp only [List.length_append, packI_len, flat_len]
  omega
section
variable {w0 w : World} {c m : Nat} {S : CoS} {l1 l2 : List EntG} {g : EntG} {R : List Thing} {T : Thing} {rows : List (Value × Bs)}
theorem Co.wf (h : Co w0 w c S R rows) : ∀ e ∈ S, okE e := by
  obtain ⟨m, gs, h1, h2, hS⟩ := h
  exact h2
theorem entK_len (h : ∀ e ∈ S, okE e) (ks : List Int) : (ks.flatMap (entK S)).length ≤ 128 * ks.length := by
  induction ks with
  | nil => simp
  | cons k ks ih =>
    have : (entK S k).length ≤ 128 := by
      unfold entK
      cases hl : lookS k S with
      | none => simp
      | some x => exact entB_len _ _ (h _ (look_mem hl)).1
    rw [List.flatMap_cons, List.length_append, List.length_cons]
    omega
theorem Co.len (h : Co w0 w c S R rows) : ∃ m, w.cell? ⟨c, 0, none⟩ = some (.map (some m)) ∧ ∀ ty, (Builtin.len_ #[62] ty #[.map (some m)]).run Try.prog w = .ok (.int .i64 S.length) w := by
  obtain ⟨m, gs, rfl, hwf, hS⟩ := h
  have hc := hS.block (b := c) (o := .cells #[.map (some m)] 64 (0, 0)) (by simp [coHead])
  obtain ⟨E, hM, -⟩ := hS.has (T := ThMap (.int .i64) m (gs.map EntG.kv)) (by simp [coHead])
  refine ⟨m, cell_of hc 0 rfl, fun ty => ?_⟩
  have := mp_len (P := Try.prog) hM Try.underlying62 ty
  simpa using this
theorem Co.nilR (h : Co w0 w c S R rows) : Co w0 w c S (ThRow 1 (.slice none 0 0) (([] : Bs).map bv) :: R) rows := h.addR (D' := []) (Upd.refl w []) (OwnRow.nil _ _)

theorem CoF.drew (h : CoF w0 w c m l1 g l2 R rows) : CoF w0 w.drew c m l1 g l2 R rows := ⟨h.1, h.2.drew⟩
theorem flat_step (S : CoS) (ks : List Int) (p : Nat) (hp : p < ks.length) (b : Bs) : b ++ (ks.take (p + 1)).flatMap (entK S) = (b ++ (ks.take p).flatMap (entK S)) ++ entK S ks[p] := by
  rw [List.take_succ_eq_append_getElem hp, List.flatMap_append]
  simp
theorem votes_step (l : List Int) (p : Nat) (hp : p < l.length) (b : Bs) : (b ++ (l.take p).flatMap packI) ++ packI l[p] = b ++ (l.take (p + 1)).flatMap packI := by
  rw [List.take_succ_eq_append_getElem hp, List.flatMap_append]
  simp

set_option maxRecDepth 100000 in
set_option maxHeartbeats 4000000 in
theorem put_any (h : Co w0 w c S R rows) (hn : S.length ≤ 1000) :
    Calls Try.prog 26 #[.pointer (some ⟨c, 0, none⟩)] w fun e w' => ∃ v, e = .returned v ∧ Co w0 w' c S (ThRow 1 v ((bytesS S).map bv) :: R) rows := by
  obtain ⟨m, hc, hln⟩ := h.len
  have hwf := h.wf
  have hkl : (keysS S).length = S.length := keys_len S
  have HP := Lib.hid (h.nilR.packC S.length (by simp))
  have HW := Lib.hid hwf
  clear h hwf
  go_enter Try.func26, Try.ntmps26
  go_wp2_with fail
  refine HP.out.mono ?_
  rintro e w1 ⟨v1, rfl, h1⟩
  rw [List.nil_append] at h1
  clear hc hln
  obtain ⟨m, hc, hK, hSo⟩ := co_keys h1 (by omega)
  have HK := Lib.hid hK
  have HS := Lib.hid hSo
  clear h1 hK hSo HP
  go_wp2_with fail
  refine HK.out.mono ?_
  rintro e w1 ⟨rfl, rfl⟩
  go_wp2_with fail
  refine HS.out.mono ?_
  rintro e w2 ⟨v, rfl, h⟩
  obtain ⟨D, ho, -⟩ := h.row
  obtain ⟨ak, nk, ck, rfl, hlk, hnk, hck, -⟩ := _root_.id ho
  rw [List.length_map, Nat.mul_one] at hlk
  subst hlk
  unfold maxLen at hck
  have HC := Lib.hid (h.permR (List.Perm.swap _ _ _))
  clear h ho HK HS hc
  go_wp2_with fail
  go_loopg [3, 22] (keysS S).length (fun k vb vi wr => ∃ p : Nat, p ≤ (keysS S).length ∧ k = (keysS S).length - p ∧ vi = .int .i64 (p : Int) ∧ Co w0 wr c S (ThRow 1 vb ((packI S.length ++ ((keysS S).take p).flatMap (entK S)).map bv) :: ThRow 1 (.slice ak (keysS S).length ck) ((keysS S).map iv) :: R) rows)
  case atStart => exact ⟨0, Nat.zero_le _, rfl, rfl, by simpa using HC.out⟩
  case round =>
    obtain ⟨p, hp, hk, hv, hC⟩ := hrel
    subst hv
    clear HC
    by_cases hlt : p < (keysS S).length
    case neg =>
      obtain rfl : p = (keysS S).length := by omega
      rw [List.take_length] at hC
      have HC2 := Lib.hid hC
      clear hC
      go_wp2_with fail
      go_ret
      exact ⟨_, rfl, (HC2.out.permR (List.Perm.swap _ _ _)).dropR⟩
    have hkp : (keysS S)[p] ∈ keysS S := List.getElem_mem hlt
    obtain ⟨x, hx⟩ := keys_look hkp
    obtain ⟨D2, ho2, -⟩ := (hC.permR (List.Perm.swap _ _ _)).row
    obtain ⟨y, rfl, hys, hcy⟩ := ownCell ho2 (i := p) (x := iv (keysS S)[p]) (by rw [List.getElem?_map, List.getElem?_eq_getElem hlt]; rfl)
    obtain ⟨m2, l1, g, l2, hgid, hgx, hF, -, hSS⟩ := hC.take hx
    have hfl := flat_step S (keysS S) p hlt (packI S.length)
    have hbd : ((packI S.length ++ ((keysS S).take p).flatMap (entK S))).length ≤ 130000 := by
      have := entK_len HW.out ((keysS S).take p)
      rw [List.length_append, packI_len]
      rw [List.length_take] at this
      omega
    obtain ⟨idv, hidv⟩ : ∃ idv, (keysS S)[p] = idv := ⟨_, rfl⟩
    rw [hidv] at hcy hx hgid hfl
    unfold iv at hcy
    have hK : entK S idv = entB idv g.x := by unfold entK; rw [hx, hgx]
    rw [hK] at hfl
    obtain ⟨pre, hpre⟩ : ∃ pre, packI S.length ++ ((keysS S).take p).flatMap (entK S) = pre := ⟨_, rfl⟩
    rw [hpre] at hF hfl hbd
    have HFL := Lib.hid (show _ ∧ _ ∧ _ from ⟨hfl, hbd, hSS⟩)
    obtain ⟨hc2, hlk2, hp2⟩ := hF.facts
    rw [hgid] at hlk2
    have hlk3 := hlk2 wr rfl
    have c0 := cell_of hp2 0 rfl
    obtain ⟨s, hs⟩ : ∃ s, s = g.vs := ⟨_, rfl⟩
    rw [show (#[g.vs, g.vv, Value.int .i64 g.x.dec, g.vo] : Array Value)[0] = s from hs.symm] at c0
    have HG := Lib.hid (show _ ∧ _ from ⟨hgid, hs⟩)
    have HF := Lib.hid hF
    clear hkp hx ho2 hidv hK hfl hpre hSS hF hp2 hC hbd hs hgx hgid hlk2
    go_wp2_with fail
    refine wp_region_M (fun W => W.cell? ⟨g.p, 0, none⟩ = some s) 8 (by kernel_rfl) ?_
    refine wpAnyM_take (by kernel_rfl) (by intro c a d v w h; cases d <;> exact h) [(0, false), (1, false), (3, false), (4, false), (5, false), (6, true)] (fuel := 3) (by kernel_rfl) ?_
    apply Exists.intro; refine ⟨?_, c0, ?_⟩
    · iterate 6 ((first | (apply yieldN; (· (simp only [List.getElem?_toArray, List.getElem?_cons_succ, List.getElem?_cons_zero]; try rfl)); (· rfl)) | ((first | apply yieldP | apply yieldL); (· (simp only [List.getElem?_toArray, List.getElem?_cons_succ, List.getElem?_cons_zero]; try rfl)); (· rfl); (· (intros; go_simp; try with_reducible rfl)))); (· (simp only [Act.put, List.setIfInBounds_toArray, List.set_cons_zero, List.set_cons_succ]; try rfl)))
      exact rfl
    refine wpAnyM_one (fuel := 2) (i := 2) (by kernel_rfl) (by rfl) (fun K hK => ?_)    -- CALL
    go_wp2_with fail
    refine (HF.out.drew.packC idv (by have := HFL.out.2.1; omega)).mono ?_
    rintro e w3 ⟨v3, rfl, h3⟩
    have k3 := (cell_of h3.facts.2.2 0 rfl).trans (congrArg some HG.out.2.symm)
    have HF3 := Lib.hid h3
    clear h3 c0 HF hlk3 hc2
    go_wp2_with fail
    refine hK _ _ k3 ?_
    clear hK
    refine wpAnyM_one (fuel := 1) (i := 7) (by kernel_rfl) (by rfl) (fun K hK => ?_)    -- CALL
    go_wp2_with fail
    refine (HF3.out.numsC (u := s) (xs := g.x.shards) (by rw [HG.out.2]; simp [EntG.th]) (by have := HFL.out.2.1; rw [List.length_append, packI_len]; omega) (by have := HF3.out.wf.2.1; omega)).mono ?_
    rintro e w4 ⟨v4, rfl, h4⟩
    have k4 := (cell_of h4.facts.2.2 0 rfl).trans (congrArg some HG.out.2.symm)
    have c1 := cell_of h4.facts.2.2 1 rfl
    obtain ⟨av, nv, cv, hvv, hlv, hnv, hmv, -⟩ := h4.row (v := g.vv) (xs := g.x.votes.map iv) (by simp [EntG.th])
    rw [show (#[g.vs, g.vv, Value.int .i64 g.x.dec, g.vo] : Array Value)[1] = .slice av nv cv from hvv] at c1
    rw [List.length_map] at hlv
    subst hlv
    unfold maxLen at hmv
    have HF4 := Lib.hid h4
    have HVV := Lib.hid hvv
    clear h4 k3 HF3 hvv
    go_wp2_with fail
    refine hK _ _ k4 ?_
    clear hK
    refine wpAnyM_of_any _ _ _ _ (by decide) ?_
    refine wpAny_list [8] (fuel := 0) (by kernel_rfl) ?_
    simp only [List.filterMap_cons, List.filterMap_nil, List.getElem?_toArray, List.getElem?_cons_succ, List.getElem?_cons_zero]
    go_wp2_with fail
    obtain ⟨pre2, hpre2⟩ : ∃ z, z = pre ++ packI idv ++ numsS g.x.shards := ⟨_, rfl⟩
    rw [← hpre2] at HF4
    have HP2 := Lib.hid hpre2
    clear hpre2 c1 k4
    go_loopg [3, 45] g.x.votes.length (fun k vb vi wr => ∃ p : Nat, p ≤ g.x.votes.length ∧ k = g.x.votes.length - p ∧ vi = .int .i64 (p : Int) ∧ CoF w0 wr c m2 l1 g l2 (ThRow 1 vb ((pre2 ++ (g.x.votes.take p).flatMap packI).map bv) :: ThRow 1 (.slice (some y) (keysS S).length ck) ((keysS S).map iv) :: R) rows)
    case atStart => exact ⟨0, Nat.zero_le _, rfl, rfl, by simpa using HF4.out⟩
    case round =>
      clear HF4
      obtain ⟨j, hj, hk2, hv2, hC2⟩ := hrel
      subst hv2
      by_cases hlt2 : j < g.x.votes.length
      case pos =>
        obtain ⟨a', n', c', hv', -, -, -, hcl⟩ := hC2.row (v := g.vv) (xs := g.x.votes.map iv) (by simp [EntG.th])
        have hv' := HVV.out.symm.trans hv'
        cases hv'
        obtain ⟨y2, rfl, hys2, hcy2⟩ := hcl (i := j) (x := iv g.x.votes[j]) (by rw [List.getElem?_map, List.getElem?_eq_getElem hlt2]; rfl)
        have hst := votes_step g.x.votes j hlt2 pre2
        obtain ⟨z, hz⟩ : ∃ z, g.x.votes[j] = z := ⟨_, rfl⟩
        rw [hz] at hcy2 hst
        unfold iv at hcy2
        have hvl : g.x.votes.length ≤ 4 := by have := hC2.wf; have h1 := this.1; have h2 := this.2.1; omega
        have hpk := hC2.packC z (by
          have h1 := HFL.out.2.1
          have h2 := congrArg List.length HP2.out
          have h3 : g.x.shards.length ≤ 4 := hC2.wf.2.1
          unfold numsS at h2
          simp only [List.length_append, packI_len, flat_len, List.length_take] at h2 ⊢
          omega)
        rw [hst] at hpk
        have HPK := Lib.hid hpk
        clear hst hz hC2 hpk hcl
        go_wp2_with fail
        refine HPK.out.mono ?_
        rintro e w5 ⟨v5, rfl, h5⟩
        have HF5 := Lib.hid h5
        clear h5 HPK
        go_wp2_with fail
        go_roundg (g.x.votes.length - (j + 1))
        case rel => exact ⟨j + 1, by omega, rfl, by go_num, HF5.out⟩
        case measure => omega
      obtain rfl : j = g.x.votes.length := by omega
      rw [List.take_length] at hC2
      have c2 := cell_of hC2.facts.2.2 2 rfl
      have c3 := cell_of hC2.facts.2.2 3 rfl
      obtain ⟨dc, hdc⟩ : ∃ dc, dc = g.x.dec := ⟨_, rfl⟩
      obtain ⟨o, ho⟩ : ∃ o, o = g.vo := ⟨_, rfl⟩
      rw [show (#[g.vs, g.vv, Value.int .i64 g.x.dec, g.vo] : Array Value)[2] = .int .i64 dc by rw [hdc]; rfl] at c2
      rw [show (#[g.vs, g.vv, Value.int .i64 g.x.dec, g.vo] : Array Value)[3] = o from ho.symm] at c3
      have HF6 := Lib.hid hC2
      have HD := Lib.hid (show _ ∧ _ from ⟨hdc, ho⟩)
      clear hC2 hdc ho
      go_wp2_with fail
      refine wp_region_M (fun W => W.cell? ⟨g.p, 2, none⟩ = some (.int .i64 dc) ∧ W.cell? ⟨g.p, 3, none⟩ = some o) 11 (by kernel_rfl) ?_
      refine wpAnyM_take (by kernel_rfl) (by intro c a d v w h; cases d <;> exact h) [(0, false), (1, false), (2, false), (3, false), (4, true), (6, false), (7, false), (8, false), (9, true)] (fuel := 3) (by kernel_rfl) ?_
      apply Exists.intro; refine ⟨?_, ⟨c2, c3⟩, ?_⟩
      · iterate 9 ((first | (apply yieldN; (· (simp only [List.getElem?_toArray, List.getElem?_cons_succ, List.getElem?_cons_zero]; try rfl)); (· rfl)) | ((first | apply yieldP | apply yieldL); (· (simp only [List.getElem?_toArray, List.getElem?_cons_succ, List.getElem?_cons_zero]; try rfl)); (· rfl); (· (intros; go_simp; try with_reducible rfl)))); (· (simp only [Act.put, List.setIfInBounds_toArray, List.set_cons_zero, List.set_cons_succ]; try rfl)))
        exact rfl
      refine wpAnyM_one (fuel := 2) (i := 5) (by kernel_rfl) (by rfl) (fun K hK => ?_)    -- CALL
      go_wp2_with fail
      have hb2 : (pre2 ++ g.x.votes.flatMap packI).length ≤ 140000 := by
        have h1 := HFL.out.2.1
        have h2 := congrArg List.length HP2.out
        have h3 : g.x.shards.length ≤ 4 := HF6.out.wf.2.1
        have h4 := HF6.out.wf.1
        unfold numsS at h2
        simp only [List.length_append, packI_len, flat_len] at h2 ⊢
        omega
      have HB2 := Lib.hid hb2
      clear hb2
      refine (HF6.out.drew.packC dc (by have := HB2.out; omega)).mono ?_
      rintro e w7 ⟨v7, rfl, h7⟩
      have k7 : w7.cell? ⟨g.p, 2, none⟩ = some (.int .i64 dc) ∧ w7.cell? ⟨g.p, 3, none⟩ = some o :=
        ⟨(cell_of h7.facts.2.2 2 rfl).trans (by rw [HD.out.1]; rfl), (cell_of h7.facts.2.2 3 rfl).trans (congrArg some HD.out.2.symm)⟩
      have HF7 := Lib.hid h7
      clear h7 c2 c3 HF6
      go_wp2_with fail
      refine hK _ _ k7 ?_
      clear hK
      refine wpAnyM_one (fuel := 1) (i := 10) (by kernel_rfl) (by rfl) (fun K hK => ?_)    -- CALL
      go_wp2_with fail
      refine (HF7.out.numsC (u := o) (xs := g.x.owes) (by rw [HD.out.2]; simp [EntG.th]) (by have := HB2.out; rw [List.length_append, packI_len]; omega) (by have := HF7.out.wf.2.2; omega)).mono ?_
      rintro e w8 ⟨v8, rfl, h8⟩
      have k8 : w8.cell? ⟨g.p, 2, none⟩ = some (.int .i64 dc) ∧ w8.cell? ⟨g.p, 3, none⟩ = some o :=
        ⟨(cell_of h8.facts.2.2 2 rfl).trans (by rw [HD.out.1]; rfl), (cell_of h8.facts.2.2 3 rfl).trans (congrArg some HD.out.2.symm)⟩
      have HF8 := Lib.hid h8.back
      clear h8 k7 HF7
      go_wp2_with fail
      refine hK _ _ k8 ?_
      clear hK
      refine wpAnyM_of_any _ _ _ _ (by decide) ?_
      refine wpAny_list [11] (fuel := 0) (by kernel_rfl) ?_
      simp only [List.filterMap_cons, List.filterMap_nil, List.getElem?_toArray, List.getElem?_cons_succ, List.getElem?_cons_zero]
      go_wp2_with fail
      go_roundg ((keysS S).length - (p + 1))
      case rel =>
        refine ⟨p + 1, by omega, rfl, by go_num, ?_⟩
        have h8 := HF8.out
        rw [← HFL.out.2.2] at h8
        rw [HFL.out.1]
        have e : pre2 ++ g.x.votes.flatMap packI ++ packI dc ++ numsS g.x.owes = pre ++ entB idv g.x := by
          rw [HP2.out, HD.out.1]
          unfold entB
          simp only [List.append_assoc]
        rw [e] at h8
        exact h8
      case measure => omega
end
end Go.Proofs.Ytebmmbommkpjaaa
