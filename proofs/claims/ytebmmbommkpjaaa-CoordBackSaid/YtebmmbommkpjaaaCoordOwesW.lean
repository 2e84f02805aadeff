/-
  CoordOwes: once it is decided each shard owes till it has Done, then it is over.
-/
import Derived.Test.YtebmmbommkpjaaaCoordJ
namespace Go.Proofs.Ytebmmbommkpjaaa
open Go.RowKit Go.Av

theorem risF_gt : ∀ {l : List Int} {last : Int}, risF last l = true → ∀ y ∈ l, last < y
  | [], _, _, y, hy => by cases hy
  | x :: r, last, h, y, hy => by
    rw [risF_cons] at h
    simp only [Bool.and_eq_true, Bool.not_eq_true', Bool.or_eq_false_iff, decide_eq_false_iff_not] at h
    rcases List.mem_cons.1 hy with rfl | hy
    · omega
    · have := risF_gt h.2 y hy; omega
theorem idxF_get : ∀ {l : List Int} {last : Int}, risF last l = true → ∀ (k : Nat) (hk : k < l.length), idxF l[k] l = some k
  | [], _, _, k, hk => by cases hk
  | x :: r, last, h, 0, _ => by simp [idxF_cons]
  | x :: r, last, h, k + 1, hk => by
    rw [risF_cons] at h
    simp only [Bool.and_eq_true] at h
    have hkr : k < r.length := by simpa using hk
    have hgt := risF_gt h.2 r[k] (List.getElem_mem hkr)
    rw [List.getElem_cons_succ, idxF_cons, if_neg (by omega), idxF_get h.2 k hkr]
    rfl
theorem idxF_none {k : Int} : ∀ {l : List Int}, idxF k l = none → k ∉ l
  | [], _ => by simp
  | x :: r, h => by
    rw [idxF_cons] at h
    by_cases hx : x = k
    · rw [if_pos hx] at h; cases h
    · rw [if_neg hx, Option.map_eq_none_iff] at h
      have := idxF_none h
      simp only [List.mem_cons, not_or]
      exact ⟨fun e => hx e.symm, this⟩

def ownE (l : List Int) (cm : Bool) (k : Nat) : EntS :=
  if cm then { shards := l, votes := List.replicate k 1 ++ List.replicate (l.length - k) 0, dec := if k = l.length then 1 else 0, owes := l }
  else { shards := l, votes := if k = 0 then List.replicate l.length 0 else 2 :: List.replicate (l.length - 1) 0, dec := if k = 0 then 0 else 2, owes := l }
theorem look_one (id : Int) (x : EntS) : lookS id [(id, x)] = some x := look_mid (S1 := []) (S2 := []) (by simp)
theorem put_one (id : Int) (x : EntS) (φ : EntS → EntS) : putS id φ [(id, x)] = [(id, φ x)] := put_mid (S1 := []) (S2 := []) φ (by simp) (by simp)
theorem whole_rep (k m : Nat) : wholeS (List.replicate k 1 ++ List.replicate m 0) = decide (m = 0) := by
  unfold wholeS
  rw [List.all_append]
  cases m with
  | zero => simp
  | succ m => simp [List.replicate_succ]
theorem rep_set (k m : Nat) : (List.replicate k (1 : Int) ++ List.replicate (m + 1) 0).set k 1 = List.replicate (k + 1) 1 ++ List.replicate m 0 := by
  rw [List.set_append_right _ _ (by simp), List.length_replicate, Nat.sub_self, List.replicate_succ (n := m), List.set_cons_zero, List.replicate_succ' (n := k), List.append_assoc]
  rfl
theorem vote_own (l : List Int) (hr : risS l = true) (cm : Bool) (k : Nat) (hk : k < l.length) : voteS [(3, ownE l cm k)] 3 l[k] (cm || decide (0 < k)) = (0, [(3, ownE l cm (k + 1))]) := by
  unfold voteS
  rw [look_one]
  have hsh : (ownE l cm k).shards = l := by unfold ownE; cases cm <;> rfl
  simp only [hsh, idxF_get hr k hk, put_one, Prod.mk.injEq, true_and]
  congr 2
  unfold voteF
  cases cm with
  | true =>
    obtain ⟨m, hm⟩ : ∃ m, l.length - k = m + 1 := ⟨l.length - k - 1, by omega⟩
    have e1 : (ownE l true k).votes = List.replicate k 1 ++ List.replicate (m + 1) 0 := by simp [ownE, hm]
    have e2 : (ownE l true k).dec = 0 := by simp [ownE]; omega
    rw [if_neg (by rw [e1, e2]; simp [List.getD_eq_getElem?_getD, List.getElem?_append_right])]
    rw [e1]
    simp only [Bool.true_or, if_true, rep_set, whole_rep, decide_eq_true_eq]
    have h1 : l.length - (k + 1) = m := by omega
    simp only [ownE, if_true, h1]
    congr 1
    by_cases hm0 : m = 0
    · rw [if_pos hm0, if_pos (by omega)]
    · rw [if_neg hm0, if_neg (by omega)]
  | false =>
    by_cases hk0 : k = 0
    · subst hk0
      obtain ⟨m, hm⟩ : ∃ m, l.length = m + 1 := ⟨l.length - 1, by omega⟩
      rw [if_neg (by simp [ownE, List.getD_eq_getElem?_getD, hm])]
      simp [ownE, hm, List.replicate_succ]
    · rw [if_pos (.inr (by simp [ownE, hk0]))]
      simp [ownE, hk0]
theorem own_zero (l : List Int) (cm : Bool) (h : l.length ≠ 0) : ownE l cm 0 = newE l := by
  unfold ownE newE
  cases cm <;> simp
  exact fun e => h (by rw [e])

def owesE (x : EntS) (o : List Int) : EntS := { x with owes := o }
theorem done_own (x : EntS) (o : List Int) (d : Int) (hd : x.dec ≠ 0) (ho : ∀ z ∈ o, z ∈ x.shards) : (doneS [(3, owesE x o)] 3 d).2 = [(3, owesE x (o.filter fun y => !decide (y = d)))] := by
  unfold doneS
  rw [look_one]
  dsimp only
  cases hi : idxF d (owesE x o).shards with
  | none =>
    have hn := idxF_none hi
    have : o.filter (fun y => !decide (y = d)) = o := List.filter_eq_self.2 fun y hy => by
      have h1 : y ≠ d := fun e => hn (by rw [← e]; exact ho y hy)
      simp [h1]
    rw [this]
  | some i =>
    dsimp only
    rw [if_neg (show ¬ (owesE x o).dec = 0 from hd), put_one]
    rfl
theorem open_own (x : EntS) (o : List Int) (hd : x.dec ≠ 0) : openSt [(3, owesE x o)] = if o.length = 0 then [] else [3] := by
  have hk : keysS [((3 : Int), owesE x o)] = [3] := by simp [keysS]
  unfold openSt
  rw [hk]
  have hf : openF [(3, owesE x o)] 3 = decide (0 < (o.length : Int)) := by
    unfold openF
    rw [look_one]
    simp [owesE, hd]
  rw [List.filter_cons, hf, List.filter_nil]
  by_cases h0 : o.length = 0
  · rw [if_pos h0, if_neg (by rw [h0]; simp)]
  · rw [if_neg h0, if_pos (decide_eq_true (by omega))]

/-- What the walk is told of a slice of numbers. -/
def IsInts (w : World) (a : Option Addr) (len cap : Nat) (zs : List Int) : Prop :=
  (a = none ∧ len = 0 ∧ cap = 0 ∧ zs = []) ∨
  ∃ x, a = some x ∧ len ≤ cap ∧ cap ≤ maxLen ∧ zs.length = cap ∧ (∀ i, i < zs.length → w.cell? (x.add i) = some (.int .i64 (zs.getD i 0))) ∧ ∀ n ∈ zs, (Lit.int .i64 n).wf = true
theorem IsInts.read {w : World} {a : Option Addr} {len cap : Nat} {zs : List Int} (h : IsInts w a len cap zs) : ∃ (l : List Int) (E : List Nat), l.length = len ∧ ReadRow w 1 (.slice a len cap) (l.map iv) E := by
  rcases h with ⟨rfl, rfl, rfl, rfl⟩ | ⟨x, rfl, h1, h2, h3, h4, h5⟩
  · exact ⟨[], [], rfl, none, 0, 0, rfl, rfl, Nat.le_refl _, by decide, fun _ => rfl, .inl ⟨rfl, rfl⟩⟩
  · refine ⟨zs.take len, if len = 0 then [] else [x.block], by simp; omega, some x, len, cap, rfl, by simp; omega, h1, h2, by simp, ?_⟩
    by_cases h0 : len = 0
    · subst h0; exact .inl ⟨by simp, by simp⟩
    · refine .inr ?_
      have hc0 := h4 0 (by omega)
      have hsp : x.spot = none := by
        cases hs : x.spot with
        | none => rfl
        | some _ =>
          have : x.add 0 = x := by simp [Addr.add]
          rw [this] at hc0
          unfold World.cell? at hc0
          split at hc0 <;> simp [hs] at hc0
      obtain ⟨b, o, sp⟩ := x
      simp only at hsp
      subst hsp
      refine ⟨b, o, rfl, by simp [h0], ?_, fun i u hu => ?_⟩
      · have := World.block_lt_of_cell? w _ hc0
        simpa [Addr.add_lit] using this
      · rw [List.getElem?_map, List.getElem?_take] at hu
        split at hu
        · rename_i hi
          cases hz : zs[i]? with
          | none => rw [hz] at hu; cases hu
          | some z =>
            rw [hz] at hu
            cases hu
            have := h4 i (by omega)
            rw [Addr.add_lit] at this
            rw [this, List.getD_eq_getElem?_getD, hz]
            rfl
        · cases hu

set_option maxRecDepth 100000 in
set_option maxHeartbeats 4000000 in
theorem coordOwes_walk (a : Option Addr) (len cap : Nat) (z : List Int) (a1 : Option Addr) (len1 cap1 : Nat) (z1 : List Int) (cm : Bool) (w : World) (h : IsInts w a len cap z) (h1 : IsInts w a1 len1 cap1 z1) :
    Calls Try.prog 3 #[.slice a len cap, .slice a1 len1 cap1, .bool cm] w fun e w' => e = .returned (.bool true) ∧ Below w.heap.size w w' := by
  obtain ⟨i0, hi0, hz0, hz1, hz2⟩ := info_parts infoI
  obtain ⟨l, El, hl, hrl⟩ := h.read
  obtain ⟨dn, Ed, hd, hrd⟩ := h1.read
  subst hl; subst hd
  obtain ⟨hnl, hncl, hcml, hcl⟩ := row_cell hrl
  obtain ⟨hnd, hncd, hcmd, hcd⟩ := row_cell hrd
  unfold maxLen at hcml hcmd
  have HRL := Lib.hid hrl
  have HCL := Lib.hid hcl
  have HCD := Lib.hid hcd
  clear h h1 hrl hrd hcl hcd hnl hnd
  by_cases hok1 : 4 < l.length
  · go_enter Try.func3, Try.ntmps3
    go_wp2_with fail
    refine (awake20_any _).mono ?_
    rintro e w1 ⟨rfl, hu1⟩
    go_wp2_with fail
    go_ret
    exact ⟨rfl, hu1.below⟩
  by_cases hok2 : 12 < dn.length
  · go_enter Try.func3, Try.ntmps3
    go_wp2_with fail
    refine (awake20_any _).mono ?_
    rintro e w1 ⟨rfl, hu1⟩
    go_wp2_with fail
    go_ret
    exact ⟨rfl, hu1.below⟩
  go_enter Try.func3, Try.ntmps3
  go_wp2_with fail
  refine (awake20_any _).mono ?_
  rintro e w1 ⟨rfl, hu1⟩
  go_wp2_with fail
  refine (new_coord ((Sep.start w).keep hu1)).mono ?_
  rintro e w2 ⟨c, rfl, H⟩
  have hb2 := H.below
  have hb := begin_any H 3 _ l El (by decide) (HRL.out.frame (fun b hb => hb2.block b (HRL.out.lt b hb)))
  obtain ⟨r, hr⟩ : ∃ r, beginS [] 3 l = r := ⟨_, rfl⟩
  rw [hr] at hb
  have HB := Lib.hid hb
  have HRB := Lib.hid hr
  clear H hb hb2 hr hu1
  go_wp2_with fail
  refine HB.out.mono ?_
  rintro e w3 ⟨rfl, H⟩
  by_cases hr0 : r.1 = 0
  case neg =>
    have hb : (r.1 != 0) = true := by simp [hr0]
    have HBB := Lib.hid H.below
    clear H hr0
    go_wp2_with fail
    go_ret
    exact ⟨rfl, HBB.out⟩
  have hb : (r.1 != 0) = false := by simp [hr0]
  have hbg : l.length ≠ 0 ∧ risS l = true ∧ r.2 = [(3, newE l)] := by
    have h1 := HRB.out
    unfold beginS at h1
    by_cases hc : (3 : Int) < 1 ∨ l.length = 0 ∨ risS l = false
    · rw [if_pos hc] at h1; rw [← h1] at hr0; cases hr0
    · rw [if_neg hc] at h1
      refine ⟨fun e => hc (.inr (.inl e)), by simpa using fun e => hc (.inr (.inr e)), ?_⟩
      rw [← h1]; rfl
  obtain ⟨hl0, hris, hr2⟩ := hbg
  rw [hr2, ← own_zero l cm hl0] at H
  have HST := Lib.hid H
  have HRIS := Lib.hid hris
  clear H hr2 hris HRB HB
  go_wp2_with fail
  go_loopg [8] l.length (fun k v wr => ∃ p : Nat, p ≤ l.length ∧ k = l.length - p ∧ v = .int .i64 (p : Int) ∧ Co w wr c [(3, ownE l cm p)] [] [])
  case atStart => exact ⟨0, Nat.zero_le _, rfl, rfl, HST.out⟩
  case round =>
    obtain ⟨p, hp, hk, hv, H⟩ := hrel
    subst hv
    clear HST
    by_cases hlt : p < l.length
    · obtain ⟨x, rfl, hsx, hcx⟩ := HCL.out (by omega)
      have hcx := hcx p (iv l[p]) (by rw [List.getElem?_map, List.getElem?_eq_getElem hlt]; rfl)
      unfold iv at hcx
      have hblt : (x.add p).block < w.heap.size := World.block_lt_of_cell? w _ hcx
      have hcx2 : wr.cell? (x.add p) = some (.int .i64 l[p]) := (H.below.cell hblt).trans hcx
      have hvote := vote_any H 3 l[p] (cm || decide (0 < p))
      rw [vote_own l HRIS.out cm p hlt] at hvote
      obtain ⟨u, hu⟩ : ∃ u, l[p] = u := ⟨_, rfl⟩
      rw [hu] at hvote hcx2
      have HV := Lib.hid hvote
      clear H hvote hcx hu
      cases cm with
      | true =>
        simp only [Bool.true_or] at HV
        go_wp2_with fail
        refine HV.out.mono ?_
        rintro e w4 ⟨rfl, H⟩
        have HN := Lib.hid H
        clear H
        go_wp2_with fail
        go_roundg (l.length - (p + 1))
        case rel => exact ⟨p + 1, by omega, rfl, by go_num, HN.out⟩
        case measure => omega
      | false =>
        simp only [Bool.false_or] at HV
        go_wp2_with fail
        refine HV.out.mono ?_
        rintro e w4 ⟨rfl, H⟩
        have HN := Lib.hid H
        clear H
        go_wp2_with fail
        go_roundg (l.length - (p + 1))
        case rel => exact ⟨p + 1, by omega, rfl, by go_num, HN.out⟩
        case measure => omega
    · obtain rfl : p = l.length := by omega
      obtain ⟨y, hy⟩ : ∃ y, y = ownE l cm l.length := ⟨_, rfl⟩
      have hyd : y.dec ≠ 0 := by rw [hy]; cases cm <;> simp [ownE, hl0]
      have hys : y.shards = l := by rw [hy]; cases cm <;> rfl
      have hyo : owesE y l = y := by rw [hy]; cases cm <;> rfl
      have hdec : ∀ o, decS [(3, owesE y o)] 3 = (cm, true) := fun o => by
        unfold decS
        rw [look_one, hy]
        cases cm <;> simp [owesE, ownE, hl0]
      rw [← hy, ← hyo] at H
      have HY := Lib.hid (show _ ∧ _ ∧ _ from ⟨hyd, hys, hdec⟩)
      have HCO := Lib.hid H
      have hbl := H.below
      have hrl2 := HRL.out.frame (w' := wr) (fun b hb => hbl.block b (HRL.out.lt b hb))
      obtain ⟨nb, hnb, hsrc⟩ := (hrl2.frame ((Upd.alloc0 wr (.cells #[] 3) []).same hrl2.lt (by simp))).src (P := Try.prog) (tx := 22) Try.underlying22 iv_one
      obtain rfl : l.length = nb := by simpa using hnb
      have HBD := Lib.hid (show ∀ n, ([] : List Value).length = n * 1 → n + l.length ≤ 140737488355328 ∧ (n + l.length) * i0.bytes ≤ 140737488355328 from fun n hn => by simp at hn; rw [hz2]; omega)
      clear H hbl hrl2 hnb hy hyd hys hyo hdec
      go_wp2_with (at_builtin; go_must (refine wpList_app rfl _ _ 22 22 rfl 1 _ _ _ rfl (OwnRow.zero _ _ _) _ i0 _ Try.underlying22 hi0 hz0 hz1 rfl _ _ _ rfl hsrc HBD.out ?_); intro a5 n5 c5 w5 D5 hown5 hu5)
      have HO := Lib.hid (HCO.out.addR (T := ThRow 1 (.slice a5 n5 c5) (l.map iv)) ((Upd.alloc0 wr _ []).trans hu5) (show OwnRow w5 1 (.slice a5 n5 c5) (l.map iv) D5 from by simpa using hown5))
      clear hown5 hu5 hsrc HCO
      go_loopg [9, 10] dn.length (fun k vl v wr => ∃ (p : Nat) (o : List Int), p ≤ dn.length ∧ k = dn.length - p ∧ v = .int .i64 (p : Int) ∧ (∀ z ∈ o, z ∈ l) ∧ o.length ≤ 4 ∧ Co w wr c [(3, owesE y o)] [ThRow 1 vl (o.map iv)] [])
      case atStart => exact ⟨0, l, Nat.zero_le _, rfl, rfl, fun _ h => h, by omega, HO.out⟩
      case round =>
        obtain ⟨p, o, hp, hk, hv, hsub, ho4, H⟩ := hrel
        subst hv
        clear HO
        by_cases hlt : p < dn.length
        · obtain ⟨x, rfl, hsx, hcx⟩ := HCD.out (by omega)
          have hcx := hcx p (iv dn[p]) (by rw [List.getElem?_map, List.getElem?_eq_getElem hlt]; rfl)
          unfold iv at hcx
          have hblt : (x.add p).block < w.heap.size := World.block_lt_of_cell? w _ hcx
          obtain ⟨d, hdd⟩ : ∃ d, dn[p] = d := ⟨_, rfl⟩
          rw [hdd] at hcx
          have hcxW := fun (W : World) (S : CoS) (R : List Thing) (hW : Co w W c S R []) => (hW.below.cell hblt).trans hcx
          have hcx2 := hcxW _ _ _ H
          have HCX := Lib.hid hcxW
          have hdone := done_any H 3 d
          rw [done_own y o d HY.out.1 (by rw [HY.out.2.1]; exact hsub)] at hdone
          obtain ⟨o', ho'⟩ : ∃ o', o' = o.filter fun y => !decide (y = d) := ⟨_, rfl⟩
          rw [← ho'] at hdone
          have HD := Lib.hid hdone
          have HO' := Lib.hid (show _ ∧ _ from ⟨ho', hsub⟩)
          obtain ⟨Dl, hol, -⟩ := H.row
          obtain ⟨al, nl, cl, rfl, hll, hnl2, hcl2, -⟩ := _root_.id hol
          rw [List.length_map, Nat.mul_one] at hll
          subst hll
          unfold maxLen at hcl2
          clear H hdone hdd hcx hblt hcxW ho' hsub hol
          go_wp2_with fail
          refine HD.out.mono ?_
          rintro e w6 ⟨rfl, H⟩
          have hcx2 := HCX.out _ _ _ H
          have H0 := Lib.hid (show Co w w6 c [(3, owesE y o')] [ThRow 1 (.slice none 0 0) (([] : List Int).map iv), ThRow 1 (.slice al o.length cl) (o.map iv)] [] from H.addR (D' := []) (Upd.refl w6 []) (OwnRow.nil _ _))
          clear H
          go_wp2_with fail
          go_loopg [11, 12] o.length (fun k vr v wr => ∃ q : Nat, q ≤ o.length ∧ k = o.length - q ∧ v = .int .i64 (q : Int) ∧ Co w wr c [(3, owesE y o')] [ThRow 1 vr (((o.take q).filter fun y => !decide (y = d)).map iv), ThRow 1 (.slice al o.length cl) (o.map iv)] [])
          case atStart => exact ⟨0, Nat.zero_le _, rfl, rfl, by simpa using H0.out⟩
          case round =>
            obtain ⟨q, hq, hk2, hv2, H⟩ := hrel
            subst hv2
            clear H0
            by_cases hlt2 : q < o.length
            · obtain ⟨D2, ho2, -⟩ := (H.permR (List.Perm.swap _ _ _)).row
              obtain ⟨yy, rfl, hys2, hcy⟩ := ownCell ho2 (i := q) (x := iv o[q]) (by rw [List.getElem?_map, List.getElem?_eq_getElem hlt2]; rfl)
              obtain ⟨Dr, hor, backr⟩ := H.row
              obtain ⟨ar, nr, cr, rfl, hlr, -⟩ := _root_.id hor
              have hts : (o.take (q + 1)).filter (fun y => !decide (y = d)) = (o.take q).filter (fun y => !decide (y = d)) ++ if !decide (o[q] = d) then [o[q]] else [] := filter_step _ _ _ hlt2
              obtain ⟨u, hu⟩ : ∃ u, o[q] = u := ⟨_, rfl⟩
              rw [hu] at hcy hts
              unfold iv at hcy
              have hcx2 := HCX.out _ _ _ H
              have k1 := fun (W : World) (hW : W.heap = wr.heap) => (frozen_heap hW (yy.add q)).trans hcy
              have k2 := fun (W : World) (hW : W.heap = wr.heap) => (frozen_heap hW (x.add p)).trans hcx2
              have hlen2 : (((o.take q).filter fun y => !decide (y = d)).map iv).length ≤ 1000 := by
                have h1 := List.length_filter_le (fun y => !decide (y = d)) (o.take q)
                rw [List.length_take] at h1
                rw [List.length_map]
                omega
              have ha1 := Upd.alloc0 wr.drew (.cells #[.int .i64 u] 3 (0, 0)) []
              have hownA := (OwnRow.frame (w' := wr.drew) hor (fun _ _ => rfl)).frame (ha1.same hor.lt (by simp))
              obtain ⟨nb, hnb, hsrc⟩ := (cell_new wr.drew (.int .i64 u) 3 (0, 0)).src (P := Try.prog) (tx := 22) Try.underlying22 (by intro u hu; rw [List.mem_singleton.1 hu]; rfl)
              obtain rfl : 1 = nb := by simpa using hnb
              have HBD2 := Lib.hid (show ∀ n', (((o.take q).filter fun y => !decide (y = d)).map iv).length = n' * 1 → n' + 1 ≤ 140737488355328 ∧ (n' + 1) * i0.bytes ≤ 140737488355328 from fun n' hn' => by
                rw [hz2]; omega)
              have HBK := Lib.hid backr
              have HCR := Lib.hid H
              have HTS := Lib.hid hts
              clear ho2 hor backr hts hlr hnb H hu
              obtain ⟨b, hbb⟩ : ∃ b, (u != d) = b := ⟨_, rfl⟩
              have HB := Lib.hid hbb
              go_wp2_with fail
              refine wp_region_M (fun W => W.heap = wr.heap) 9 (by kernel_rfl) ?_
              refine wpAnyM_take (by kernel_rfl) (by intro c a d v w h; cases d <;> exact h) [(0, false), (1, false), (2, false), (3, true), (4, false), (5, false), (6, false), (7, true), (8, false)] (fuel := 0) (by kernel_rfl) ?_
              apply Exists.intro; refine ⟨?_, rfl, ?_⟩
              · iterate 9 ((first | (apply yieldN; (· (simp only [List.getElem?_toArray, List.getElem?_cons_succ, List.getElem?_cons_zero]; try rfl)); (· rfl)) | ((first | apply yieldP | apply yieldL); (· (simp only [List.getElem?_toArray, List.getElem?_cons_succ, List.getElem?_cons_zero]; try rfl)); (· rfl); (· (intros; go_simp; try with_reducible rfl)))); (· (simp only [Act.put, List.setIfInBounds_toArray, List.set_cons_zero, List.set_cons_succ]; try rfl)))
                exact rfl
              refine wpAnyM_done (by kernel_rfl) ?_ _
              cases b with
              | true =>
                have hne : decide (u = d) = false := by have := HB.out; simpa using this
                have hflt := HTS.out
                rw [hne] at hflt
                simp only [Bool.not_false, if_true] at hflt
                have HFL := Lib.hid hflt
                clear hne hflt
                have hcy2 : wr.drew.cell? (yy.add q) = some (.int .i64 u) := hcy
                go_wp2_with (at_builtin; go_must (refine wpList_app rfl _ _ 22 22 rfl 1 _ _ _ rfl hownA _ i0 _ Try.underlying22 hi0 hz0 hz1 rfl _ _ _ rfl hsrc HBD2.out ?_); intro a7 n7 c7 w7 D7 hown7 hu7)
                have HN := Lib.hid (HBK.out w7 D7 _ (((o.take (q + 1)).filter fun y => !decide (y = d)).map iv) (by rw [HFL.out, List.map_append]; exact hown7) (((Upd.refl wr Dr).drew.trans (ha1.mono (by simp) (fun b hb => .inr hb) : Upd wr.drew _ Dr Dr)).trans hu7))
                clear hown7 hu7 hsrc hownA
                go_roundg (o.length - (q + 1))
                case rel => exact ⟨q + 1, by omega, rfl, by go_num, HN.out⟩
                case measure => omega
              | false =>
                have hne : decide (u = d) = true := by have := HB.out; simpa using this
                have hflt := HTS.out
                rw [hne] at hflt
                simp only [Bool.not_true, Bool.false_eq_true, if_false, List.append_nil] at hflt
                have HFL := Lib.hid hflt
                clear hne hflt hsrc hownA
                go_wp2_with fail
                go_roundg (o.length - (q + 1))
                case rel => exact ⟨q + 1, by omega, rfl, by go_num, by rw [HFL.out]; exact HCR.out.keep (Upd.refl wr []).drew⟩
                case measure => omega
            · obtain rfl : q = o.length := by omega
              rw [List.take_length, ← HO'.out.1] at H
              have H1 := (H.permR (List.Perm.swap _ _ _)).dropR
              obtain ⟨Dr, hor, -⟩ := H1.row
              obtain ⟨ar, nr, cr, rfl, hlr, hnr, hcr, -⟩ := _root_.id hor
              rw [List.length_map, Nat.mul_one] at hlr
              subst hlr
              unfold maxLen at hcr
              have how := owes_any H1 3
              rw [show owesS [(3, owesE y o')] 3 = o' by unfold owesS; rw [look_one]; rfl] at how
              have HW := Lib.hid how
              have HH := Lib.hid H1
              clear H H1 hor how
              go_wp2_with fail
              refine HW.out.mono ?_
              rintro e w7 ⟨v7, D7, rfl, ho7, hu7⟩
              obtain ⟨E7, hr7, -⟩ := ho7.read
              have H7 := HH.out.keep hu7
              obtain ⟨D8, ho8, -⟩ := H7.row
              obtain ⟨E8, hr8, -⟩ := ho8.read
              have HS := Lib.hid (same_any _ _ o' o' E7 E8 w7 hr7 hr8)
              have HH7 := Lib.hid H7
              clear ho7 hu7 hr7 H7 ho8 hr8
              go_wp2_with fail
              refine HS.out.mono ?_
              rintro e w8 ⟨rfl, hu8⟩
              have H8 := HH7.out.keep hu8
              have hop := open_coord H8 (by simp)
              rw [open_own y o' HY.out.1] at hop
              have HOP := Lib.hid hop
              clear hu8 H8 hop
              go_wp2_with fail
              refine HOP.out.mono ?_
              rintro e w9 ⟨v9, rfl, H⟩
              obtain ⟨D9, ho9, -⟩ := H.row
              obtain ⟨a9, n9, c9, rfl, hl9, -⟩ := _root_.id ho9
              rw [List.length_map, Nat.mul_one] at hl9
              have hn9 : n9 = if o'.length = 0 then 0 else 1 := by rw [← hl9]; split <;> rfl
              have HN := Lib.hid H.dropR
              have ho'4 : o'.length ≤ 4 := by
                rw [HO'.out.1]
                exact Nat.le_trans (List.length_filter_le _ _) ho4
              have hsub' : ∀ z ∈ o', z ∈ l := fun z hz => by
                rw [HO'.out.1] at hz
                exact HO'.out.2 z ((List.mem_filter.1 hz).1)
              have HSU := Lib.hid (show _ ∧ _ from ⟨ho'4, hsub'⟩)
              clear H ho9 hl9 ho'4 hsub'
              by_cases hz : o'.length = 0
              · rw [if_pos hz] at hn9
                subst hn9
                have b1 : ((o'.length : Int) == 0) = true := beq_iff_eq.2 (by omega)
                clear hz
                go_wp2_with fail
                go_roundg (dn.length - (p + 1))
                case rel => exact ⟨p + 1, o', by omega, rfl, by go_num, HSU.out.2, HSU.out.1, HN.out⟩
                case measure => omega
              · rw [if_neg hz] at hn9
                subst hn9
                have b1 : ((o'.length : Int) == 0) = false := beq_eq_false_iff_ne.2 (by omega)
                clear hz
                go_wp2_with fail
                go_roundg (dn.length - (p + 1))
                case rel => exact ⟨p + 1, o', by omega, rfl, by go_num, HSU.out.2, HSU.out.1, HN.out⟩
                case measure => omega
        · obtain rfl : p = dn.length := by omega
          have hdc := decision_any H 3
          rw [HY.out.2.2 o] at hdc
          have HD := Lib.hid hdc
          clear H hdc
          go_wp2_with fail
          refine HD.out.mono ?_
          rintro e w6 ⟨rfl, H⟩
          have HBB := Lib.hid H.below
          clear H
          obtain ⟨bb, hbb⟩ : ∃ bb, (cm == cm) = bb := ⟨_, rfl⟩
          go_wp2_with fail
          go_ret
          exact ⟨by simp, HBB.out⟩
end Go.Proofs.Ytebmmbommkpjaaa
