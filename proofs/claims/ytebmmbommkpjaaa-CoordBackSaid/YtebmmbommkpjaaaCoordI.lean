/-
  Decisions: what is open.
-/
import Derived.Test.YtebmmbommkpjaaaCoordH
import Derived.Test.YtebmmbommkpjaaaLay
import Derived.Lib.SlKeysI
namespace Go.Proofs.Ytebmmbommkpjaaa
open Go.RowKit Go.Av Go.Maps

theorem infoL : (Try.prog.info? 2).map (fun i => (i.zero, i.size, i.bytes)) = some (some (.int .i64 0), 1, 8) := by kernel_rfl
def noRead : Value → Option (DataW Unit × List MemPlace) := fun _ => some (.nil, [])
theorem rg_int {P : Program} {k : TypeId} (hk : P.underlying k = some (.int .i64)) (x : Int) (hx : (Lit.int .i64 x).wf = true) (e : MapEntry) (he : e.key = .int .i64 x) : WideElems.rd P k noRead e = some (.int .i64 x, .nil) := by
  simp [WideElems.rd, he, keyOf, hk, mapKey, hx, noRead]
/-- A map of numbers, as the library's contracts take it. -/
theorem owns_ids {P : Program} {w : World} {k : TypeId} {m : Nat} {l : List (Int × Value)} (h : MapIs w (.int .i64) m (l.map fun x => (.int .i64 x.1, x.2))) (hk : P.underlying k = some (.int .i64)) (hn : l.length ≤ 1000000) (hs : ∀ x ∈ l, (Lit.int .i64 x.1).wf = true) :
    ∃ D0 : DataW Unit, w.ownsMap P k noRead m l.length D0 ∧ Maps.size D0 = l.length ∧ (intKeys D0).Perm (l.map fun x => x.1) := by
  obtain ⟨es, clock, h1, h2, h3, h4⟩ := h
  have hlen : es.size = l.length := by
    have := congrArg List.length h4
    simpa using this
  have hall : ∀ e ∈ es.toList, ∃ x ∈ l, e.key = .int .i64 x.1 := by
    intro e he
    have hm : kv e ∈ l.map fun x => (Value.int .i64 x.1, x.2) := by rw [← h4]; exact List.mem_map_of_mem he
    obtain ⟨x, hx, hxe⟩ := List.mem_map.1 hm
    exact ⟨x, hx, (congrArg Prod.fst hxe).symm⟩
  refine ⟨_, ⟨es, clock, h1, ⟨by rw [hlen]; unfold maxLen; omega, h2, fun e he => ?_⟩, by omega, rfl⟩, ?_, ?_⟩
  · obtain ⟨x, hx, hk'⟩ := hall e he
    exact ⟨_, rg_int hk x.1 (hs x hx) e hk'⟩
  · rw [size_eq, (WideShapes.sorted_perm _).length_eq]
    simpa using hlen
  · have e1 : (es.toList.map (WideElems.rg P k noRead)).map (fun p => Go.intOf p.1) = l.map fun x => x.1 := by
      have e2 : es.toList.map (fun e => (kv e).1) = l.map fun x => Value.int .i64 x.1 := by
        have := congrArg (List.map Prod.fst) h4
        simpa [Function.comp_def] using this
      have e3 : es.toList.map (fun e => Go.intOf (WideElems.rg P k noRead e).1) = (es.toList.map (fun e => (kv e).1)).map fun v => match v with | .int _ q => q | _ => 0 := by
        rw [List.map_map]
        refine List.map_congr_left fun e he => ?_
        obtain ⟨x, hx, hk'⟩ := hall e he
        have hke : (kv e).1 = .int .i64 x.1 := hk'
        simp [Function.comp, hke, WideElems.rg, rg_int hk x.1 (hs x hx) e hk', Go.intOf]
      rw [List.map_map, Function.comp_def, e3, e2, List.map_map]
      rfl
    rw [← e1]
    exact (WideShapes.sorted_perm _).map _
theorem own_of {w : World} {base : Nat} {e : TypeId} {v : Value} {n : Nat} {xs : List Value} (h : w.ownsRow base e 1 v n xs) : ∃ D, OwnRow w 1 v xs D ∧ ∀ b ∈ D, base ≤ b ∧ b < w.heap.size := by
  obtain ⟨hl, ⟨rfl, rfl⟩ | ⟨g, cap, cur, rfl, hg, hh, hn, hc, hs, hx⟩⟩ := h
  · obtain rfl : xs = [] := List.length_eq_zero_iff.1 (by omega)
    exact ⟨[], OwnRow.nil _ _, by simp⟩
  · exact ⟨[g], ⟨_, n, cap, rfl, hl, hn, hc, (fun h => by cases h), .inr ⟨g, 0, cur, e, rfl, rfl, hh, by omega, by simpa using hx⟩⟩, by simpa using ⟨hg, lt_of_heap hh⟩⟩

def keysS (S : CoS) : List Int := (S.map (·.1)).mergeSort fun x y => decide (x ≤ y)

theorem wf_i64 {n : Int} (h1 : -9223372036854775808 ≤ n) (h2 : n ≤ 9223372036854775807) : (Lit.int .i64 n).wf = true := by
  have e1 : IntKind.i64.min = -9223372036854775808 := by decide
  have e2 : IntKind.i64.max = 9223372036854775807 := by decide
  simp only [Lit.wf, Bool.and_eq_true, decide_eq_true_eq, e1, e2]
  omega

section
variable {w0 w : World} {c m : Nat} {S : CoS} {l1 l2 : List EntG} {g : EntG} {R : List Thing} {T : Thing} {rows : List (Value × Bs)}

theorem co_keys (h : Co w0 w c S R rows) (hn : S.length ≤ 1000000) : ∃ m, w.cell? ⟨c, 0, none⟩ = some (.map (some m)) ∧
    (Calls Try.prog 40 #[.map (some m)] w fun e w' => e = .returned (.func (.func 63) #[] #[.pointer (some ⟨w.heap.size, 0, none⟩)]) ∧ w' = w.alloc (.cells #[.map (some m)] 62)) ∧
    (Calls Try.prog 39 #[.func (.func 63) #[] #[.pointer (some ⟨w.heap.size, 0, none⟩)]] (w.alloc (.cells #[.map (some m)] 62)) fun e w' => ∃ v, e = .returned v ∧ Co w0 w' c S (ThRow 1 v ((keysS S).map iv) :: R) rows) := by
  have hco := h
  obtain ⟨m, gs, rfl, hwf, hS⟩ := h
  have hc := hS.block (b := c) (o := .cells #[.map (some m)] 64 (0, 0)) (by simp [coHead])
  obtain ⟨E, hM, -⟩ := hS.has (T := ThMap (.int .i64) m (gs.map EntG.kv)) (by simp [coHead])
  obtain ⟨D0, ho, hz, hp⟩ := owns_ids (P := Try.prog) (k := 2) (l := gs.map fun g => (g.id, Value.pointer (some ⟨g.p, 0, none⟩))) (by rw [List.map_map]; exact hM) Try.underlying2 (by simp at hn ⊢; exact hn) (by
    intro x hx
    obtain ⟨g, hg, rfl⟩ := List.mem_map.1 hx
    have := (hwf g.ent (List.mem_map_of_mem hg)).2
    exact wf_i64 (by have := this.1; have h2 : g.ent.1 = g.id := rfl; omega) this.2)
  rw [List.length_map] at hz
  have hsz : gs.length ≤ 1000000 := by simpa using hn
  refine ⟨m, cell_of hc 0 rfl, callsIn_wide.1 (Try.maps_Keys_40 (some m) w), ?_⟩
  refine (callsIn_wide.1 (Try.slices_Sorted_keys_39_40 m _ D0 noRead w ho (by rw [hz]; unfold maxLen; omega) (by rw [hz]; omega))).mono ?_
  rintro e w' ⟨v, ss, rfl, hS2, hrow, hnil, hb⟩
  refine ⟨v, rfl, ?_⟩
  obtain ⟨D, hown, hD⟩ := own_of hrow
  have hk : ss.mergeSort (fun x y => decide (x ≤ y)) = keysS (gs.map EntG.ent) := by
    unfold keysS
    refine mergeSort_of_perm_i (hS2.trans (hp.trans ?_))
    rw [List.map_map, List.map_map]
    exact List.Perm.refl _
  rw [hk] at hown
  have hu : Upd w w' [] [] := (Upd.alloc0 w _ []).trans (Upd.of_below hb)
  exact hco.addR (T := ThRow 1 v ((keysS (gs.map EntG.ent)).map iv)) (D' := D) ⟨hu.os, hu.tape, hu.output, hu.size, hu.keep, fun b hb' => .inr ⟨by have := (hD b hb').1; simp at this; omega, (hD b hb').2⟩⟩ hown

theorem Co.row {v : Value} {xs : List Value} (h : Co w0 w c S (ThRow 1 v xs :: R) rows) : ∃ D, OwnRow w 1 v xs D ∧ ∀ (w' : World) D' v' xs', OwnRow w' 1 v' xs' D' → Upd w w' D D' → Co w0 w' c S (ThRow 1 v' xs' :: R) rows := by
  obtain ⟨m, gs, h1, h2, hS⟩ := h
  have h3 := hS.perm (perm_last _ _ _ _).symm
  obtain ⟨D, hP, _, back⟩ := h3.use
  exact ⟨D, hP, fun w' D' v' xs' ho hu => ⟨m, gs, h1, h2, (back w' D' (ThRow 1 v' xs') hu ho).perm (perm_last _ _ _ _)⟩⟩

def openF (S : CoS) (id : Int) : Bool := match lookS id S with | some x => x.dec == 0 || decide (0 < (x.owes.length : Int)) | none => false
def openSt (S : CoS) : List Int := (keysS S).filter (openF S)
theorem keys_look {S : CoS} {id : Int} (h : id ∈ keysS S) : ∃ x, lookS id S = some x := by
  unfold keysS at h
  rw [List.mem_mergeSort] at h
  obtain ⟨e, he, rfl⟩ := List.mem_map.1 h
  cases hl : lookS e.1 S with
  | some x => exact ⟨x, rfl⟩
  | none => exact absurd rfl (look_none hl e he)
theorem keys_len (S : CoS) : (keysS S).length = S.length := by unfold keysS; rw [List.length_mergeSort, List.length_map]

set_option maxRecDepth 100000 in
set_option maxHeartbeats 2000000 in
theorem open_coord (h : Co w0 w c S R rows) (hn : S.length ≤ 1000) :
    Calls Try.prog 17 #[.pointer (some ⟨c, 0, none⟩)] w fun e w' => ∃ v, e = .returned v ∧ Co w0 w' c S (ThRow 1 v ((openSt S).map iv) :: R) rows := by
  obtain ⟨i0, hi0, hz0, hz1, hz2⟩ := info_parts infoL
  obtain ⟨m, hc, hK, hSo⟩ := co_keys h (by omega)
  have HK := Lib.hid hK
  have HS := Lib.hid hSo
  clear h hK hSo
  go_enter Try.func17, Try.ntmps17
  go_wp2_with fail
  refine HK.out.mono ?_
  rintro e w1 ⟨rfl, rfl⟩
  go_wp2_with fail
  refine HS.out.mono ?_
  rintro e w2 ⟨v, rfl, h⟩
  obtain ⟨D, ho, -⟩ := h.row
  obtain ⟨ak, nk, ck, rfl, hlk, hnk, hck, -⟩ := _root_.id ho
  rw [List.length_map, Nat.mul_one] at hlk
  subst hlk
  unfold maxLen at hck
  have HC := Lib.hid (show Co w0 w2 c S (ThRow 1 (.slice none 0 0) (([] : List Int).map iv) :: ThRow 1 (.slice ak (keysS S).length ck) ((keysS S).map iv) :: R) rows from h.addR (D' := []) (Upd.refl w2 []) (OwnRow.nil _ _))
  clear h ho
  go_wp2_with fail
  go_loopg [3, 14] (keysS S).length (fun k vl vi wr => ∃ p : Nat, p ≤ (keysS S).length ∧ k = (keysS S).length - p ∧ vi = .int .i64 (p : Int) ∧ Co w0 wr c S (ThRow 1 vl ((((keysS S).take p).filter (openF S)).map iv) :: ThRow 1 (.slice ak (keysS S).length ck) ((keysS S).map iv) :: R) rows)
  case atStart => exact ⟨0, Nat.zero_le _, rfl, rfl, by simpa using HC.out⟩
  case round =>
    obtain ⟨p, hp, hk, hv, hC⟩ := hrel
    subst hv
    by_cases hlt : p < (keysS S).length
    · have hkp : (keysS S)[p] ∈ keysS S := List.getElem_mem hlt
      obtain ⟨x, hx⟩ := keys_look hkp
      obtain ⟨D2, ho2, -⟩ := (hC.permR (List.Perm.swap _ _ _)).row
      obtain ⟨y, rfl, hys, hcy⟩ := ownCell ho2 (i := p) (x := iv (keysS S)[p]) (by rw [List.getElem?_map, List.getElem?_eq_getElem hlt]; rfl)
      obtain ⟨Dl, hol, backl⟩ := hC.row
      obtain ⟨al, nl, cl, rfl, hll, -⟩ := _root_.id hol
      obtain ⟨m2, l1, g, l2, hgid, hgx, hF, -, -⟩ := hC.take hx
      obtain ⟨hc2, hlk2, hp2⟩ := hF.facts
      have hlk2 := hlk2 wr rfl
      have c2 := cell_of hp2 2 rfl
      have c3 := cell_of hp2 3 rfl
      obtain ⟨ao, no, co, hvo, hlo, hno, hco⟩ := (hF.2.perm (List.perm_middle (l₁ := [_, _, _]))).rowLen
      rw [List.length_map, Nat.mul_one] at hlo
      unfold maxLen at hco
      rw [show (#[g.vs, g.vv, Value.int .i64 g.x.dec, g.vo] : Array Value)[3] = .slice ao no co from hvo] at c3
      rw [show (#[g.vs, g.vv, Value.int .i64 g.x.dec, g.vo] : Array Value)[2] = .int .i64 g.x.dec from rfl] at c2
      obtain ⟨idv, hidv⟩ : ∃ idv, (keysS S)[p] = idv := ⟨_, rfl⟩
      rw [hidv] at hcy hx hgid
      rw [hgid] at hlk2
      have hts : (keysS S).take (p + 1) = (keysS S).take p ++ [idv] := by rw [List.take_succ_eq_append_getElem hlt, hidv]
      have hof : openF S idv = (x.dec == 0 || decide (0 < (x.owes.length : Int))) := by unfold openF; rw [hx]
      rw [← hgx] at hof
      rw [hlo] at hof
      obtain ⟨dc, hdc⟩ : ∃ dc, g.x.dec = dc := ⟨_, rfl⟩
      rw [hdc] at hof c2
      have hlen2 : (((keysS S).take p).filter (openF S)).length ≤ 1000 := by
        have := List.length_filter_le (openF S) ((keysS S).take p)
        rw [List.length_take, keys_len] at this
        omega
      have hpk : (keysS S).length ≤ 1000 := by rw [keys_len]; exact hn
      unfold iv at hcy
      have HBK := Lib.hid backl
      have HCR := Lib.hid hC
      have HTS := Lib.hid (show _ ∧ _ from ⟨hts, hof⟩)
      have HOL := Lib.hid hol
      have ha1 := Upd.alloc0 wr (.cells #[.int .i64 idv] 2 (0, 0)) []
      have hownA := hol.frame (ha1.same hol.lt (by simp))
      obtain ⟨nb, hnb, hsrc⟩ := (cell_new wr (.int .i64 idv) 2 (0, 0)).src (P := Try.prog) (tx := 32) Try.underlying32 (by intro u hu; rw [List.mem_singleton.1 hu]; rfl)
      obtain rfl : 1 = nb := by simpa using hnb
      have HBD := Lib.hid (show ∀ n', ((((keysS S).take p).filter (openF S)).map iv).length = n' * 1 → n' + 1 ≤ 140737488355328 ∧ (n' + 1) * i0.bytes ≤ 140737488355328 from fun n' hn' => by
        rw [List.length_map] at hn'
        rw [hz2]; omega)
      clear hkp hx ho2 hol backl hgid hgx hF hp2 hvo hlo hidv hts hof hC hll hdc HC hnb
      by_cases hop : dc = 0 ∨ 0 < no
      · have hof : openF S idv = true := by rw [HTS.out.2]; rcases hop with h | h <;> simp [h]
        have hflt : ((keysS S).take (p + 1)).filter (openF S) = ((keysS S).take p).filter (openF S) ++ [idv] := by rw [HTS.out.1, List.filter_append, List.filter_cons, if_pos hof, List.filter_nil]
        have HFL := Lib.hid hflt
        clear hof hflt
        by_cases hd0 : dc = 0
        case' pos =>
          subst hd0
          clear hop
        case' neg =>
          have hno0 : 0 < no := by rcases hop with h | h; exact absurd h hd0; exact h
          have hd0' : (dc == 0) = false := by simp [hd0]
          clear hop hd0
        all_goals
          go_wp2_with (at_builtin; go_must (refine wpList_app rfl _ _ 32 32 rfl 1 _ _ _ rfl hownA _ i0 _ Try.underlying32 hi0 hz0 hz1 rfl _ _ _ rfl hsrc HBD.out ?_); intro a7 n7 c7 w7 D7 hown7 hu7)
          have HN := Lib.hid (HBK.out w7 D7 _ ((((keysS S).take (p + 1)).filter (openF S)).map iv) (by rw [HFL.out, List.map_append]; exact hown7) ((ha1.mono (by simp) (fun b hb => .inr hb) : Upd wr _ Dl Dl).trans hu7))
          clear hown7 hu7 hsrc hownA
          go_roundg ((keysS S).length - (p + 1))
          case rel => exact ⟨p + 1, by omega, rfl, by go_num, HN.out⟩
          case measure => omega
      · have hof : openF S idv = false := by rw [HTS.out.2]; simp only [not_or] at hop; simp [hop.1]; omega
        have hflt : ((keysS S).take (p + 1)).filter (openF S) = ((keysS S).take p).filter (openF S) := by rw [HTS.out.1, List.filter_append, List.filter_cons, if_neg (by simp [hof]), List.filter_nil, List.append_nil]
        have HFL := Lib.hid hflt
        have hno0 : ¬ 0 < no := fun h => hop (.inr h)
        have hd0' : (dc == 0) = false := by simp only [not_or] at hop; simp [hop.1]
        clear hof hflt hop
        go_wp2_with fail
        go_roundg ((keysS S).length - (p + 1))
        case rel => exact ⟨p + 1, by omega, rfl, by go_num, by rw [HFL.out]; exact HCR.out⟩
        case measure => omega
    · obtain rfl : p = (keysS S).length := by omega
      rw [List.take_length] at hC
      have HC2 := Lib.hid hC
      clear hC HC
      go_wp2_with fail
      go_ret
      exact ⟨_, rfl, (HC2.out.permR (List.Perm.swap _ _ _)).dropR⟩
end
end Go.Proofs.Ytebmmbommkpjaaa
