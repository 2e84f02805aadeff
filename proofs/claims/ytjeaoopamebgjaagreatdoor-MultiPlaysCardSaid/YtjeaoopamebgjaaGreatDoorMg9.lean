/-
  Texts of this claim, laid together.
-/
import Derived.Test.YtjeaoopamebgjaaGreatDoorMg8
import Derived.Deep.Matrix
import Derived.Deep.Slices
import Derived.ChangeSame
import Derived.HandedShaped
import Derived.Handed
import Derived.Lib.LaidTab
set_option linter.unusedVariables false
set_option linter.unusedSimpArgs false

namespace Go.Av
def dsT (d : Nat) : List Nat := [8, 7, 6, 5, 4, 3, 2, 1].take (8 - d)
def pgS (d : Nat) (l : List Bs) : List Bs := (dsT d).flatMap fun x => l.filter fun p => deepP p == x
theorem pg_step {d : Nat} (h1 : 1 ≤ d) (h8 : d ≤ 8) (l : List Bs) : pgS (d - 1) l = pgS d l ++ l.filter fun p => deepP p == d := by
  rcases (show d = 1 ∨ d = 2 ∨ d = 3 ∨ d = 4 ∨ d = 5 ∨ d = 6 ∨ d = 7 ∨ d = 8 by omega) with rfl | rfl | rfl | rfl | rfl | rfl | rfl | rfl <;> simp [pgS, dsT]
theorem fm_len {l : List Bs} : ∀ ds : List Nat, (ds.flatMap fun x => l.filter fun p => deepP p == x).length ≤ ds.length * l.length
  | [] => by simp
  | d :: ds => by
    have ih := fm_len (l := l) ds
    have h1 := List.length_filter_le (fun p => deepP p == d) l
    rw [List.flatMap_cons, List.length_append, List.length_cons, Nat.add_mul]
    omega
theorem pg_len (d : Nat) (l : List Bs) : (pgS d l).length ≤ 8 * l.length := by
  have h1 := fm_len (l := l) (dsT d)
  have h2 : (dsT d).length ≤ 8 := by unfold dsT; rw [List.length_take]; simp
  exact Nat.le_trans h1 (Nat.mul_le_mul_right _ h2)
theorem filter_take_succ {q : Bs → Bool} {l : List Bs} {i : Nat} (hi : i < l.length) : (l.take (i + 1)).filter q = (l.take i).filter q ++ (if q l[i] then [l[i]] else []) := by
  rw [List.take_succ_eq_append_getElem hi, List.filter_append]
  congr 1
  cases hq : q l[i] <;> simp [hq]
theorem fm_nodup {l : List Bs} (hn : l.Nodup) : ∀ ds : List Nat, ds.Nodup → (ds.flatMap fun x => l.filter fun p => deepP p == x).Nodup
  | [], _ => List.nodup_nil
  | d :: ds, h => by
    rw [List.nodup_cons] at h
    rw [List.flatMap_cons, List.nodup_append]
    refine ⟨hn.sublist (List.filter_sublist ..), fm_nodup hn ds h.2, ?_⟩
    intro x hx y hy e
    subst e
    obtain ⟨z, hz, hy⟩ := List.mem_flatMap.1 hy
    have h1 := (List.mem_filter.1 hx).2
    have h2 := (List.mem_filter.1 hy).2
    rw [beq_iff_eq] at h1 h2
    exact h.1 (by rw [← h1, h2]; exact hz)
theorem purge_nodup {l : List Bs} (hn : l.Nodup) : (purgeS l).Nodup := fm_nodup hn _ (by decide)
theorem purge_sub {l : List Bs} {p : Bs} (h : p ∈ purgeS l) : p ∈ l := by
  obtain ⟨z, -, h⟩ := List.mem_flatMap.1 h
  exact (List.mem_filter.1 h).1
theorem pur_there {K : Nat} {S : TreeS} (hB : TreeB K S) {l : List Bs} (hn : l.Nodup) (hs : ∀ p ∈ l, p ∈ S.l.map (·.1)) {i : Nat} (hi : i < l.length) : hasS ((purT (l.take i) S).l.map (·.1)) l[i] = true := by
  obtain ⟨h1, -⟩ := purT_mem (l.take i) hB
  refine (has_mem (purT_b (l.take i) hB).rise).2 ?_
  rw [h1, List.mem_filter]
  refine ⟨hs _ (List.getElem_mem hi), ?_⟩
  rw [decide_eq_true_eq]
  intro hm
  have hsplit : l = l.take i ++ l[i] :: l.drop (i + 1) := by rw [← List.drop_eq_getElem_cons hi, List.take_append_drop]
  have h2 := hn
  rw [hsplit] at h2
  exact (List.nodup_append.1 h2).2.2 _ hm _ k_s rfl
end Go.Av
namespace Go.Proofs.YtjeaoopamebgjaaGreatDoor
open Go.RowKit Go.Av
section
variable {w0 w : World} {b : Nat} {S : TreeS} {P P' : List PRow} {R : List Thing} {rows : List (Value × Bs)}
def RPurPost (w0 : World) (b : Nat) (P : List PRow) (R : List Thing) (rows : List (Value × Bs)) (S' : TreeS) (l : List Bs) (e : Ending) (w' : World) : Prop :=
  ∃ v P', e = .returned v ∧ (∀ q ∈ P, q ∈ P') ∧ Sep w0 w' (ThRow 1 v (l.map sv) :: ThPool w0 P' :: ThRt b S' P' :: R) rows
def PgOut (w0 : World) (v5 : Value) (l : List Bs) (R : List Thing) (rows : List (Value × Bs)) (k : Nat) (v6 v7 : Value) (w : World) : Prop :=
  ∃ (d : Nat) (a : Option Addr) (n c : Nat), d = k ∧ d ≤ 8 ∧ v7 = .int .i64 (d : Int) ∧ v6 = .slice a n c ∧ Sep w0 w (ThRow 1 (.slice a n c) ((pgS d l).map sv) :: ThRow 1 v5 (l.map sv) :: R) rows
def PgIn (w0 : World) (v5 : Value) (l : List Bs) (R : List Thing) (rows : List (Value × Bs)) (d : Nat) (k : Nat) (v6 v8 : Value) (w : World) : Prop :=
  ∃ (i : Nat) (a : Option Addr) (n c : Nat), i + k = l.length ∧ v8 = .int .i64 (i : Int) ∧ v6 = .slice a n c ∧ Sep w0 w (ThRow 1 (.slice a n c) ((pgS d l ++ (l.take i).filter fun p => deepP p == d).map sv) :: ThRow 1 v5 (l.map sv) :: R) rows
def RPurRel (w0 : World) (b : Nat) (S : TreeS) (P : List PRow) (R : List Thing) (rows : List (Value × Bs)) (v : Value) (l : List Bs) (k : Nat) (vi : Value) (w : World) : Prop :=
  ∃ (i : Nat) (P' : List PRow), i + k = l.length ∧ vi = .int .i64 (i : Int) ∧ (∀ r ∈ P, r ∈ P') ∧ Sep w0 w (ThPool w0 P' :: ThRt b (purT (l.take i) S) P' :: ThRow 1 v (l.map sv) :: R) rows
set_option maxRecDepth 100000 in
set_option maxHeartbeats 8000000 in
theorem purge10_any {K : Nat} (h : Sep w0 w (ThPool w0 P :: ThRt b S P :: R) rows) (hB : TreeB K S) (hK : K ≤ 100000) (sess : Int) :
    Calls Tryz.prog 30 #[.pointer (some ⟨b, 0, none⟩), .int .i64 sess] w (RPurPost w0 b P R rows (purT (purgeS (ofT S sess)) S) (purgeS (ofT S sess))) := by
  have HX := Lib.hid h
  have HB := Lib.hid (show _ ∧ _ from ⟨hB, hK⟩)
  clear h hB hK
  go_enter Tryz.func30, Tryz.ntmps30
  go_wp2_with (first | go_skip | ((with_reducible apply wpList_skip); (· rfl); simp only [Act.put, k_a, k_b, k_c]) | (refine sWL ?_; simp only [Act.put, k_a, k_b, k_c, k_d, k_e, k_f, k_g, k_h, NodeS.cells, OpS.cells, ResS.cells]) | (refine sWM ?_; simp only [Act.put, k_a, k_b, k_c]) | ((first | refine sWS ?_ | refine sWT ?_); clear HX; intro w HX; simp only [Act.put, k_a, k_b, k_c, setMany, Nat.reduceAdd, NodeS.cells, OpS.cells, ResS.cells] at HX ⊢) | (refine sWA ?_; clear HX; (first | (have hq := b; clear hq; intro w b2 HX) | intro w b HX); simp only [Act.put, k_a, k_b, k_c]) | ((first | (refine sWN ?_; clear HX; intro w mm HX) | (refine sWP ?_; clear HX; intro w av nv cv HX)); simp only [Act.put, k_a, k_b, k_c]))
  refine (rof_any HX.out.up1 sess (by have := HB.out.1.many; omega)).mono ?_
  rintro e w ⟨v, rfl, hS⟩
  obtain ⟨a0, n0, c0, rfl, hl0, hn0, hc0⟩ := hS.rowLen
  rw [List.length_map, Nat.mul_one] at hl0
  have HSUB := Lib.hid (show (ofT S sess).Nodup ∧ (∀ p ∈ ofT S sess, p ∈ S.l.map (·.1)) ∧ (ofT S sess).length ≤ 500 from ⟨by
      unfold ofT
      exact (rise_nodup HB.out.1.rise).sublist ((List.filter_sublist ..).map _), fun p hp => by
      obtain ⟨e, he, rfl⟩ := List.mem_map.1 hp
      exact List.mem_map_of_mem (List.mem_filter.1 he).1, by
      have h1 : (ofT S sess).length ≤ S.l.length := by unfold ofT; rw [List.length_map]; exact List.length_filter_le _ _
      have := HB.out.1.many
      omega⟩)
  have HKEY := Lib.hid (show ∀ p ∈ ofT S sess, p.length ≤ 200 from fun p hp => by
    obtain ⟨e, he, rfl⟩ := List.mem_map.1 hp
    exact HB.out.1.keys e (List.mem_filter.1 he).1)
  obtain ⟨l, hl⟩ : ∃ l, ofT S sess = l := ⟨_, rfl⟩
  rw [hl] at hS hl0 HSUB HKEY ⊢
  subst hl0
  have HLQ := Lib.hid hl
  clear HX hl
  have HST := Lib.hid (show PgOut w0 (.slice a0 l.length c0) l (ThRt b S P :: ThPool w0 P :: R) rows 8 (.slice none 0 0) (.int .i64 (8 : Int)) w from ⟨8, none, 0, 0, rfl, by omega, rfl, rfl, hS.nilRow 1⟩)
  clear hS hn0 hc0
  go_upto_region 4 with fail
  go_loopg [6, 7] 8 (fun k v6 v7 wr => PgOut w0 (.slice a0 l.length c0) l (ThRt b S P :: ThPool w0 P :: R) rows k v6 v7 wr)
  case atStart => exact HST.out
  case round =>
    rename World => w
    obtain ⟨k, a, n, c, hkk, hk8, rfl, rfl, hS⟩ := hrel
    subst hkk
    clear HST
    by_cases h0 : k = 0
    case pos =>
      subst h0
      have HX := Lib.hid (show Sep w0 w (ThRow 1 (.slice a n c) ((purgeS l).map sv) :: ThRow 1 (.slice a0 l.length c0) (l.map sv) :: ThRt b S P :: ThPool w0 P :: R) rows from hS)
      have HM := Lib.hid (show (purgeS l).Nodup ∧ (∀ p ∈ purgeS l, p ∈ S.l.map (·.1)) ∧ (purgeS l).length ≤ 8 * 500 from ⟨purge_nodup HSUB.out.1, fun p hp => HSUB.out.2.1 p (purge_sub hp), by have h1 := pg_len 0 l; have h2 := HSUB.out.2.2; show (pgS 0 l).length ≤ _; omega⟩)
      have HMK := Lib.hid (fun p (hp : p ∈ purgeS l) => HKEY.out p (purge_sub hp))
      obtain ⟨_, _, _, e, hl1, -, -⟩ := hS.rowLen
      simp only [Value.slice.injEq] at e
      obtain ⟨rfl, rfl, rfl⟩ := e
      have hl1 : ((purgeS l).map sv).length = n * 1 := hl1
      rw [List.length_map, Nat.mul_one] at hl1
      clear hS
      obtain ⟨m, hm⟩ : ∃ m, purgeS l = m := ⟨_, rfl⟩
      rw [hm] at HX HM HMK hl1
      subst hl1
      have HMQ := Lib.hid hm
      clear hm HSUB HKEY hk8
      have HST := Lib.hid (show RPurRel w0 b S P R rows (.slice a m.length c) m m.length (.int .i64 (0 : Int)) w from ⟨0, P, by simp, rfl, fun q hq => hq, HX.out.pm 4 [3, 2, 0] rfl rfl⟩)
      clear HX
      go_upto_region 12 with fail
      go_loopg [9] m.length (fun k v wr => RPurRel w0 b S P R rows (.slice a m.length c) m k v wr)
      case atStart => exact HST.out
      case round =>
        rename World => w
        obtain ⟨i, P2, hik, rfl, hP2, hS⟩ := hrel
        clear HST
        have HX := Lib.hid hS
        have HP2 := Lib.hid hP2
        clear hS hP2
        by_cases hlt : i < m.length
        case neg =>
          obtain rfl : i = m.length := by omega
          clear hlt hik
          go_wp2_with (first | go_skip | ((with_reducible apply wpList_skip); (· rfl); simp only [Act.put, k_a, k_b, k_c]) | (refine sWL ?_; simp only [Act.put, k_a, k_b, k_c, k_d, k_e, k_f, k_g, k_h, NodeS.cells, OpS.cells, ResS.cells]) | (refine sWM ?_; simp only [Act.put, k_a, k_b, k_c]) | ((first | refine sWS ?_ | refine sWT ?_); clear HX; intro w HX; simp only [Act.put, k_a, k_b, k_c, setMany, Nat.reduceAdd, NodeS.cells, OpS.cells, ResS.cells] at HX ⊢) | (refine sWA ?_; clear HX; (first | (have hq := b; clear hq; intro w b2 HX) | intro w b HX); simp only [Act.put, k_a, k_b, k_c]) | ((first | (refine sWN ?_; clear HX; intro w mm HX) | (refine sWP ?_; clear HX; intro w av nv cv HX)); simp only [Act.put, k_a, k_b, k_c]))
          go_ret
          have h1 := HX.out.up2
          rw [List.take_length] at h1
          rw [HLQ.out, HMQ.out]
          exact ⟨_, P2, rfl, HP2.out, h1⟩
        case pos =>
          obtain ⟨y, hy, hs, -⟩ := HX.out.up2.rowCell (i := i) (x := sv m[i]) (by simp [hlt])
          obtain ⟨g, off, sp⟩ := y
          simp only at hs
          subst hs hy
          obtain ⟨D, hD⟩ := HX.out.up2.fst
          obtain ⟨E, hE, -⟩ := OwnRow.read hD
          have hl := row_load1 (P := Tryz.prog) (ty := 9) (i := i) (v := sv m[i]) hE (by kernel_rfl) (by simp [hlt])
          have HTK := Lib.hid (purT_take (S := S) hlt)
          have HBI := Lib.hid (purT_b (m.take i) HB.out.1)
          have hps := HMK.out _ (List.getElem_mem hlt)
          have hth := pur_there HB.out.1 HM.out.1 HM.out.2.1 hlt
          obtain ⟨p, hp⟩ : ∃ p, m[i] = p := ⟨_, rfl⟩
          rw [hp] at hl HTK hps hth
          obtain ⟨S1, hS1⟩ : ∃ S1, purT (m.take i) S = S1 := ⟨_, rfl⟩
          rw [hS1] at HX HTK HBI hth
          obtain ⟨hk, hk1, hk2⟩ := has_look (rise_nodup HBI.out.rise) hth
          obtain ⟨kk, hkk⟩ : ∃ kk, placeS (S1.l.map (·.1)) p = kk := ⟨_, rfl⟩
          have hk' : kk < S1.l.length := by rw [← hkk]; exact hk
          have HKK := Lib.hid (show ∃ hk' : kk < S1.l.length, S1.l[kk].1 = p from ⟨hk', by simp only [← hkk]; exact hk1⟩)
          have HPL := Lib.hid (show placeS (keysT S1) (⟨p.toArray⟩ : ByteArray).data.toList = kk ∧ hasS (keysT S1) (⟨p.toArray⟩ : ByteArray).data.toList = true from ⟨hkk, hth⟩)
          have hmany := HBI.out.many
          have q0 : decide (i < m.length) = true := decide_eq_true hlt
          have q9 : i ≤ 4000 := by have := HM.out.2.2; omega
          have HPS := Lib.hid hps
          have HPI := Lib.hid hp
          unfold sv at hl
          clear hD hE hp hps hS1 hk hk1 hk2 hkk hth hk'
          go_wp2_with (first | go_skip | ((with_reducible apply wpList_skip); (· rfl); simp only [Act.put, k_a, k_b, k_c]) | (refine sWL ?_; simp only [Act.put, k_a, k_b, k_c, k_d, k_e, k_f, k_g, k_h, NodeS.cells, OpS.cells, ResS.cells]) | (refine sWM ?_; simp only [Act.put, k_a, k_b, k_c]) | ((first | refine sWS ?_ | refine sWT ?_); clear HX; intro w HX; simp only [Act.put, k_a, k_b, k_c, setMany, Nat.reduceAdd, NodeS.cells, OpS.cells, ResS.cells] at HX ⊢) | (refine sWA ?_; clear HX; (first | (have hq := b; clear hq; intro w b2 HX) | intro w b HX); simp only [Act.put, k_a, k_b, k_c]) | ((first | (refine sWN ?_; clear HX; intro w mm HX) | (refine sWP ?_; clear HX; intro w av nv cv HX)); simp only [Act.put, k_a, k_b, k_c]) | ((with_reducible apply sx_loadAt hl); (· rfl); (· rfl); simp only [Act.put, k_a, k_b, k_c]))
          refine (at10_any HX.out.up1 ⟨p.toArray⟩ (by omega)).mono ?_
          unfold AtPost
          rw [HPL.out.1, HPL.out.2]
          rintro e w ⟨rfl, hx⟩
          clear HX hl
          have HX := Lib.hid hx.up1
          clear hx
          go_wp2_with (first | go_skip | ((with_reducible apply wpList_skip); (· rfl); simp only [Act.put, k_a, k_b, k_c]) | (refine sWL ?_; simp only [Act.put, k_a, k_b, k_c, k_d, k_e, k_f, k_g, k_h, NodeS.cells, OpS.cells, ResS.cells]) | (refine sWM ?_; simp only [Act.put, k_a, k_b, k_c]) | ((first | refine sWS ?_ | refine sWT ?_); clear HX; intro w HX; simp only [Act.put, k_a, k_b, k_c, setMany, Nat.reduceAdd, NodeS.cells, OpS.cells, ResS.cells] at HX ⊢) | (refine sWA ?_; clear HX; (first | (have hq := b; clear hq; intro w b2 HX) | intro w b HX); simp only [Act.put, k_a, k_b, k_c]) | ((first | (refine sWN ?_; clear HX; intro w mm HX) | (refine sWP ?_; clear HX; intro w av nv cv HX)); simp only [Act.put, k_a, k_b, k_c]))
          refine (rtremove_any HX.out kk HKK.out.1 (by omega)).mono ?_
          rintro e w ⟨rfl, P3, hP3, hx⟩
          obtain ⟨hk', hkey⟩ := HKK.out
          rw [rem_del (rise_nodup HBI.out.rise) hk', hkey] at hx
          clear HX
          have HX := Lib.hid hx
          have HP3 := Lib.hid hP3
          clear hx hP3 hkey
          obtain ⟨D, hD⟩ := HX.out.up2.fst
          obtain ⟨E, hE, -⟩ := OwnRow.read hD
          have hl := row_load1 (P := Tryz.prog) (ty := 9) (i := i) (v := sv p) hE (by kernel_rfl) (by rw [← HPI.out]; simp [hlt])
          unfold sv at hl
          clear hD hE hk'
          go_wp2_with (first | go_skip | ((with_reducible apply wpList_skip); (· rfl); simp only [Act.put, k_a, k_b, k_c]) | (refine sWL ?_; simp only [Act.put, k_a, k_b, k_c, k_d, k_e, k_f, k_g, k_h, NodeS.cells, OpS.cells, ResS.cells]) | (refine sWM ?_; simp only [Act.put, k_a, k_b, k_c]) | ((first | refine sWS ?_ | refine sWT ?_); clear HX; intro w HX; simp only [Act.put, k_a, k_b, k_c, setMany, Nat.reduceAdd, NodeS.cells, OpS.cells, ResS.cells] at HX ⊢) | (refine sWA ?_; clear HX; (first | (have hq := b; clear hq; intro w b2 HX) | intro w b HX); simp only [Act.put, k_a, k_b, k_c]) | ((first | (refine sWN ?_; clear HX; intro w mm HX) | (refine sWP ?_; clear HX; intro w av nv cv HX)); simp only [Act.put, k_a, k_b, k_c]) | ((with_reducible apply sx_loadAt hl); (· rfl); (· rfl); simp only [Act.put, k_a, k_b, k_c]))
          refine (orphan_any HX.out ⟨p.toArray⟩ (by show p.toArray.size ≤ _; rw [List.size_toArray]; have := HPS.out; omega) (delT_rise HBI.out.rise) (del_ok (HBI.out.ok HB.out.2)) (Nat.le_trans (List.length_filter_le _ _) (by omega))).mono ?_
          rintro e w ⟨rfl, P4, hP4, hx⟩
          clear HX hl
          have HX := Lib.hid hx
          have HP4 := Lib.hid hP4
          clear hx hP4
          go_wp2_with (first | go_skip | ((with_reducible apply wpList_skip); (· rfl); simp only [Act.put, k_a, k_b, k_c]) | (refine sWL ?_; simp only [Act.put, k_a, k_b, k_c, k_d, k_e, k_f, k_g, k_h, NodeS.cells, OpS.cells, ResS.cells]) | (refine sWM ?_; simp only [Act.put, k_a, k_b, k_c]) | ((first | refine sWS ?_ | refine sWT ?_); clear HX; intro w HX; simp only [Act.put, k_a, k_b, k_c, setMany, Nat.reduceAdd, NodeS.cells, OpS.cells, ResS.cells] at HX ⊢) | (refine sWA ?_; clear HX; (first | (have hq := b; clear hq; intro w b2 HX) | intro w b HX); simp only [Act.put, k_a, k_b, k_c]) | ((first | (refine sWN ?_; clear HX; intro w mm HX) | (refine sWP ?_; clear HX; intro w av nv cv HX)); simp only [Act.put, k_a, k_b, k_c]))
          go_roundg (m.length - (i + 1))
          case rel => exact ⟨i + 1, P4, by omega, by go_num, fun q hq => HP4.out q (HP3.out q (HP2.out q hq)), by rw [HTK.out]; exact HX.out⟩
          case measure => omega
    case neg =>
      have q0 : decide (1 ≤ (k : Int)) = true := decide_eq_true (by omega)
      have q0' : decide (1 ≤ k) = true := decide_eq_true (by omega)
      have HST := Lib.hid (show PgIn w0 (.slice a0 l.length c0) l (ThRt b S P :: ThPool w0 P :: R) rows k l.length (.slice a n c) (.int .i64 (0 : Int)) w from ⟨0, a, n, c, by simp, rfl, rfl, by simpa using hS⟩)
      have HK8 := Lib.hid (show 1 ≤ k ∧ k ≤ 8 by omega)
      clear hS
      go_upto_region 7 with fail
      go_loopg [6, 8] l.length (fun k2 v6 v8 wr => PgIn w0 (.slice a0 l.length c0) l (ThRt b S P :: ThPool w0 P :: R) rows k k2 v6 v8 wr)
      case atStart => exact HST.out
      case round =>
        rename World => w
        obtain ⟨i, a, n, c, hik, rfl, rfl, hS⟩ := hrel
        clear HST
        have HX := Lib.hid hS
        clear hS
        by_cases hlt : i < l.length
        case neg =>
          obtain rfl : i = l.length := by omega
          rw [List.take_length, ← pg_step HK8.out.1 HK8.out.2] at HX
          clear hlt hik
          go_wp2_with (first | go_skip | ((with_reducible apply wpList_skip); (· rfl); simp only [Act.put, k_a, k_b, k_c]) | (refine sWL ?_; simp only [Act.put, k_a, k_b, k_c, k_d, k_e, k_f, k_g, k_h, NodeS.cells, OpS.cells, ResS.cells]) | (refine sWM ?_; simp only [Act.put, k_a, k_b, k_c]) | ((first | refine sWS ?_ | refine sWT ?_); clear HX; intro w HX; simp only [Act.put, k_a, k_b, k_c, setMany, Nat.reduceAdd, NodeS.cells, OpS.cells, ResS.cells] at HX ⊢) | (refine sWA ?_; clear HX; (first | (have hq := b; clear hq; intro w b2 HX) | intro w b HX); simp only [Act.put, k_a, k_b, k_c]) | ((first | (refine sWN ?_; clear HX; intro w mm HX) | (refine sWP ?_; clear HX; intro w av nv cv HX)); simp only [Act.put, k_a, k_b, k_c]))
          go_roundg (k - 1)
          case rel => exact ⟨k - 1, a, n, c, rfl, by omega, by congr 1; omega, rfl, HX.out⟩
          case measure => omega
        case pos =>
          obtain ⟨y, hy, hs, -⟩ := HX.out.up1.rowCell (i := i) (x := sv l[i]) (by simp [hlt])
          obtain ⟨g, off, sp⟩ := y
          simp only at hs
          subst hs hy
          obtain ⟨D, hD⟩ := HX.out.up1.fst
          obtain ⟨E, hE, -⟩ := OwnRow.read hD
          have hl := row_load1 (P := Tryz.prog) (ty := 9) (i := i) (v := sv l[i]) hE (by kernel_rfl) (by simp [hlt])
          have HFT := Lib.hid (filter_take_succ (q := fun p => deepP p == k) hlt)
          have hps := HKEY.out _ (List.getElem_mem hlt)
          have HBD := Lib.hid (show ∀ n, ((pgS k l ++ (l.take i).filter fun p => deepP p == k).map sv).length = n * 1 → n + 1 ≤ 140737488355328 ∧ (n + 1) * 16 ≤ 140737488355328 from fun n hn => by
            have h1 := pg_len k l
            have h2 := List.length_filter_le (fun p => deepP p == k) (l.take i)
            have h3 := HSUB.out.2.2
            rw [List.length_map, List.length_append] at hn
            rw [List.length_take] at h2
            omega)
          obtain ⟨p, hp⟩ : ∃ p, l[i] = p := ⟨_, rfl⟩
          rw [hp] at hl HFT hps
          have HPI := Lib.hid hp
          have q1 : decide (i < l.length) = true := decide_eq_true hlt
          have q9 : i ≤ 500 := by have := HSUB.out.2.2; omega
          unfold sv at hl
          clear hD hE hp
          go_wp2_with (first | go_skip | ((with_reducible apply wpList_skip); (· rfl); simp only [Act.put, k_a, k_b, k_c]) | (refine sWL ?_; simp only [Act.put, k_a, k_b, k_c, k_d, k_e, k_f, k_g, k_h, NodeS.cells, OpS.cells, ResS.cells]) | (refine sWM ?_; simp only [Act.put, k_a, k_b, k_c]) | ((first | refine sWS ?_ | refine sWT ?_); clear HX; intro w HX; simp only [Act.put, k_a, k_b, k_c, setMany, Nat.reduceAdd, NodeS.cells, OpS.cells, ResS.cells] at HX ⊢) | (refine sWA ?_; clear HX; (first | (have hq := b; clear hq; intro w b2 HX) | intro w b HX); simp only [Act.put, k_a, k_b, k_c]) | ((first | (refine sWN ?_; clear HX; intro w mm HX) | (refine sWP ?_; clear HX; intro w av nv cv HX)); simp only [Act.put, k_a, k_b, k_c]) | ((with_reducible apply sx_loadAt hl); (· rfl); (· rfl); simp only [Act.put, k_a, k_b, k_c]))
          refine (parts1_any ⟨p.toArray⟩ _ (by show p.toArray.size ≤ _; rw [List.size_toArray]; unfold maxLen; omega)).mono ?_
          rintro e w1 ⟨v, D, rfl, ho, hu⟩
          replace HX := Lib.hid (HX.out.keep hu)
          obtain ⟨a2, n2, c2, rfl, hl2, -⟩ := ho
          rw [List.length_map, Nat.mul_one] at hl2
          have HDP := Lib.hid (show deepP p = n2 from hl2)
          obtain ⟨D, hD⟩ := HX.out.up1.fst
          obtain ⟨E, hE, -⟩ := OwnRow.read hD
          clear hl
          have hl := row_load1 (P := Tryz.prog) (ty := 9) (i := i) (v := sv p) hE (by kernel_rfl) (by rw [← HPI.out]; simp [hlt])
          unfold sv at hl
          clear hD hE hl2 hu
          by_cases hq : n2 = k
          · have q3 : ((n2 : Int) == (k : Int)) = true := by rw [hq]; exact beq_self_eq_true _
            have HQ := Lib.hid hq
            clear hq
            go_wp2_with (first | go_skip | ((with_reducible apply wpList_skip); (· rfl); simp only [Act.put, k_a, k_b, k_c]) | (refine sWL ?_; simp only [Act.put, k_a, k_b, k_c, k_d, k_e, k_f, k_g, k_h, NodeS.cells, OpS.cells, ResS.cells]) | (refine sWM ?_; simp only [Act.put, k_a, k_b, k_c]) | ((first | refine sWS ?_ | refine sWT ?_); clear HX; intro w HX; simp only [Act.put, k_a, k_b, k_c, setMany, Nat.reduceAdd, NodeS.cells, OpS.cells, ResS.cells] at HX ⊢) | (refine sWA ?_; clear HX; (first | (have hq := b; clear hq; intro w b2 HX) | intro w b HX); simp only [Act.put, k_a, k_b, k_c]) | ((first | (refine sWN ?_; clear HX; intro w mm HX) | (refine sWP ?_; clear HX; intro w av nv cv HX)); simp only [Act.put, k_a, k_b, k_c]) | ((with_reducible apply sx_loadAt hl); (· rfl); (· rfl); simp only [Act.put, k_a, k_b, k_c]))
            go_roundg (l.length - (i + 1))
            case rel =>
              have h1 := HX.out.cut1
              refine ⟨i + 1, av, nv, cv, by omega, by go_num, rfl, ?_⟩
              rw [HFT.out, if_pos (by rw [HDP.out, HQ.out]; exact beq_self_eq_true _), ← List.append_assoc, List.map_append]
              exact h1
            case measure => omega
          · have q3 : ((n2 : Int) == (k : Int)) = false := by rw [beq_eq_false_iff_ne]; omega
            have HQ := Lib.hid hq
            clear hq
            go_wp2_with (first | go_skip | ((with_reducible apply wpList_skip); (· rfl); simp only [Act.put, k_a, k_b, k_c]) | (refine sWL ?_; simp only [Act.put, k_a, k_b, k_c, k_d, k_e, k_f, k_g, k_h, NodeS.cells, OpS.cells, ResS.cells]) | (refine sWM ?_; simp only [Act.put, k_a, k_b, k_c]) | ((first | refine sWS ?_ | refine sWT ?_); clear HX; intro w HX; simp only [Act.put, k_a, k_b, k_c, setMany, Nat.reduceAdd, NodeS.cells, OpS.cells, ResS.cells] at HX ⊢) | (refine sWA ?_; clear HX; (first | (have hq := b; clear hq; intro w b2 HX) | intro w b HX); simp only [Act.put, k_a, k_b, k_c]) | ((first | (refine sWN ?_; clear HX; intro w mm HX) | (refine sWP ?_; clear HX; intro w av nv cv HX)); simp only [Act.put, k_a, k_b, k_c]))
            go_roundg (l.length - (i + 1))
            case rel =>
              refine ⟨i + 1, a, n, c, by omega, by go_num, rfl, ?_⟩
              rw [HFT.out, if_neg (by rw [HDP.out, beq_iff_eq]; exact HQ.out), List.append_nil]
              exact HX.out
            case measure => omega
end
end Go.Proofs.YtjeaoopamebgjaaGreatDoor

namespace Go.Av
open Go.RowKit
def GoodK (S : TreeS) : Prop := ∀ k ∈ S.l.map (·.1), goodP k = true
theorem deep_good {p : Bs} (h : goodP p = true) : 1 ≤ deepP p ∧ deepP p ≤ 8 := by
  unfold deepP partsP
  rw [if_pos h]
  cases p with
  | nil => cases h
  | cons c r =>
    unfold goodP at h
    simp only [Bool.and_eq_true, decide_eq_true_eq] at h
    refine ⟨?_, h.2⟩
    have h1 := cutS_ne r
    show 1 ≤ (cutS r).length
    cases hc : cutS r with
    | nil => exact absurd hc h1
    | cons x l => simp
theorem good_new (room : Int) : GoodK ⟨room, []⟩ := fun k hk => by simp at hk
theorem lay_g {S : TreeS} (h : GoodK S) {q : Bs} (hq : goodP q = true) (n : NodeS) : GoodK { S with l := layT q n S.l } := by
  intro k hk
  have hk : k ∈ (layT q n S.l).map (·.1) := hk
  unfold layT at hk
  rw [atUp_keys] at hk
  have h1 := ((insT_perm q n S.l).map (·.1)).mem_iff.1 hk
  rcases List.mem_cons.1 h1 with h1 | h1
  · rw [h1]; exact hq
  · exact h k h1
theorem rem_g {S : TreeS} (h : GoodK S) (q : Bs) : GoodK { S with l := remT q S.l } := by
  intro k hk
  have hk : k ∈ (remT q S.l).map (·.1) := hk
  unfold remT at hk
  rw [atUp_keys, delT_keys] at hk
  exact h k (List.mem_filter.1 hk).1
theorem set_g {S : TreeS} (h : GoodK S) (q : Bs) (n : NodeS) : GoodK { S with l := setT q n S.l } := by
  intro k hk
  have hk : k ∈ (setT q n S.l).map (·.1) := hk
  rw [setT_keys] at hk
  exact h k hk
theorem end_g {S : TreeS} {p : Bs} (h : (endT S p).1 = 0) : (endT S p).2 = p := by
  unfold endT at h ⊢
  split at h
  · cases h
  · rename_i h1
    rw [if_neg h1]
    split at h
    · cases h
    · rename_i h2
      rw [if_neg h2]
theorem place_g {S : TreeS} {o : OpS} (hg : goodP o.p = true) (h : (placeT S o).1 = 0) : goodP (placeT S o).2 = true := by
  obtain ⟨x, hx⟩ : ∃ x, placeT S o = x := ⟨_, rfl⟩
  rw [hx] at h ⊢
  unfold placeT at hx
  split at hx
  · subst hx
    rw [end_g h]; exact hg
  · split at hx
    · subst hx; cases h
    · split at hx
      · subst hx; cases h
      · split at hx
        · split at hx
          · subst hx; cases h
          · rename_i q h5
            subst hx
            rw [end_g h]
            exact (number_parent h5).2
        · subst hx
          rw [end_g h]; exact hg
theorem create_g {S : TreeS} (h : GoodK S) {o : OpS} (hg : goodP o.p = true) (sess zxid : Int) : GoodK (createT S o sess zxid).2 := by
  unfold createT
  split
  · exact h
  · rename_i h1
    exact lay_g h (place_g hg (by simpa using h1)) _
theorem change_g {S : TreeS} (h : GoodK S) (o : OpS) (zxid : Int) : GoodK (changeT S o zxid).2 := by
  unfold changeT
  split
  · exact h
  · split
    · exact h
    · split
      · exact h
      · split
        · exact rem_g h _
        · split
          · exact set_g h _ _
          · exact h
theorem do_g {S : TreeS} (h : GoodK S) (o : OpS) (sess zxid : Int) : GoodK (doT S o sess zxid).2 := by
  unfold doT
  split
  · exact h
  · rename_i h1
    have h1 : goodE o = 0 := by simpa using h1
    split
    · exact h
    · split
      · exact create_g h (formed_ok (goodE_ok h1).1).2.2.1 sess zxid
      · split
        · exact change_g h o zxid
        · exact h
theorem steps_g {sess zxid : Int} : ∀ (l : List OpS) {S : TreeS}, GoodK S → GoodK (stepsT sess zxid l S).2.1
  | [], S, h => h
  | o :: l, S, h => by
    have h1 := do_g h o sess zxid
    unfold stepsT
    split
    · exact h1
    · exact steps_g l h1
theorem many_g {S : TreeS} (h : GoodK S) (sess zxid : Int) (ops : List OpS) : GoodK (manyT S sess zxid ops).2.1 := by
  unfold manyT
  split
  · exact h
  · split
    · exact h
    · split
      · exact h
      · exact steps_g ops h
theorem request_g {S : TreeS} (h : GoodK S) (sess num zxid : Int) (ops : List OpS) : GoodK (requestT S sess num zxid ops).2 := by
  unfold requestT
  split
  · exact h
  · exact many_g h sess zxid ops
theorem pur_g : ∀ (l : List Bs) {S : TreeS}, GoodK S → GoodK (purT l S)
  | [], S, h => h
  | p :: l, S, h => pur_g l (rem_g h p)
theorem of_deep {S : TreeS} (h : GoodK S) (sess : Int) : ∀ p ∈ ofT S sess, 1 ≤ deepP p ∧ deepP p ≤ 8 := fun p hp => by
  obtain ⟨e, he, rfl⟩ := List.mem_map.1 hp
  exact deep_good (h _ (List.mem_map_of_mem (List.mem_filter.1 he).1))
theorem request_b {K : Nat} {S : TreeS} (h : TreeB K S) (sess num zxid : Int) (ops : List OpS) : TreeB (K + 16) (requestT S sess num zxid ops).2 := by
  unfold requestT
  split
  · exact h.mono (by omega)
  · exact many_b h sess zxid ops
theorem many_room (S : TreeS) (sess zxid : Int) (ops : List OpS) : (manyT S sess zxid ops).2.1.room = S.room := by
  unfold manyT
  split
  · rfl
  · split
    · rfl
    · split
      · rfl
      · exact steps_room ops S
theorem request_room (S : TreeS) (sess num zxid : Int) (ops : List OpS) : (requestT S sess num zxid ops).2.room = S.room := by
  unfold requestT
  split
  · rfl
  · exact many_room S sess zxid ops
theorem pur_room : ∀ (l : List Bs) (S : TreeS), (purT l S).room = S.room
  | [], S => rfl
  | p :: l, S => pur_room l _
end Go.Av

namespace Go.Av
open Go.RowKit
instance : Inhabited OpS := ⟨⟨0, ⟨#[]⟩, ⟨#[]⟩, 0, 0⟩⟩
def IsOps (w : World) (a : Option Addr) (len cap : Nat) (l : List OpS) : Prop :=
  l.length = len ∧ len ≤ cap ∧ cap ≤ maxLen ∧ (a = none → cap = 0) ∧
    (∀ x, a = some x → ∀ i, (h : i < l.length) → w.cell? (x.add (i * 5)) = some (.int .i64 l[i].kind) ∧ w.cell? (x.add (i * 5 + 1)) = some (.string l[i].path) ∧ w.cell? (x.add (i * 5 + 2)) = some (.string l[i].data) ∧
      w.cell? (x.add (i * 5 + 3)) = some (.int .i64 l[i].ver) ∧ w.cell? (x.add (i * 5 + 4)) = some (.int .i64 l[i].flags)) ∧ ∀ c ∈ l, c.path.size ≤ maxLen ∧ c.data.size ≤ maxLen
theorem add_twice2 (x : Addr) (i j : Nat) : (x.add i).add j = x.add (i + j) := (Go.Deep.add_add x i j).symm ▸ rfl
theorem IsOps.row {w : World} {a : Option Addr} {len cap : Nat} {l : List OpS} (h : IsOps w a len cap l) : ∃ E, ReadRow w 5 (.slice a len cap) (l.flatMap OpS.cells) E := by
  obtain ⟨h1, h2, h3, h4, h5, h6⟩ := h
  have hlen : (l.flatMap OpS.cells).length = len * 5 := by rw [flatG_len (f := OpS.cells) (K := 5) (fun _ => rfl), h1]
  cases l with
  | nil => exact ⟨[], a, len, cap, rfl, hlen, h2, h3, h4, .inl ⟨rfl, rfl⟩⟩
  | cons o l =>
    cases a with
    | none =>
      have := h4 rfl
      simp at h1
      omega
    | some x =>
      obtain ⟨g0, -⟩ := h5 x rfl 0 (by simp)
      have hs := spotK_of g0
      obtain ⟨bk, off, sp⟩ := x
      rw [Nat.zero_mul] at g0
      have hsp : sp = none := by
        have hz : (⟨bk, off, sp⟩ : Addr).add 0 = ⟨bk, off, sp⟩ := by unfold Addr.add; split <;> simp_all
        rw [hz] at g0
        exact spotK_of g0
      subst hsp
      refine ⟨[bk], _, len, cap, rfl, hlen, h2, h3, h4, .inr ⟨bk, off, rfl, rfl, ?_, fun i v hv => ?_⟩⟩
      · have := World.block_lt_of_cell? w _ g0
        rw [Addr.add_lit] at this
        exact this
      · have hi : i < (o :: l).length * 5 := by
          have := (List.getElem?_eq_some_iff.1 hv).1
          rw [flatG_len (f := OpS.cells) (K := 5) (fun _ => rfl)] at this
          exact this
        have hp : i / 5 < (o :: l).length := by omega
        have hm : i % 5 < 5 := Nat.mod_lt _ (by omega)
        have hat := flatG_at (f := OpS.cells) (K := 5) (fun _ => rfl) (o :: l) hp hm
        rw [show i / 5 * 5 + i % 5 = i by omega, hv] at hat
        obtain ⟨c0, c1, c2, c3, c4⟩ := h5 _ rfl (i / 5) hp
        simp only [Addr.add_lit] at c0 c1 c2 c3 c4
        rcases (show i % 5 = 0 ∨ i % 5 = 1 ∨ i % 5 = 2 ∨ i % 5 = 3 ∨ i % 5 = 4 by omega) with e | e | e | e | e <;> rw [e] at hat <;> simp only [OpS.cells, k_k, k_j, Option.some.injEq] at hat <;> subst hat
        · rw [show off + i = off + i / 5 * 5 by omega]; exact c0
        · rw [show off + i = off + (i / 5 * 5 + 1) by omega]; exact c1
        · rw [show off + i = off + (i / 5 * 5 + 2) by omega]; exact c2
        · rw [show off + i = off + (i / 5 * 5 + 3) by omega]; exact c3
        · rw [show off + i = off + (i / 5 * 5 + 4) by omega]; exact c4
end Go.Av
namespace Go.Proofs.YtjeaoopamebgjaaGreatDoor
open Go.RowKit Go.Av Go.ChangeShapes Go.WideShapes
theorem opCells2 : Tryz.prog.cellsOf 36 = 5 ∧ Tryz.prog.cellsOf 3 = 1 ∧ Tryz.prog.cellsOf 9 = 1 := by
  refine ⟨?_, ?_, ?_⟩ <;> kernel_rfl
set_option maxRecDepth 100000 in
theorem opsj_of {H : Type} {enc : TypeId × Value → H} {w : World} {base : Nat} {held : Bool} {fuel : Nat} {a : Option Addr} {len cap : Nat} {x : DataW H × List MemPlace}
    (h : DataW.trod enc Tryz.prog w base (fun _ => true) held fuel 22 [.slice a len cap] = some x) : ∃ l, IsOps w a len cap l := by
  obtain ⟨c1, c2, c3⟩ := opCells2
  rcases Deep.open_slice Tryz.underlying22 h with ⟨hcs, _⟩ | ⟨x, l, c, m, n, D, Pl, hcs, hb, hl, hm, hmm, hx, hi⟩
  · cases hcs
    exact ⟨[], rfl, Nat.le_refl _, by decide, fun _ => rfl, by simp, by simp⟩
  · cases hcs
    rw [c1] at hi
    have each : ∀ i, i < len → ∃ q : OpS, (w.cell? (x.add (i * 5)) = some (.int .i64 q.kind) ∧ w.cell? (x.add (i * 5 + 1)) = some (.string q.path) ∧ w.cell? (x.add (i * 5 + 2)) = some (.string q.data) ∧
        w.cell? (x.add (i * 5 + 3)) = some (.int .i64 q.ver) ∧ w.cell? (x.add (i * 5 + 4)) = some (.int .i64 q.flags)) ∧ q.path.size ≤ maxLen ∧ q.data.size ≤ maxLen := by
      intro i hil
      obtain ⟨cs', hc, ht⟩ := hi i (by rw [hmm]; split <;> omega)
      obtain ⟨_, hcl, hat⟩ := World.cells?_some hc
      obtain ⟨ys, n', -, -, -, hyl, hf⟩ := DataW.trod_struct Tryz.underlying36 ht
      match cs', hcl with
      | [k0, k1, k2, k3, k4], _ =>
        have f0 : DataW.trod enc Tryz.prog w base (fun _ => true) held n' 3 (List.take (Tryz.prog.cellsOf 3) (List.drop 0 [k0, k1, k2, k3, k4])) = ys[0]? := hf 0 _ rfl
        have f1 : DataW.trod enc Tryz.prog w base (fun _ => true) held n' 9 (List.take (Tryz.prog.cellsOf 9) (List.drop 1 [k0, k1, k2, k3, k4])) = ys[1]? := hf 1 _ rfl
        have f2 : DataW.trod enc Tryz.prog w base (fun _ => true) held n' 9 (List.take (Tryz.prog.cellsOf 9) (List.drop 2 [k0, k1, k2, k3, k4])) = ys[2]? := hf 2 _ rfl
        have f3 : DataW.trod enc Tryz.prog w base (fun _ => true) held n' 3 (List.take (Tryz.prog.cellsOf 3) (List.drop 3 [k0, k1, k2, k3, k4])) = ys[3]? := hf 3 _ rfl
        have f4 : DataW.trod enc Tryz.prog w base (fun _ => true) held n' 3 (List.take (Tryz.prog.cellsOf 3) (List.drop 4 [k0, k1, k2, k3, k4])) = ys[4]? := hf 4 _ rfl
        rw [c2] at f0 f3 f4
        rw [c3] at f1 f2
        have hy : ∀ j, j < 5 → ∃ y, ys[j]? = some y := fun j hj => ⟨ys[j]'(by rw [hyl]; exact hj), List.getElem?_eq_getElem _⟩
        obtain ⟨y0, e0⟩ := hy 0 (by omega)
        obtain ⟨y1, e1⟩ := hy 1 (by omega)
        obtain ⟨y2, e2⟩ := hy 2 (by omega)
        obtain ⟨y3, e3⟩ := hy 3 (by omega)
        obtain ⟨y4, e4⟩ := hy 4 (by omega)
        obtain ⟨n0, g0, -, -⟩ := DataW.trod_int Tryz.underlying3 (f0.trans e0)
        obtain ⟨n1, g1, -, w1⟩ := DataW.trod_string Tryz.underlying9 (f1.trans e1)
        obtain ⟨n2, g2, -, w2⟩ := DataW.trod_string Tryz.underlying9 (f2.trans e2)
        obtain ⟨n3, g3, -, -⟩ := DataW.trod_int Tryz.underlying3 (f3.trans e3)
        obtain ⟨n4, g4, -, -⟩ := DataW.trod_int Tryz.underlying3 (f4.trans e4)
        simp at g0 g1 g2 g3 g4
        subst g0 g1 g2 g3 g4
        refine ⟨⟨n0, n1, n2, n3, n4⟩, ⟨?_, ?_, ?_, ?_, ?_⟩, w1, w2⟩
        · have := hat 0 (by omega); rw [add_twice2] at this; exact this
        · have := hat 1 (by omega); rw [add_twice2] at this; exact this
        · have := hat 2 (by omega); rw [add_twice2] at this; exact this
        · have := hat 3 (by omega); rw [add_twice2] at this; exact this
        · have := hat 4 (by omega); rw [add_twice2] at this; exact this
    obtain ⟨y, hy⟩ := Deep.choose_lt each
    refine ⟨(List.range len).map y, by simp, hl, hm, by simp, ?_, ?_⟩
    · intro x' hx' i hi'
      cases hx'
      simp at hi'
      simpa using (hy i hi').1
    · intro q hq
      obtain ⟨i, hi', rfl⟩ := List.mem_map.1 hq
      exact (hy i (List.mem_range.1 hi')).2
end Go.Proofs.YtjeaoopamebgjaaGreatDoor

namespace Go.Av
open Go.RowKit
structure MAct where
  op : Int
  sess : Int
  zxid : Int
  num : Int
  v : Value
  ops : List OpS
def MAct.cells (a : MAct) : List Value := [.int .i64 a.op, .int .i64 a.sess, .int .i64 a.zxid, .int .i64 a.num, a.v]
instance : Inhabited MAct := ⟨⟨0, 0, 0, 0, .bool false, []⟩⟩
def IsMActs (w : World) (a : Option Addr) (len cap : Nat) (l : List MAct) : Prop :=
  l.length = len ∧ len ≤ cap ∧ cap ≤ maxLen ∧ (a = none → cap = 0) ∧
    (∀ x, a = some x → ∀ i, (h : i < l.length) → w.cell? (x.add (i * 5)) = some (.int .i64 l[i].op) ∧ w.cell? (x.add (i * 5 + 1)) = some (.int .i64 l[i].sess) ∧ w.cell? (x.add (i * 5 + 2)) = some (.int .i64 l[i].zxid) ∧
      w.cell? (x.add (i * 5 + 3)) = some (.int .i64 l[i].num) ∧ w.cell? (x.add (i * 5 + 4)) = some l[i].v) ∧ ∀ c ∈ l, ∃ E, ReadRow w 5 c.v (c.ops.flatMap OpS.cells) E
theorem IsMActs.row {w : World} {a : Option Addr} {len cap : Nat} {l : List MAct} (h : IsMActs w a len cap l) : ∃ E, ReadRow w 5 (.slice a len cap) (l.flatMap MAct.cells) E := by
  obtain ⟨h1, h2, h3, h4, h5, h6⟩ := h
  have hlen : (l.flatMap MAct.cells).length = len * 5 := by rw [flatG_len (f := MAct.cells) (K := 5) (fun _ => rfl), h1]
  cases l with
  | nil => exact ⟨[], a, len, cap, rfl, hlen, h2, h3, h4, .inl ⟨rfl, rfl⟩⟩
  | cons o l =>
    cases a with
    | none =>
      have := h4 rfl
      simp at h1
      omega
    | some x =>
      obtain ⟨g0, -⟩ := h5 x rfl 0 (by simp)
      have hs := spotK_of g0
      obtain ⟨bk, off, sp⟩ := x
      rw [Nat.zero_mul] at g0
      have hsp : sp = none := by
        have hz : (⟨bk, off, sp⟩ : Addr).add 0 = ⟨bk, off, sp⟩ := by unfold Addr.add; split <;> simp_all
        rw [hz] at g0
        exact spotK_of g0
      subst hsp
      refine ⟨[bk], _, len, cap, rfl, hlen, h2, h3, h4, .inr ⟨bk, off, rfl, rfl, ?_, fun i v hv => ?_⟩⟩
      · have := World.block_lt_of_cell? w _ g0
        rw [Addr.add_lit] at this
        exact this
      · have hi : i < (o :: l).length * 5 := by
          have := (List.getElem?_eq_some_iff.1 hv).1
          rw [flatG_len (f := MAct.cells) (K := 5) (fun _ => rfl)] at this
          exact this
        have hp : i / 5 < (o :: l).length := by omega
        have hm : i % 5 < 5 := Nat.mod_lt _ (by omega)
        have hat := flatG_at (f := MAct.cells) (K := 5) (fun _ => rfl) (o :: l) hp hm
        rw [show i / 5 * 5 + i % 5 = i by omega, hv] at hat
        obtain ⟨c0, c1, c2, c3, c4⟩ := h5 _ rfl (i / 5) hp
        simp only [Addr.add_lit] at c0 c1 c2 c3 c4
        rcases (show i % 5 = 0 ∨ i % 5 = 1 ∨ i % 5 = 2 ∨ i % 5 = 3 ∨ i % 5 = 4 by omega) with e | e | e | e | e <;> rw [e] at hat <;> simp only [MAct.cells, k_k, k_j, Option.some.injEq] at hat <;> subst hat
        · rw [show off + i = off + i / 5 * 5 by omega]; exact c0
        · rw [show off + i = off + (i / 5 * 5 + 1) by omega]; exact c1
        · rw [show off + i = off + (i / 5 * 5 + 2) by omega]; exact c2
        · rw [show off + i = off + (i / 5 * 5 + 3) by omega]; exact c3
        · rw [show off + i = off + (i / 5 * 5 + 4) by omega]; exact c4
theorem mact_len (a : MAct) : a.cells.length = 5 := rfl
end Go.Av
namespace Go.Proofs.YtjeaoopamebgjaaGreatDoor
open Go.RowKit Go.Av Go.ChangeShapes Go.WideShapes
theorem mactCells : Tryz.prog.cellsOf 57 = 5 ∧ Tryz.prog.cellsOf 3 = 1 ∧ Tryz.prog.cellsOf 2 = 1 ∧ Tryz.prog.cellsOf 22 = 1 := by
  refine ⟨?_, ?_, ?_, ?_⟩ <;> kernel_rfl
theorem opsrow_of {H : Type} {enc : TypeId × Value → H} {w : World} {base : Nat} {held : Bool} {fuel : Nat} {c : Value} {x : DataW H × List MemPlace}
    (h : DataW.trod enc Tryz.prog w base (fun _ => true) held fuel 22 [c] = some x) : ∃ (l : List OpS) (E : List Nat), ReadRow w 5 c (l.flatMap OpS.cells) E := by
  have hs : ∃ a n m, c = .slice a n m := by
    rcases Deep.open_slice Tryz.underlying22 h with ⟨hcs, _⟩ | ⟨x, l, c', m, n, D, Pl, hcs, _⟩
    · cases hcs
      exact ⟨_, _, _, rfl⟩
    · cases hcs
      exact ⟨_, _, _, rfl⟩
  obtain ⟨a, n, m, rfl⟩ := hs
  obtain ⟨l, hl⟩ := opsj_of h
  obtain ⟨E, hE⟩ := hl.row
  exact ⟨l, E, hE⟩
set_option maxRecDepth 100000 in
theorem macts_of {H : Type} {enc : TypeId × Value → H} {w : World} {base : Nat} {held : Bool} {fuel : Nat} {a : Option Addr} {len cap : Nat} {x : DataW H × List MemPlace}
    (h : DataW.trod enc Tryz.prog w base (fun _ => true) held fuel 55 [.slice a len cap] = some x) : ∃ l, IsMActs w a len cap l := by
  obtain ⟨c1, c2, c3, c4⟩ := mactCells
  rcases Deep.open_slice Tryz.underlying55 h with ⟨hcs, _⟩ | ⟨x, l, c, m, n, D, Pl, hcs, hb, hl, hm, hmm, hx, hi⟩
  · cases hcs
    exact ⟨[], rfl, Nat.le_refl _, by decide, fun _ => rfl, by simp, by simp⟩
  · cases hcs
    rw [c1] at hi
    have each : ∀ i, i < len → ∃ q : MAct, (w.cell? (x.add (i * 5)) = some (.int .i64 q.op) ∧ w.cell? (x.add (i * 5 + 1)) = some (.int .i64 q.sess) ∧ w.cell? (x.add (i * 5 + 2)) = some (.int .i64 q.zxid) ∧
        w.cell? (x.add (i * 5 + 3)) = some (.int .i64 q.num) ∧ w.cell? (x.add (i * 5 + 4)) = some q.v) ∧ ∃ E, ReadRow w 5 q.v (q.ops.flatMap OpS.cells) E := by
      intro i hil
      obtain ⟨cs', hc, ht⟩ := hi i (by rw [hmm]; split <;> omega)
      obtain ⟨_, hcl, hat⟩ := World.cells?_some hc
      obtain ⟨ys, n', -, -, -, hyl, hf⟩ := DataW.trod_struct Tryz.underlying57 ht
      match cs', hcl with
      | [k0, k1, k2, k3, k4], _ =>
        have f0 : DataW.trod enc Tryz.prog w base (fun _ => true) held n' 3 (List.take (Tryz.prog.cellsOf 3) (List.drop 0 [k0, k1, k2, k3, k4])) = ys[0]? := hf 0 _ rfl
        have f1 : DataW.trod enc Tryz.prog w base (fun _ => true) held n' 2 (List.take (Tryz.prog.cellsOf 2) (List.drop 1 [k0, k1, k2, k3, k4])) = ys[1]? := hf 1 _ rfl
        have f2 : DataW.trod enc Tryz.prog w base (fun _ => true) held n' 2 (List.take (Tryz.prog.cellsOf 2) (List.drop 2 [k0, k1, k2, k3, k4])) = ys[2]? := hf 2 _ rfl
        have f3 : DataW.trod enc Tryz.prog w base (fun _ => true) held n' 2 (List.take (Tryz.prog.cellsOf 2) (List.drop 3 [k0, k1, k2, k3, k4])) = ys[3]? := hf 3 _ rfl
        have f4 : DataW.trod enc Tryz.prog w base (fun _ => true) held n' 22 (List.take (Tryz.prog.cellsOf 22) (List.drop 4 [k0, k1, k2, k3, k4])) = ys[4]? := hf 4 _ rfl
        rw [c2] at f0
        rw [c3] at f1 f2 f3
        rw [c4] at f4
        have hy : ∀ j, j < 5 → ∃ y, ys[j]? = some y := fun j hj => ⟨ys[j]'(by rw [hyl]; exact hj), List.getElem?_eq_getElem _⟩
        obtain ⟨y0, e0⟩ := hy 0 (by omega)
        obtain ⟨y1, e1⟩ := hy 1 (by omega)
        obtain ⟨y2, e2⟩ := hy 2 (by omega)
        obtain ⟨y3, e3⟩ := hy 3 (by omega)
        obtain ⟨y4, e4⟩ := hy 4 (by omega)
        obtain ⟨n0, g0, -, -⟩ := DataW.trod_int Tryz.underlying3 (f0.trans e0)
        obtain ⟨n1, g1, -, -⟩ := DataW.trod_int Tryz.underlying2 (f1.trans e1)
        obtain ⟨n2, g2, -, -⟩ := DataW.trod_int Tryz.underlying2 (f2.trans e2)
        obtain ⟨n3, g3, -, -⟩ := DataW.trod_int Tryz.underlying2 (f3.trans e3)
        have g4 : DataW.trod enc Tryz.prog w base (fun _ => true) held n' 22 [k4] = some y4 := f4.trans e4
        obtain ⟨ops, E, hE⟩ := opsrow_of g4
        simp at g0 g1 g2 g3
        subst g0 g1 g2 g3
        refine ⟨⟨n0, n1, n2, n3, k4, ops⟩, ⟨?_, ?_, ?_, ?_, ?_⟩, E, hE⟩
        · have := hat 0 (by omega); rw [add_twice2] at this; exact this
        · have := hat 1 (by omega); rw [add_twice2] at this; exact this
        · have := hat 2 (by omega); rw [add_twice2] at this; exact this
        · have := hat 3 (by omega); rw [add_twice2] at this; exact this
        · have := hat 4 (by omega); rw [add_twice2] at this; exact this
    obtain ⟨y, hy⟩ := Deep.choose_lt each
    refine ⟨(List.range len).map y, by simp, hl, hm, by simp, ?_, ?_⟩
    · intro x' hx' i hi'
      cases hx'
      simp at hi'
      simpa using (hy i hi').1
    · intro q hq
      obtain ⟨i, hi', rfl⟩ := List.mem_map.1 hq
      exact (hy i (List.mem_range.1 hi')).2
end Go.Proofs.YtjeaoopamebgjaaGreatDoor

namespace Go.Proofs.YtjeaoopamebgjaaGreatDoor
open Go.RowKit Go.Av
section
variable {w0 w : World} {P P' : List PRow} {R : List Thing} {rows : List (Value × Bs)}
set_option maxRecDepth 100000 in
set_option maxHeartbeats 2000000 in
theorem one_any (h : Sep w0 w (ThPool w0 P :: R) rows) (r : ResS) (va vb : Value) (ha : (1, va, r.names.map sv) ∈ P) (hb : (1, vb, r.names.map sv) ∈ P) :
    Calls Tryz.prog 17 #[.agg (r.cells va), .agg (r.cells vb)] w fun e w' => e = .returned (.bool true) ∧ Sep w0 w' (ThPool w0 P :: R) rows := by
  obtain ⟨E, hE⟩ := h.poolGet ha
  obtain ⟨a1, n1, c1, rfl, -⟩ := ReadRow.some hE
  obtain ⟨E2, hE2⟩ := h.poolGet hb
  obtain ⟨a2, n2, c2, rfl, -⟩ := ReadRow.some hE2
  have HA := Lib.hid ha
  have HB := Lib.hid hb
  have HX := Lib.hid h
  have hq := beq_self_str r.data
  have hq2 : (r.data.toList == r.data.toList) = true := by simp
  have hq3 := beq_self_str r.path
  have hq4 : (r.path.toList == r.path.toList) = true := by simp
  clear h ha hb hE hE2
  unfold ResS.cells
  go_enter Tryz.func17, Tryz.ntmps17
  go_wp2_with (first | (refine sWL ?_; simp only [Act.put, k_a, k_b, k_c, k_d, k_e, k_f, k_g, k_h, NodeS.cells, OpS.cells, ResS.cells]) | (refine sWM ?_; simp only [Act.put, k_a, k_b, k_c]) | ((first | refine sWS ?_ | refine sWT ?_); clear HX; intro w HX; simp only [Act.put, k_a, k_b, k_c, setMany, Nat.reduceAdd, NodeS.cells, OpS.cells, ResS.cells] at HX ⊢) | (refine sWA ?_; clear HX; (first | (have hq := b; clear hq; intro w b2 HX) | intro w b HX); simp only [Act.put, k_a, k_b, k_c]) | ((first | (refine sWN ?_; clear HX; intro w mm HX) | (refine sWP ?_; clear HX; intro w av nv cv HX)); simp only [Act.put, k_a, k_b, k_c]))
  refine (sames_any HX.out.up2 _ _ r.names HA.out HB.out).mono ?_
  rintro e w ⟨rfl, hx⟩
  clear HX
  have HX := Lib.hid hx
  clear hx
  go_wp2_with (first | (refine sWL ?_; simp only [Act.put, k_a, k_b, k_c, k_d, k_e, k_f, k_g, k_h, NodeS.cells, OpS.cells, ResS.cells]) | (refine sWM ?_; simp only [Act.put, k_a, k_b, k_c]) | ((first | refine sWS ?_ | refine sWT ?_); clear HX; intro w HX; simp only [Act.put, k_a, k_b, k_c, setMany, Nat.reduceAdd, NodeS.cells, OpS.cells, ResS.cells] at HX ⊢) | (refine sWA ?_; clear HX; (first | (have hq := b; clear hq; intro w b2 HX) | intro w b HX); simp only [Act.put, k_a, k_b, k_c]) | ((first | (refine sWN ?_; clear HX; intro w mm HX) | (refine sWP ?_; clear HX; intro w av nv cv HX)); simp only [Act.put, k_a, k_b, k_c]))
  go_ret
  exact ⟨rfl, HX.out.cut1.cut1⟩
theorem long_len {l : List OpS} (h : longS l = false) : l.length ≤ 20 ∧ ∀ o ∈ l, o.path.size ≤ 300 := by
  unfold longS at h
  rw [Bool.or_eq_false_iff] at h
  refine ⟨by have := of_decide_eq_false h.1; omega, fun o ho => ?_⟩
  have := List.any_eq_false.1 h.2 o ho
  simp at this
  omega
end
end Go.Proofs.YtjeaoopamebgjaaGreatDoor

namespace Go.Proofs.YtjeaoopamebgjaaGreatDoor
open Go.RowKit Go.Av
section
variable {w0 w : World} {P P' : List PRow} {R : List Thing} {rows : List (Value × Bs)}
set_option maxRecDepth 100000 in
set_option maxHeartbeats 4000000 in
theorem all_any (h : Sep w0 w (ThPool w0 P :: R) rows) (rs : List ResS) (va vb : Value) (xa xb : List Value) (ha : (11, va, xa) ∈ P) (hb : (11, vb, xb) ∈ P) (ra : ResL P rs xa) (rb : ResL P rs xb) (hn : rs.length ≤ 100000) :
    Calls Tryz.prog 47 #[va, vb] w fun e w' => e = .returned (.bool true) ∧ Sep w0 w' (ThPool w0 P :: R) rows := by
  obtain ⟨E, hE⟩ := h.poolGet ha
  obtain ⟨a1, n1, c1, rfl, hl1, -, -, he1⟩ := ReadRow.some hE
  obtain ⟨E2, hE2⟩ := h.poolGet hb
  obtain ⟨a2, n2, c2, rfl, hl2, -, -, he2⟩ := ReadRow.some hE2
  rw [ra.len] at hl1
  rw [rb.len] at hl2
  obtain rfl : rs.length = n1 := by omega
  obtain rfl : rs.length = n2 := by omega
  have HA := Lib.hid (show _ ∧ _ from ⟨ha, ra⟩)
  have HB := Lib.hid (show _ ∧ _ from ⟨hb, rb⟩)
  have HE1 := Lib.hid he1
  have HE2 := Lib.hid he2
  have HX := Lib.hid h
  have q5 : (((rs.length : Nat) : Int) != ((rs.length : Nat) : Int)) = false := by simp
  clear h ha hb ra rb hE hE2 he1 he2 hl1 hl2
  go_enter Tryz.func47, Tryz.ntmps47
  go_wp2_with (first | (refine sWL ?_; simp only [Act.put, k_a, k_b, k_c, k_d, k_e, k_f, k_g, k_h, NodeS.cells, OpS.cells, ResS.cells]) | (refine sWM ?_; simp only [Act.put, k_a, k_b, k_c]) | ((first | refine sWS ?_ | refine sWT ?_); clear HX; intro w HX; simp only [Act.put, k_a, k_b, k_c, setMany, Nat.reduceAdd, NodeS.cells, OpS.cells, ResS.cells] at HX ⊢) | (refine sWA ?_; clear HX; (first | (have hq := b; clear hq; intro w b2 HX) | intro w b HX); simp only [Act.put, k_a, k_b, k_c]) | ((first | (refine sWN ?_; clear HX; intro w mm HX) | (refine sWP ?_; clear HX; intro w av nv cv HX)); simp only [Act.put, k_a, k_b, k_c]))
  go_loopg [5] rs.length (fun k v wr => ∃ i : Nat, i + k = rs.length ∧ v = .int .i64 (i : Int) ∧ Sep w0 wr (ThPool w0 P :: R) rows)
  case atStart => exact ⟨0, by simp, rfl, HX.out⟩
  case round =>
    rename World => w
    obtain ⟨i, hik, rfl, hS⟩ := hrel
    clear HX
    have HX := Lib.hid hS
    clear hS
    by_cases hlt : i < rs.length
    case neg =>
      obtain rfl : i = rs.length := by omega
      clear hlt hik
      go_wp2_with (first | (refine sWL ?_; simp only [Act.put, k_a, k_b, k_c, k_d, k_e, k_f, k_g, k_h, NodeS.cells, OpS.cells, ResS.cells]) | (refine sWM ?_; simp only [Act.put, k_a, k_b, k_c]) | ((first | refine sWS ?_ | refine sWT ?_); clear HX; intro w HX; simp only [Act.put, k_a, k_b, k_c, setMany, Nat.reduceAdd, NodeS.cells, OpS.cells, ResS.cells] at HX ⊢) | (refine sWA ?_; clear HX; (first | (have hq := b; clear hq; intro w b2 HX) | intro w b HX); simp only [Act.put, k_a, k_b, k_c]) | ((first | (refine sWN ?_; clear HX; intro w mm HX) | (refine sWP ?_; clear HX; intro w av nv cv HX)); simp only [Act.put, k_a, k_b, k_c]))
      go_ret
      exact ⟨rfl, HX.out⟩
    case pos =>
      obtain ⟨nv1, m1, k1⟩ := HA.out.2.at hlt
      obtain ⟨nv2, m2, k2⟩ := HB.out.2.at hlt
      obtain ⟨r, hr⟩ : ∃ r, rs[i] = r := ⟨_, rfl⟩
      rw [hr] at m1 k1 m2 k2
      obtain ⟨g1, o1, rfl⟩ := HE1.out (by intro e; have e : xa = [] := e; have := k1 0 _ rfl; rw [e] at this; cases this)
      obtain ⟨g2, o2, rfl⟩ := HE2.out (by intro e; have e : xb = [] := e; have := k2 0 _ rfl; rw [e] at this; cases this)
      have HK := Lib.hid (show _ ∧ _ ∧ _ ∧ _ from ⟨m1, k1, m2, k2⟩)
      have q0 : decide (i < rs.length) = true := decide_eq_true hlt
      have q9 : (i < rs.length) = True := eq_true hlt
      clear m1 k1 m2 k2 hr
      go_wp2_with (first | (refine sWL ?_; simp only [Act.put, k_a, k_b, k_c, k_d, k_e, k_f, k_g, k_h, NodeS.cells, OpS.cells, ResS.cells]) | (refine sWM ?_; simp only [Act.put, k_a, k_b, k_c]) | ((first | refine sWS ?_ | refine sWT ?_); clear HX; intro w HX; simp only [Act.put, k_a, k_b, k_c, setMany, Nat.reduceAdd, NodeS.cells, OpS.cells, ResS.cells] at HX ⊢) | (refine sWA ?_; clear HX; (first | (have hq := b; clear hq; intro w b2 HX) | intro w b HX); simp only [Act.put, k_a, k_b, k_c]) | ((first | (refine sWN ?_; clear HX; intro w mm HX) | (refine sWP ?_; clear HX; intro w av nv cv HX)); simp only [Act.put, k_a, k_b, k_c]))
      refine wp_region_M (fun W => Sep w0 W (ThPool w0 P :: R) rows) 10 (by kernel_rfl) ?_
      have KEEPX : ∀ W, Sep w0 W (ThPool w0 P :: R) rows → Sep w0 W (ThPool w0 P :: R) rows := fun _ h => h
      have hl : ∀ V, Sep w0 V (ThPool w0 P :: R) rows → (Instr.loadAt 33 (.pointer (some ⟨g1, o1 + i * 11, none⟩))).run Tryz.prog V = .ok (.agg (r.cells nv1)) V := fun V hV => by
        obtain ⟨E, hE⟩ := Sep.poolGet hV HA.out.1
        exact row_part (f := 0) hE sn_res rfl (by simp [ResS.cells]) HK.out.2.1
      have hl2 : ∀ V, Sep w0 V (ThPool w0 P :: R) rows → (Instr.loadAt 33 (.pointer (some ⟨g2, o2 + i * 11, none⟩))).run Tryz.prog V = .ok (.agg (r.cells nv2)) V := fun V hV => by
        obtain ⟨E, hE⟩ := Sep.poolGet hV HB.out.1
        exact row_part (f := 0) hE sn_res rfl (by simp [ResS.cells]) HK.out.2.2.2
      replace HX := Lib.hid HX.out.drew
      refine wpAnyM_take (by kernel_rfl) (by intro c a d v w h; cases d <;> exact h) [(0, false), (1, false), (2, false), (3, true), (4, false), (5, false), (6, false), (7, true)] (fuel := 2) (by kernel_rfl) ?_
      apply Exists.intro; refine ⟨?_, HX.out, ?_⟩
      · iterate 8 (first | refine yE ?_ | ((first | apply yieldP | apply yieldL); (· (simp only [k_i, k_j, k_k]; try rfl)); (· rfl); (· (intros; go_simp; (try simp only [q9, ↓reduceIte, and_self, Int.toNat_natCast]); try with_reducible rfl)); (· (simp only [Act.put, k_a, k_b, k_c, k_d, k_e, k_f, k_g, k_h, NodeS.cells, OpS.cells, ResS.cells]; try rfl))))
        exact rfl
      clear hl hl2
      refine wpAnyM_one (fuel := 1) (i := 8) (by kernel_rfl) (by (simp only [k_i, k_j, k_k]; try rfl)) (fun K hK => ?_)
      go_wp2_with fail
      refine (one_any HX.out r nv1 nv2 HK.out.1 HK.out.2.2.1).mono ?_
      rintro e w ⟨rfl, hx⟩
      clear HX
      have HX := Lib.hid hx
      clear hx
      go_wp2_with fail
      refine hK _ _ HX.out ?_
      clear hK
      refine wpAnyM_take (by kernel_rfl) (by intro c a d v w h; cases d <;> exact h) [(9, false)] (fuel := 0) (by kernel_rfl) ?_
      apply Exists.intro; refine ⟨?_, HX.out, ?_⟩
      · iterate 1 (first | refine yE ?_ | ((first | apply yieldP | apply yieldL); (· (simp only [k_i, k_j, k_k]; try rfl)); (· rfl); (· (intros; go_simp; (try simp only [q9, ↓reduceIte, and_self, Int.toNat_natCast]); try with_reducible rfl)); (· (simp only [Act.put, k_a, k_b, k_c, k_d, k_e, k_f, k_g, k_h, NodeS.cells, OpS.cells, ResS.cells]; try rfl))))
        exact rfl
      refine wpAnyM_done (by kernel_rfl) ?_ _
      go_wp2_with (first | (refine sWL ?_; simp only [Act.put, k_a, k_b, k_c, k_d, k_e, k_f, k_g, k_h, NodeS.cells, OpS.cells, ResS.cells]) | (refine sWM ?_; simp only [Act.put, k_a, k_b, k_c]) | ((first | refine sWS ?_ | refine sWT ?_); clear HX; intro w HX; simp only [Act.put, k_a, k_b, k_c, setMany, Nat.reduceAdd, NodeS.cells, OpS.cells, ResS.cells] at HX ⊢) | (refine sWA ?_; clear HX; (first | (have hq := b; clear hq; intro w b2 HX) | intro w b HX); simp only [Act.put, k_a, k_b, k_c]) | ((first | (refine sWN ?_; clear HX; intro w mm HX) | (refine sWP ?_; clear HX; intro w av nv cv HX)); simp only [Act.put, k_a, k_b, k_c]))
      go_roundg (rs.length - (i + 1))
      case rel => exact ⟨i + 1, by omega, by go_num, HX.out⟩
      case measure => omega
set_option maxRecDepth 100000 in
set_option maxHeartbeats 4000000 in
theorem samereply_any (h : Sep w0 w (ThPool w0 P :: R) rows) (m : ReplyS) (va vb : Value) (ha : ReplyIn P m va) (hb : ReplyIn P m vb) (hn : m.rs.length ≤ 100000) :
    Calls Tryz.prog 27 #[va, vb] w fun e w' => e = .returned (.bool true) ∧ Sep w0 w' (ThPool w0 P :: R) rows := by
  obtain ⟨a1, n1, c1, x1, rfl, r1, m1⟩ := ha
  obtain ⟨a2, n2, c2, x2, rfl, r2, m2⟩ := hb
  have HX := Lib.hid h
  have HA := Lib.hid (show _ ∧ _ ∧ _ ∧ _ from ⟨r1, m1, r2, m2⟩)
  clear h r1 m1 r2 m2
  go_enter Tryz.func27, Tryz.ntmps27
  go_wp2_with (first | (refine sWL ?_; simp only [Act.put, k_a, k_b, k_c, k_d, k_e, k_f, k_g, k_h, NodeS.cells, OpS.cells, ResS.cells]) | (refine sWM ?_; simp only [Act.put, k_a, k_b, k_c]) | ((first | refine sWS ?_ | refine sWT ?_); clear HX; intro w HX; simp only [Act.put, k_a, k_b, k_c, setMany, Nat.reduceAdd, NodeS.cells, OpS.cells, ResS.cells] at HX ⊢) | (refine sWA ?_; clear HX; (first | (have hq := b; clear hq; intro w b2 HX) | intro w b HX); simp only [Act.put, k_a, k_b, k_c]) | ((first | (refine sWN ?_; clear HX; intro w mm HX) | (refine sWP ?_; clear HX; intro w av nv cv HX)); simp only [Act.put, k_a, k_b, k_c]))
  refine (all_any HX.out.up2 m.rs _ _ x1 x2 HA.out.2.1 HA.out.2.2.2 HA.out.1 HA.out.2.2.1 hn).mono ?_
  rintro e w ⟨rfl, hx⟩
  clear HX
  have HX := Lib.hid hx
  clear hx
  go_wp2_with (first | (refine sWL ?_; simp only [Act.put, k_a, k_b, k_c, k_d, k_e, k_f, k_g, k_h, NodeS.cells, OpS.cells, ResS.cells]) | (refine sWM ?_; simp only [Act.put, k_a, k_b, k_c]) | ((first | refine sWS ?_ | refine sWT ?_); clear HX; intro w HX; simp only [Act.put, k_a, k_b, k_c, setMany, Nat.reduceAdd, NodeS.cells, OpS.cells, ResS.cells] at HX ⊢) | (refine sWA ?_; clear HX; (first | (have hq := b; clear hq; intro w b2 HX) | intro w b HX); simp only [Act.put, k_a, k_b, k_c]) | ((first | (refine sWN ?_; clear HX; intro w mm HX) | (refine sWP ?_; clear HX; intro w av nv cv HX)); simp only [Act.put, k_a, k_b, k_c]))
  go_ret
  exact ⟨rfl, HX.out.cut1.cut1⟩
end
end Go.Proofs.YtjeaoopamebgjaaGreatDoor

namespace Go.Av
def mactT (S : TreeS) (a : MAct) : TreeS := if a.op = 0 then (manyT S a.sess a.zxid a.ops).2.1 else if a.op = 1 then (requestT S a.sess a.num a.zxid a.ops).2 else purT (purgeS (ofT S a.sess)) S
def mplT (l : List MAct) (S : TreeS) : TreeS := l.foldl mactT S
theorem mact0 (S : TreeS) (b c d : Int) (v : Value) (l : List OpS) : mactT S ⟨0, b, c, d, v, l⟩ = (manyT S b c l).2.1 := if_pos rfl
theorem mact1 (S : TreeS) (b c d : Int) (v : Value) (l : List OpS) : mactT S ⟨1, b, c, d, v, l⟩ = (requestT S b d c l).2 := (if_neg (show ¬ (1 : Int) = 0 by decide)).trans (if_pos rfl)
theorem mact2 (S : TreeS) (a b c d : Int) (v : Value) (l : List OpS) (h0 : ¬ a = 0) (h1 : ¬ a = 1) : mactT S ⟨a, b, c, d, v, l⟩ = purT (purgeS (ofT S b)) S := (if_neg h0).trans (if_neg h1)
theorem mplT_take (l : List MAct) (S : TreeS) {i : Nat} (hi : i < l.length) : mplT (l.take (i + 1)) S = mactT (mplT (l.take i) S) l[i] := by
  rw [List.take_succ_eq_append_getElem hi]
  unfold mplT
  rw [List.foldl_append]
  rfl
theorem mact_b {K : Nat} {S : TreeS} (h : TreeB K S) (a : MAct) : TreeB (K + 16) (mactT S a) := by
  unfold mactT
  split
  · exact many_b h _ _ _
  · split
    · exact request_b h _ _ _ _
    · exact (purT_b _ h).mono (by omega)
theorem mact_g {S : TreeS} (h : GoodK S) (a : MAct) : GoodK (mactT S a) := by
  unfold mactT
  split
  · exact many_g h _ _ _
  · split
    · exact request_g h _ _ _ _
    · exact pur_g _ h
theorem mact_room (S : TreeS) (a : MAct) : (mactT S a).room = S.room := by
  unfold mactT
  split
  · exact many_room _ _ _ _
  · split
    · exact request_room _ _ _ _ _
    · exact pur_room _ _
theorem mplT_b : ∀ (l : List MAct) {K : Nat} {S : TreeS}, TreeB K S → TreeB (K + 16 * l.length) (mplT l S)
  | [], _, _, h => h
  | a :: l, K, S, h => by
    have := mplT_b l (mact_b h a)
    rw [List.length_cons, show K + 16 * (l.length + 1) = K + 16 + 16 * l.length by omega]
    exact this
theorem mplT_g : ∀ (l : List MAct) {S : TreeS}, GoodK S → GoodK (mplT l S)
  | [], _, h => h
  | a :: l, S, h => mplT_g l (mact_g h a)
theorem failR_rs (num e at_ n : Int) : (failR num e at_ n).rs.length ≤ 16 := by
  unfold failR
  dsimp only
  split
  · simp
  · rw [failRs_len]; omega
theorem steps_rs {sess zxid : Int} : ∀ (l : List OpS) (S : TreeS), (stepsT sess zxid l S).1.length ≤ l.length
  | [], S => by simp [stepsT]
  | o :: l, S => by
    have := steps_rs (sess := sess) (zxid := zxid) l (doT S o sess zxid).2
    unfold stepsT
    split
    · simp
    · simp only [List.length_cons]; omega
theorem many_rs (S : TreeS) (sess zxid : Int) (ops : List OpS) : (manyT S sess zxid ops).1.rs.length ≤ 16 := by
  unfold manyT
  split
  · exact failR_rs ..
  · split
    · exact failR_rs ..
    · split
      · exact failR_rs ..
      · have := steps_rs (sess := sess) (zxid := zxid) ops S
        dsimp only
        omega
theorem request_rs (S : TreeS) (sess num zxid : Int) (ops : List OpS) : (requestT S sess num zxid ops).1.rs.length ≤ 16 := by
  unfold requestT
  split
  · exact failR_rs ..
  · exact many_rs ..
theorem mplT_room : ∀ (l : List MAct) (S : TreeS), (mplT l S).room = S.room
  | [], _ => rfl
  | a :: l, S => (mplT_room l (mactT S a)).trans (mact_room S a)
end Go.Av
namespace Go.Proofs.YtjeaoopamebgjaaGreatDoor
open Go.RowKit Go.Av
theorem sn_mact : StructN Tryz.prog 57 5 := ⟨by kernel_rfl⟩
theorem z_mact : zeroB Tryz.prog 57 #[.int .i64 0, .int .i64 0, .int .i64 0, .int .i64 0, .slice none 0 0] := by unfold zeroB; kernel_rfl
section
variable {w0 w V0 : World} {P : List PRow} {R : List Thing} {rows : List (Value × Bs)}
set_option maxRecDepth 100000 in
theorem rp_any (h : Sep w0 w R rows) (a b c d : Int) (x : Option Addr) (n m : Nat) : Calls Tryz.prog 28 #[.agg #[.int .i64 a, .int .i64 b, .int .i64 c, .int .i64 d, .slice x n m]] w fun e w' => e = .returned (.agg #[.int .i64 a, .int .i64 b, .int .i64 c, .int .i64 d, .slice x n m]) ∧ Sep w0 w' R rows := by
  have HX := Lib.hid h
  clear h
  go_enter Tryz.func28, Tryz.ntmps28
  go_wp2_with (first | go_skip | (refine sWL ?_; simp only [Act.put, k_a, k_b, k_c, k_d, k_e, k_f, k_g, k_h, NodeS.cells, OpS.cells, ResS.cells]) | (refine sWM ?_; simp only [Act.put, k_a, k_b, k_c]) | ((first | refine sWS ?_ | refine sWT ?_); clear HX; intro w HX; simp only [Act.put, k_a, k_b, k_c, setMany, Nat.reduceAdd, NodeS.cells, OpS.cells, ResS.cells] at HX ⊢) | (refine sWA ?_; clear HX; (first | (have hq := b4; clear hq; intro w b5 HX) | (have hq := b3; clear hq; intro w b4 HX) | (have hq := b2; clear hq; intro w b3 HX) | (have hq := b; clear hq; intro w b2 HX) | intro w b HX); simp only [Act.put, k_a, k_b, k_c]) | ((first | (refine sWN ?_; clear HX; intro w mm HX) | (refine sWP ?_; clear HX; intro w av nv cv HX)); simp only [Act.put, k_a, k_b, k_c]))
  refine sx_ret HX rfl rfl (by (repeat (first | (with_reducible exact k_s) | (with_reducible apply k_m)))) (by kernel_rfl) ?_
  exact ⟨rfl, HX.out.drop.drop⟩
def MplRel (V0 : World) (l : List MAct) (room : Int) (r : PRow) (t b k : Nat) (v : Value) (w : World) : Prop :=
  ∃ (i : Nat) (P' : List PRow), i + k = l.length ∧ v = .int .i64 (i : Int) ∧ r ∈ P' ∧ Sep V0 w [ThPool V0 P', ThRt b (mplT (l.take i) ⟨room, []⟩) P', ThTree t (mplT (l.take i) ⟨room, []⟩) P'] []
set_option maxRecDepth 100000 in
set_option maxHeartbeats 16000000 in
theorem multiPlays_walk (room : Int) (a0 : Option Addr) (len0 cap0 : Nat) (l0 : List MAct) (V0 : World) (hd : DoorN V0) (h0 : IsMActs V0 a0 len0 cap0 l0) :
    Calls Tryz.prog 8 #[.int .i64 room, .slice a0 len0 cap0] V0 fun e w' => e = .returned (.bool true) ∧ Below V0.heap.size V0 w' := by
  obtain ⟨E0, r0⟩ := h0.row
  obtain rfl : l0.length = len0 := h0.1
  have HR := Lib.hid r0
  have HO := Lib.hid h0.2.2.2.2.2
  clear h0 r0
  by_cases hr1 : room < 1
  · have q1 : decide (room < 1) = true := decide_eq_true hr1
    go_enter Tryz.func8, Tryz.ntmps8
    go_wp2_with fail
    refine (awake_any hd).mono ?_
    rintro e w ⟨rfl, hu⟩
    have HX := Lib.hid (((Sep.start V0).keep hu).poolNew.poolOld HR.out)
    clear hu
    go_wp2_with (first | go_skip | (refine sWL ?_; simp only [Act.put, k_a, k_b, k_c, k_d, k_e, k_f, k_g, k_h, NodeS.cells, OpS.cells, ResS.cells]) | (refine sWM ?_; simp only [Act.put, k_a, k_b, k_c]) | ((first | refine sWS ?_ | refine sWT ?_); clear HX; intro w HX; simp only [Act.put, k_a, k_b, k_c, setMany, Nat.reduceAdd, NodeS.cells, OpS.cells, ResS.cells] at HX ⊢) | (refine sWA ?_; clear HX; (first | (have hq := b4; clear hq; intro w b5 HX) | (have hq := b3; clear hq; intro w b4 HX) | (have hq := b2; clear hq; intro w b3 HX) | (have hq := b; clear hq; intro w b2 HX) | intro w b HX); simp only [Act.put, k_a, k_b, k_c]) | ((first | (refine sWN ?_; clear HX; intro w mm HX) | (refine sWP ?_; clear HX; intro w av nv cv HX)); simp only [Act.put, k_a, k_b, k_c]))
    go_ret
    exact ⟨rfl, HX.out.below⟩
  have q1 : decide (room < 1) = false := decide_eq_false hr1
  by_cases hr2 : 500 < room
  · have q2 : decide (500 < room) = true := decide_eq_true hr2
    go_enter Tryz.func8, Tryz.ntmps8
    go_wp2_with fail
    refine (awake_any hd).mono ?_
    rintro e w ⟨rfl, hu⟩
    have HX := Lib.hid (((Sep.start V0).keep hu).poolNew.poolOld HR.out)
    clear hu
    go_wp2_with (first | go_skip | (refine sWL ?_; simp only [Act.put, k_a, k_b, k_c, k_d, k_e, k_f, k_g, k_h, NodeS.cells, OpS.cells, ResS.cells]) | (refine sWM ?_; simp only [Act.put, k_a, k_b, k_c]) | ((first | refine sWS ?_ | refine sWT ?_); clear HX; intro w HX; simp only [Act.put, k_a, k_b, k_c, setMany, Nat.reduceAdd, NodeS.cells, OpS.cells, ResS.cells] at HX ⊢) | (refine sWA ?_; clear HX; (first | (have hq := b4; clear hq; intro w b5 HX) | (have hq := b3; clear hq; intro w b4 HX) | (have hq := b2; clear hq; intro w b3 HX) | (have hq := b; clear hq; intro w b2 HX) | intro w b HX); simp only [Act.put, k_a, k_b, k_c]) | ((first | (refine sWN ?_; clear HX; intro w mm HX) | (refine sWP ?_; clear HX; intro w av nv cv HX)); simp only [Act.put, k_a, k_b, k_c]))
    go_ret
    exact ⟨rfl, HX.out.below⟩
  have q2 : decide (500 < room) = false := decide_eq_false hr2
  by_cases h30 : 30 < l0.length
  · have q3 : decide (30 < l0.length) = true := decide_eq_true h30
    have q4 : decide (30 < (l0.length : Int)) = true := decide_eq_true (by omega)
    go_enter Tryz.func8, Tryz.ntmps8
    go_wp2_with fail
    refine (awake_any hd).mono ?_
    rintro e w ⟨rfl, hu⟩
    have HX := Lib.hid (((Sep.start V0).keep hu).poolNew.poolOld HR.out)
    clear hu
    go_wp2_with (first | go_skip | (refine sWL ?_; simp only [Act.put, k_a, k_b, k_c, k_d, k_e, k_f, k_g, k_h, NodeS.cells, OpS.cells, ResS.cells]) | (refine sWM ?_; simp only [Act.put, k_a, k_b, k_c]) | ((first | refine sWS ?_ | refine sWT ?_); clear HX; intro w HX; simp only [Act.put, k_a, k_b, k_c, setMany, Nat.reduceAdd, NodeS.cells, OpS.cells, ResS.cells] at HX ⊢) | (refine sWA ?_; clear HX; (first | (have hq := b4; clear hq; intro w b5 HX) | (have hq := b3; clear hq; intro w b4 HX) | (have hq := b2; clear hq; intro w b3 HX) | (have hq := b; clear hq; intro w b2 HX) | intro w b HX); simp only [Act.put, k_a, k_b, k_c]) | ((first | (refine sWN ?_; clear HX; intro w mm HX) | (refine sWP ?_; clear HX; intro w av nv cv HX)); simp only [Act.put, k_a, k_b, k_c]))
    go_ret
    exact ⟨rfl, HX.out.below⟩
  have q3 : decide (30 < l0.length) = false := decide_eq_false h30
  have q4 : decide (30 < (l0.length : Int)) = false := decide_eq_false (by omega)
  have HL := Lib.hid (show l0.length ≤ 30 ∧ 1 ≤ room ∧ room ≤ 500 by omega)
  go_enter Tryz.func8, Tryz.ntmps8
  go_wp2_with fail
  refine (awake_any hd).mono ?_
  rintro e w ⟨rfl, hu⟩
  have HX := Lib.hid (((Sep.start V0).keep hu).poolNew.poolOld HR.out)
  clear hu
  go_wp2_with (first | go_skip | (refine sWL ?_; simp only [Act.put, k_a, k_b, k_c, k_d, k_e, k_f, k_g, k_h, NodeS.cells, OpS.cells, ResS.cells]) | (refine sWM ?_; simp only [Act.put, k_a, k_b, k_c]) | ((first | refine sWS ?_ | refine sWT ?_); clear HX; intro w HX; simp only [Act.put, k_a, k_b, k_c, setMany, Nat.reduceAdd, NodeS.cells, OpS.cells, ResS.cells] at HX ⊢) | (refine sWA ?_; clear HX; (first | (have hq := b4; clear hq; intro w b5 HX) | (have hq := b3; clear hq; intro w b4 HX) | (have hq := b2; clear hq; intro w b3 HX) | (have hq := b; clear hq; intro w b2 HX) | intro w b HX); simp only [Act.put, k_a, k_b, k_c]) | ((first | (refine sWN ?_; clear HX; intro w mm HX) | (refine sWP ?_; clear HX; intro w av nv cv HX)); simp only [Act.put, k_a, k_b, k_c]))
  clear hr1 hr2 h30 q1 q2 q3 q4
  refine (treenew_any HX.out room HL.out.2.1 HL.out.2.2).mono ?_
  rintro e w1 ⟨t, rfl, hx⟩
  clear HX
  have HX := Lib.hid hx
  clear hx
  go_wp2_with (first | go_skip | (refine sWL ?_; simp only [Act.put, k_a, k_b, k_c, k_d, k_e, k_f, k_g, k_h, NodeS.cells, OpS.cells, ResS.cells]) | (refine sWM ?_; simp only [Act.put, k_a, k_b, k_c]) | ((first | refine sWS ?_ | refine sWT ?_); clear HX; intro w HX; simp only [Act.put, k_a, k_b, k_c, setMany, Nat.reduceAdd, NodeS.cells, OpS.cells, ResS.cells] at HX ⊢) | (refine sWA ?_; clear HX; (first | (have hq := b4; clear hq; intro w b5 HX) | (have hq := b3; clear hq; intro w b4 HX) | (have hq := b2; clear hq; intro w b3 HX) | (have hq := b; clear hq; intro w b2 HX) | intro w b HX); simp only [Act.put, k_a, k_b, k_c]) | ((first | (refine sWN ?_; clear HX; intro w mm HX) | (refine sWP ?_; clear HX; intro w av nv cv HX)); simp only [Act.put, k_a, k_b, k_c]))
  have h9 := rt_shut (S := ⟨room, []⟩) (P := [(5, .slice a0 l0.length cap0, l0.flatMap MAct.cells)]) (HX.out.nilRow 11).up1 .nil
  have HST := Lib.hid (show MplRel V0 l0 room (5, .slice a0 l0.length cap0, l0.flatMap MAct.cells) t b l0.length (.int .i64 (0 : Int)) _ from ⟨0, _, by simp, rfl, k_s, h9.sel [1, 0, 2] rfl⟩)
  clear HX h9
  go_loopg [8] l0.length (fun k v wr => MplRel V0 l0 room (5, .slice a0 l0.length cap0, l0.flatMap MAct.cells) t b k v wr)
  case atStart => exact HST.out
  case round =>
    rename World => w
    obtain ⟨i, P1, hik, rfl, hP1, hS⟩ := hrel
    have HX := Lib.hid hS
    have HP := Lib.hid hP1
    clear hS hP1 HST
    by_cases hlt : i < l0.length
    case neg =>
      obtain rfl : i = l0.length := by omega
      clear hlt hik
      go_wp2_with (first | go_skip | (refine sWL ?_; simp only [Act.put, k_a, k_b, k_c, k_d, k_e, k_f, k_g, k_h, NodeS.cells, OpS.cells, ResS.cells]) | (refine sWM ?_; simp only [Act.put, k_a, k_b, k_c]) | ((first | refine sWS ?_ | refine sWT ?_); clear HX; intro w HX; simp only [Act.put, k_a, k_b, k_c, setMany, Nat.reduceAdd, NodeS.cells, OpS.cells, ResS.cells] at HX ⊢) | (refine sWA ?_; clear HX; (first | (have hq := b4; clear hq; intro w b5 HX) | (have hq := b3; clear hq; intro w b4 HX) | (have hq := b2; clear hq; intro w b3 HX) | (have hq := b; clear hq; intro w b2 HX) | intro w b HX); simp only [Act.put, k_a, k_b, k_c]) | ((first | (refine sWN ?_; clear HX; intro w mm HX) | (refine sWP ?_; clear HX; intro w av nv cv HX)); simp only [Act.put, k_a, k_b, k_c]))
      go_ret
      exact ⟨rfl, HX.out.below⟩
    case pos =>
      have hB : TreeB (0 + 16 * (l0.take i).length) (mplT (l0.take i) ⟨room, []⟩) := mplT_b _ (tree_new room HL.out.2)
      have hG : GoodK (mplT (l0.take i) ⟨room, []⟩) := mplT_g _ (good_new room)
      have hRm := mplT_room (l0.take i) ⟨room, []⟩
      have hnx := mplT_take l0 ⟨room, []⟩ hlt
      obtain ⟨S, hSS⟩ : ∃ S, mplT (l0.take i) ⟨room, []⟩ = S := ⟨_, rfl⟩
      rw [hSS] at HX hB hnx hG hRm
      have hpr := HO.out l0[i] (List.getElem_mem hlt)
      obtain ⟨E, hE⟩ := HX.out.poolGet HP.out
      obtain ⟨_, _, _, e, _, _, _, hne⟩ := ReadRow.some hE
      simp only [Value.slice.injEq] at e
      obtain ⟨rfl, rfl, rfl⟩ := e
      obtain ⟨g, off, rfl⟩ := hne (by intro e; have := congrArg List.length e; rw [flatG_len mact_len] at this; simp at this; omega)
      have hl := row_load (P := Tryz.prog) (f := MAct.cells) (i := i) hE mact_len sn_mact hlt
      obtain ⟨a, ha⟩ : ∃ a, l0[i] = a := ⟨_, rfl⟩
      rw [ha] at hpr hnx hl
      obtain ⟨E2, hE2⟩ := hpr
      have hx := HX.out.poolOld hE2
      obtain ⟨op, asess, zxid, num, av, ops⟩ := a
      dsimp only at hx hE2 hnx hl
      obtain ⟨oa, on, oc, rfl, -⟩ := id hE2
      obtain ⟨Q, hQ⟩ : ∃ Q, (5, Value.slice oa on oc, ops.flatMap OpS.cells) :: P1 = Q := ⟨_, rfl⟩
      rw [hQ] at hx
      have hsub : ∀ q ∈ P1, q ∈ Q := by rw [← hQ]; exact fun q hq => k_n _ hq
      have HQV := Lib.hid (show (5, Value.slice oa on oc, ops.flatMap OpS.cells) ∈ Q by rw [← hQ]; exact k_s)
      have hx3 := (rt_mono (tree_mono hx.up2 hsub).up2 hsub).up2
      have HSUB := Lib.hid hsub
      have HB := Lib.hid (show TreeB 480 S ∧ GoodK S ∧ S.room = room from ⟨hB.mono (by rw [List.length_take]; have := HL.out; omega), hG, hRm⟩)
      have HNX0 := Lib.hid hnx
      have HS1 := Lib.hid (show TreeB (480 + 16) (mactT S ⟨op, asess, zxid, num, .slice oa on oc, ops⟩) ∧ GoodK (mactT S ⟨op, asess, zxid, num, .slice oa on oc, ops⟩) ∧ room = (mactT S ⟨op, asess, zxid, num, .slice oa on oc, ops⟩).room from ⟨mact_b HB.out.1 _, mact_g HB.out.2.1 _, by rw [mact_room, HB.out.2.2]⟩)
      have q0 : decide (i < l0.length) = true := decide_eq_true hlt
      have q9 : i ≤ 30 := by have := HL.out.1; omega
      simp only [MAct.cells] at hl
      clear HX hE hE2 hx hsub hQ hB hG hRm hnx hSS ha hne
      have HX := Lib.hid hx3
      clear hx3
      go_wp2_with (first | ((with_reducible apply sx_alloc HX); (· rfl); (· exact z_mact); clear HX; intro w b2 HX; simp only [Act.put, k_a, k_b, k_c]) | ((with_reducible apply sx_loadAt hl); (· rfl); (· rfl); simp only [Act.put, k_a, k_b, k_c]) | go_skip | (refine sWL ?_; simp only [Act.put, k_a, k_b, k_c, k_d, k_e, k_f, k_g, k_h, NodeS.cells, OpS.cells, ResS.cells]) | (refine sWM ?_; simp only [Act.put, k_a, k_b, k_c]) | ((first | refine sWS ?_ | refine sWT ?_); clear HX; intro w HX; simp only [Act.put, k_a, k_b, k_c, setMany, Nat.reduceAdd, NodeS.cells, OpS.cells, ResS.cells] at HX ⊢) | (refine sWA ?_; clear HX; (first | (have hq := b4; clear hq; intro w b5 HX) | (have hq := b3; clear hq; intro w b4 HX) | (have hq := b2; clear hq; intro w b3 HX) | (have hq := b; clear hq; intro w b2 HX) | intro w b HX); simp only [Act.put, k_a, k_b, k_c]) | ((first | (refine sWN ?_; clear HX; intro w mm HX) | (refine sWP ?_; clear HX; intro w av nv cv HX)); simp only [Act.put, k_a, k_b, k_c]))
      refine (long_any HX.out.up1 ops _ HQV.out).mono ?_
      rintro e w ⟨rfl, hx⟩
      clear HX hl
      have HX := Lib.hid hx
      clear hx
      obtain ⟨zl, hzl⟩ : ∃ zl, longS ops = zl := ⟨_, rfl⟩
      rw [hzl]
      cases zl with
      | true =>
        go_wp2_with (first | go_skip | (refine sWL ?_; simp only [Act.put, k_a, k_b, k_c, k_d, k_e, k_f, k_g, k_h, NodeS.cells, OpS.cells, ResS.cells]) | (refine sWM ?_; simp only [Act.put, k_a, k_b, k_c]) | ((first | refine sWS ?_ | refine sWT ?_); clear HX; intro w HX; simp only [Act.put, k_a, k_b, k_c, setMany, Nat.reduceAdd, NodeS.cells, OpS.cells, ResS.cells] at HX ⊢) | (refine sWA ?_; clear HX; (first | (have hq := b4; clear hq; intro w b5 HX) | (have hq := b3; clear hq; intro w b4 HX) | (have hq := b2; clear hq; intro w b3 HX) | (have hq := b; clear hq; intro w b2 HX) | intro w b HX); simp only [Act.put, k_a, k_b, k_c]) | ((first | (refine sWN ?_; clear HX; intro w mm HX) | (refine sWP ?_; clear HX; intro w av nv cv HX)); simp only [Act.put, k_a, k_b, k_c]))
        go_ret
        exact ⟨rfl, HX.out.below⟩
      | false =>
        have HLO := Lib.hid (long_len hzl)
        clear hzl
        by_cases hop : op = 0
        · subst hop
          obtain ⟨⟨⟨n1, z1, e1, t1, rs1⟩, S1, ok1⟩, hm1⟩ : ∃ m1, manyT S asess zxid ops = m1 := ⟨_, rfl⟩
          have hmt : mactT S ⟨0, asess, zxid, num, .slice oa on oc, ops⟩ = S1 := by rw [mact0, hm1]
          have HNX := Lib.hid (HNX0.out.trans hmt)
          rw [hmt] at HS1
          have HRS := Lib.hid (show rs1.length ≤ 16 by have := many_rs S asess zxid ops; rw [hm1] at this; exact this)
          have HM1 := Lib.hid hm1
          clear HNX0 hmt hm1
          cases ok1 with
          | false =>
            go_wp2_with (first | go_skip | (refine sWL ?_; simp only [Act.put, k_a, k_b, k_c, k_d, k_e, k_f, k_g, k_h, NodeS.cells, OpS.cells, ResS.cells]) | (refine sWM ?_; simp only [Act.put, k_a, k_b, k_c]) | ((first | refine sWS ?_ | refine sWT ?_); clear HX; intro w HX; simp only [Act.put, k_a, k_b, k_c, setMany, Nat.reduceAdd, NodeS.cells, OpS.cells, ResS.cells] at HX ⊢) | (refine sWA ?_; clear HX; (first | (have hq := b4; clear hq; intro w b5 HX) | (have hq := b3; clear hq; intro w b4 HX) | (have hq := b2; clear hq; intro w b3 HX) | (have hq := b; clear hq; intro w b2 HX) | intro w b HX); simp only [Act.put, k_a, k_b, k_c]) | ((first | (refine sWN ?_; clear HX; intro w mm HX) | (refine sWP ?_; clear HX; intro w av nv cv HX)); simp only [Act.put, k_a, k_b, k_c]))
            have h1 := mdo_any HX.out.up3.up1 hd HB.out.1 (by omega) asess zxid ops _ HQV.out (fun o ho => by have := HLO.out.2 o ho; omega)
            rw [HM1.out] at h1
            refine h1.mono ?_
            clear h1
            rintro e w ⟨v9, P2, rfl, hP2, ⟨a9, n9, c9, xs9, rfl, hrl9, hmem9⟩, hx⟩
            have h2 := (rt_mono hx.up3 hP2).up1
            clear HX
            have HX := Lib.hid h2
            have HP2 := Lib.hid (show _ ∧ _ ∧ _ from ⟨hP2, hrl9, hmem9⟩)
            clear hx h2 hP2 hrl9 hmem9
            dsimp only at HX HP2 ⊢
            go_wp2_with (first | go_skip | (refine sWL ?_; simp only [Act.put, k_a, k_b, k_c, k_d, k_e, k_f, k_g, k_h, NodeS.cells, OpS.cells, ResS.cells]) | (refine sWM ?_; simp only [Act.put, k_a, k_b, k_c]) | ((first | refine sWS ?_ | refine sWT ?_); clear HX; intro w HX; simp only [Act.put, k_a, k_b, k_c, setMany, Nat.reduceAdd, NodeS.cells, OpS.cells, ResS.cells] at HX ⊢) | (refine sWA ?_; clear HX; (first | (have hq := b4; clear hq; intro w b5 HX) | (have hq := b3; clear hq; intro w b4 HX) | (have hq := b2; clear hq; intro w b3 HX) | (have hq := b; clear hq; intro w b2 HX) | intro w b HX); simp only [Act.put, k_a, k_b, k_c]) | ((first | (refine sWN ?_; clear HX; intro w mm HX) | (refine sWP ?_; clear HX; intro w av nv cv HX)); simp only [Act.put, k_a, k_b, k_c]))
            have h1 := many10_any HX.out.up2.up2 HB.out.1 (by omega) asess zxid ops _ (HP2.out.1 _ HQV.out) (fun o ho => by have := HLO.out.2 o ho; omega)
            rw [HM1.out] at h1
            refine h1.mono ?_
            clear h1
            rintro e w ⟨v8, P3, rfl, hP3, ⟨a8, n8, c8, xs8, rfl, hrl8, hmem8⟩, hx⟩
            have h2 := (tree_mono hx.up3 hP3).up2.up2
            clear HX
            have HX := Lib.hid h2
            have HP3 := Lib.hid (show _ ∧ _ ∧ _ from ⟨hP3, hrl8, hmem8⟩)
            have HPX := Lib.hid (show ∀ q ∈ P1, q ∈ P3 from fun q hq => hP3 q (HP2.out.1 q (HSUB.out q hq)))
            clear hx h2 hP3 hrl8 hmem8
            dsimp only at HX HP3 ⊢
            go_wp2_with (first | go_skip | (refine sWL ?_; simp only [Act.put, k_a, k_b, k_c, k_d, k_e, k_f, k_g, k_h, NodeS.cells, OpS.cells, ResS.cells]) | (refine sWM ?_; simp only [Act.put, k_a, k_b, k_c]) | ((first | refine sWS ?_ | refine sWT ?_); clear HX; intro w HX; simp only [Act.put, k_a, k_b, k_c, setMany, Nat.reduceAdd, NodeS.cells, OpS.cells, ResS.cells] at HX ⊢) | (refine sWA ?_; clear HX; (first | (have hq := b4; clear hq; intro w b5 HX) | (have hq := b3; clear hq; intro w b4 HX) | (have hq := b2; clear hq; intro w b3 HX) | (have hq := b; clear hq; intro w b2 HX) | intro w b HX); simp only [Act.put, k_a, k_b, k_c]) | ((first | (refine sWN ?_; clear HX; intro w mm HX) | (refine sWP ?_; clear HX; intro w av nv cv HX)); simp only [Act.put, k_a, k_b, k_c]))
            have h9 := HX.out.up1
            clear HX
            have HX := Lib.hid h9
            clear h9
            refine wp_region_M (fun W => Sep V0 W (ThPool V0 P3 :: ThCell b4 (.cells #[.int .i64 n1, .int .i64 z1, .int .i64 e1, .int .i64 t1, .slice a8 n8 c8] 70 (0, 0)) :: ThRt b S1 P3 :: ThTree t S1 P3 :: ThCell b3 (.cells #[.int .i64 n1, .int .i64 z1, .int .i64 e1, .int .i64 t1, .slice a9 n9 c9] 41 (0, 0)) :: ThCell b2 (.cells #[.int .i64 0, .int .i64 asess, .int .i64 zxid, .int .i64 num, .slice oa on oc] 57 (0, 0)) :: []) []) 9 (by kernel_rfl) ?_
            have KEEPX : ∀ W, Sep V0 W (ThPool V0 P3 :: ThCell b4 (.cells #[.int .i64 n1, .int .i64 z1, .int .i64 e1, .int .i64 t1, .slice a8 n8 c8] 70 (0, 0)) :: ThRt b S1 P3 :: ThTree t S1 P3 :: ThCell b3 (.cells #[.int .i64 n1, .int .i64 z1, .int .i64 e1, .int .i64 t1, .slice a9 n9 c9] 41 (0, 0)) :: ThCell b2 (.cells #[.int .i64 0, .int .i64 asess, .int .i64 zxid, .int .i64 num, .slice oa on oc] 57 (0, 0)) :: []) [] → Sep V0 W (ThPool V0 P3 :: ThCell b4 (.cells #[.int .i64 n1, .int .i64 z1, .int .i64 e1, .int .i64 t1, .slice a8 n8 c8] 70 (0, 0)) :: ThRt b S1 P3 :: ThTree t S1 P3 :: ThCell b3 (.cells #[.int .i64 n1, .int .i64 z1, .int .i64 e1, .int .i64 t1, .slice a9 n9 c9] 41 (0, 0)) :: ThCell b2 (.cells #[.int .i64 0, .int .i64 asess, .int .i64 zxid, .int .i64 num, .slice oa on oc] 57 (0, 0)) :: []) [] := fun _ h => h
            replace HX := Lib.hid HX.out.drew
            refine wpAnyM_take (by kernel_rfl) (by intro c a d v w h; cases d <;> exact h) [(0, false), (1, false), (2, false), (3, false), (4, true), (6, true)] (fuel := 4) (by kernel_rfl) ?_
            apply Exists.intro; refine ⟨?_, HX.out, ?_⟩
            · iterate 6 (refine yE ?_)
              exact rfl
            refine wpAnyM_one (fuel := 3) (i := 5) (by kernel_rfl) (by (simp only [k_i, k_j, k_k]; try rfl)) (fun K hK => ?_)
            go_wp2_with fail
            refine (rp_any HX.out _ _ _ _ _ _ _).mono ?_
            rintro e w ⟨rfl, hx⟩
            clear HX
            have HX := Lib.hid hx
            clear hx
            go_wp2_with fail
            refine hK _ _ HX.out ?_
            clear hK
            refine wpAnyM_one (fuel := 2) (i := 7) (by kernel_rfl) (by (simp only [k_i, k_j, k_k]; try rfl)) (fun K hK => ?_)
            go_wp2_with fail
            refine (samereply_any HX.out ⟨n1, z1, e1, t1, rs1⟩ _ _ ⟨a9, n9, c9, xs9, rfl, HP2.out.2.1.mono HP3.out.1, HP3.out.1 _ HP2.out.2.2⟩ ⟨a8, n8, c8, xs8, rfl, HP3.out.2.1, HP3.out.2.2⟩ (by have := HRS.out; dsimp only; omega)).mono ?_
            rintro e w ⟨rfl, hx⟩
            clear HX
            have HX := Lib.hid hx
            clear hx
            go_wp2_with fail
            refine hK _ _ HX.out ?_
            clear hK
            refine wpAnyM_take (by kernel_rfl) (by intro c a d v w h; cases d <;> exact h) [(8, false)] (fuel := 1) (by kernel_rfl) ?_
            apply Exists.intro; refine ⟨?_, HX.out, ?_⟩
            · iterate 1 (refine yE ?_)
              exact rfl
            refine wpAnyM_of_any _ _ _ _ (by decide) ?_
            refine wpAny_list [9] (fuel := 0) (by kernel_rfl) ?_
            simp only [List.filterMap_cons, List.filterMap_nil, k_i, k_j, k_k]
            have h9 := HX.out.up2.up3.up2
            clear HX
            have HX := Lib.hid h9
            clear h9
            go_wp2_with (first | go_skip | (refine sWL ?_; simp only [Act.put, k_a, k_b, k_c, k_d, k_e, k_f, k_g, k_h, NodeS.cells, OpS.cells, ResS.cells]) | (refine sWM ?_; simp only [Act.put, k_a, k_b, k_c]) | ((first | refine sWS ?_ | refine sWT ?_); clear HX; intro w HX; simp only [Act.put, k_a, k_b, k_c, setMany, Nat.reduceAdd, NodeS.cells, OpS.cells, ResS.cells] at HX ⊢) | (refine sWA ?_; clear HX; (first | (have hq := b4; clear hq; intro w b5 HX) | (have hq := b3; clear hq; intro w b4 HX) | (have hq := b2; clear hq; intro w b3 HX) | (have hq := b; clear hq; intro w b2 HX) | intro w b HX); simp only [Act.put, k_a, k_b, k_c]) | ((first | (refine sWN ?_; clear HX; intro w mm HX) | (refine sWP ?_; clear HX; intro w av nv cv HX)); simp only [Act.put, k_a, k_b, k_c]))
            refine (ownt_any HX.out room (by rw [HS1.out.2.2]) (HS1.out.1.ok (by have := HL.out; omega)) (by have := HS1.out.1.many; omega) (fun e he => by have := HS1.out.1.keys e he; omega)).mono ?_
            rintro e w ⟨bf, P8, rfl, hP8, hx⟩
            have h9 := (rt_mono hx.up3 hP8).up3.up2
            clear HX hx
            have HX := Lib.hid h9
            have HP8 := Lib.hid hP8
            clear h9 hP8
            go_wp2_with (first | go_skip | (refine sWL ?_; simp only [Act.put, k_a, k_b, k_c, k_d, k_e, k_f, k_g, k_h, NodeS.cells, OpS.cells, ResS.cells]) | (refine sWM ?_; simp only [Act.put, k_a, k_b, k_c]) | ((first | refine sWS ?_ | refine sWT ?_); clear HX; intro w HX; simp only [Act.put, k_a, k_b, k_c, setMany, Nat.reduceAdd, NodeS.cells, OpS.cells, ResS.cells] at HX ⊢) | (refine sWA ?_; clear HX; (first | (have hq := b4; clear hq; intro w b5 HX) | (have hq := b3; clear hq; intro w b4 HX) | (have hq := b2; clear hq; intro w b3 HX) | (have hq := b; clear hq; intro w b2 HX) | intro w b HX); simp only [Act.put, k_a, k_b, k_c]) | ((first | (refine sWN ?_; clear HX; intro w mm HX) | (refine sWP ?_; clear HX; intro w av nv cv HX)); simp only [Act.put, k_a, k_b, k_c]))
            refine (samet_any HX.out (by have := HS1.out.1.many; omega)).mono ?_
            rintro e w ⟨rfl, hx⟩
            clear HX
            have HX := Lib.hid hx
            clear hx
            go_wp2_with (first | go_skip | (refine sWL ?_; simp only [Act.put, k_a, k_b, k_c, k_d, k_e, k_f, k_g, k_h, NodeS.cells, OpS.cells, ResS.cells]) | (refine sWM ?_; simp only [Act.put, k_a, k_b, k_c]) | ((first | refine sWS ?_ | refine sWT ?_); clear HX; intro w HX; simp only [Act.put, k_a, k_b, k_c, setMany, Nat.reduceAdd, NodeS.cells, OpS.cells, ResS.cells] at HX ⊢) | (refine sWA ?_; clear HX; (first | (have hq := b4; clear hq; intro w b5 HX) | (have hq := b3; clear hq; intro w b4 HX) | (have hq := b2; clear hq; intro w b3 HX) | (have hq := b; clear hq; intro w b2 HX) | intro w b HX); simp only [Act.put, k_a, k_b, k_c]) | ((first | (refine sWN ?_; clear HX; intro w mm HX) | (refine sWP ?_; clear HX; intro w av nv cv HX)); simp only [Act.put, k_a, k_b, k_c]))
            go_roundg (l0.length - (i + 1))
            case rel => exact ⟨i + 1, P8, by omega, by go_num, HP8.out _ (HPX.out _ HP.out), by rw [HNX.out]; exact HX.out.sel [0, 2, 3] rfl⟩
            case measure => omega
          | true =>
            go_wp2_with (first | go_skip | (refine sWL ?_; simp only [Act.put, k_a, k_b, k_c, k_d, k_e, k_f, k_g, k_h, NodeS.cells, OpS.cells, ResS.cells]) | (refine sWM ?_; simp only [Act.put, k_a, k_b, k_c]) | ((first | refine sWS ?_ | refine sWT ?_); clear HX; intro w HX; simp only [Act.put, k_a, k_b, k_c, setMany, Nat.reduceAdd, NodeS.cells, OpS.cells, ResS.cells] at HX ⊢) | (refine sWA ?_; clear HX; (first | (have hq := b4; clear hq; intro w b5 HX) | (have hq := b3; clear hq; intro w b4 HX) | (have hq := b2; clear hq; intro w b3 HX) | (have hq := b; clear hq; intro w b2 HX) | intro w b HX); simp only [Act.put, k_a, k_b, k_c]) | ((first | (refine sWN ?_; clear HX; intro w mm HX) | (refine sWP ?_; clear HX; intro w av nv cv HX)); simp only [Act.put, k_a, k_b, k_c]))
            have h1 := mdo_any HX.out.up3.up1 hd HB.out.1 (by omega) asess zxid ops _ HQV.out (fun o ho => by have := HLO.out.2 o ho; omega)
            rw [HM1.out] at h1
            refine h1.mono ?_
            clear h1
            rintro e w ⟨v9, P2, rfl, hP2, ⟨a9, n9, c9, xs9, rfl, hrl9, hmem9⟩, hx⟩
            have h2 := (rt_mono hx.up3 hP2).up1
            clear HX
            have HX := Lib.hid h2
            have HP2 := Lib.hid (show _ ∧ _ ∧ _ from ⟨hP2, hrl9, hmem9⟩)
            clear hx h2 hP2 hrl9 hmem9
            dsimp only at HX HP2 ⊢
            go_wp2_with (first | go_skip | (refine sWL ?_; simp only [Act.put, k_a, k_b, k_c, k_d, k_e, k_f, k_g, k_h, NodeS.cells, OpS.cells, ResS.cells]) | (refine sWM ?_; simp only [Act.put, k_a, k_b, k_c]) | ((first | refine sWS ?_ | refine sWT ?_); clear HX; intro w HX; simp only [Act.put, k_a, k_b, k_c, setMany, Nat.reduceAdd, NodeS.cells, OpS.cells, ResS.cells] at HX ⊢) | (refine sWA ?_; clear HX; (first | (have hq := b4; clear hq; intro w b5 HX) | (have hq := b3; clear hq; intro w b4 HX) | (have hq := b2; clear hq; intro w b3 HX) | (have hq := b; clear hq; intro w b2 HX) | intro w b HX); simp only [Act.put, k_a, k_b, k_c]) | ((first | (refine sWN ?_; clear HX; intro w mm HX) | (refine sWP ?_; clear HX; intro w av nv cv HX)); simp only [Act.put, k_a, k_b, k_c]))
            have h1 := many10_any HX.out.up2.up2 HB.out.1 (by omega) asess zxid ops _ (HP2.out.1 _ HQV.out) (fun o ho => by have := HLO.out.2 o ho; omega)
            rw [HM1.out] at h1
            refine h1.mono ?_
            clear h1
            rintro e w ⟨v8, P3, rfl, hP3, ⟨a8, n8, c8, xs8, rfl, hrl8, hmem8⟩, hx⟩
            have h2 := (tree_mono hx.up3 hP3).up2.up2
            clear HX
            have HX := Lib.hid h2
            have HP3 := Lib.hid (show _ ∧ _ ∧ _ from ⟨hP3, hrl8, hmem8⟩)
            have HPX := Lib.hid (show ∀ q ∈ P1, q ∈ P3 from fun q hq => hP3 q (HP2.out.1 q (HSUB.out q hq)))
            clear hx h2 hP3 hrl8 hmem8
            dsimp only at HX HP3 ⊢
            go_wp2_with (first | go_skip | (refine sWL ?_; simp only [Act.put, k_a, k_b, k_c, k_d, k_e, k_f, k_g, k_h, NodeS.cells, OpS.cells, ResS.cells]) | (refine sWM ?_; simp only [Act.put, k_a, k_b, k_c]) | ((first | refine sWS ?_ | refine sWT ?_); clear HX; intro w HX; simp only [Act.put, k_a, k_b, k_c, setMany, Nat.reduceAdd, NodeS.cells, OpS.cells, ResS.cells] at HX ⊢) | (refine sWA ?_; clear HX; (first | (have hq := b4; clear hq; intro w b5 HX) | (have hq := b3; clear hq; intro w b4 HX) | (have hq := b2; clear hq; intro w b3 HX) | (have hq := b; clear hq; intro w b2 HX) | intro w b HX); simp only [Act.put, k_a, k_b, k_c]) | ((first | (refine sWN ?_; clear HX; intro w mm HX) | (refine sWP ?_; clear HX; intro w av nv cv HX)); simp only [Act.put, k_a, k_b, k_c]))
            have h9 := HX.out.up1
            clear HX
            have HX := Lib.hid h9
            clear h9
            refine wp_region_M (fun W => Sep V0 W (ThPool V0 P3 :: ThCell b4 (.cells #[.int .i64 n1, .int .i64 z1, .int .i64 e1, .int .i64 t1, .slice a8 n8 c8] 70 (0, 0)) :: ThRt b S1 P3 :: ThTree t S1 P3 :: ThCell b3 (.cells #[.int .i64 n1, .int .i64 z1, .int .i64 e1, .int .i64 t1, .slice a9 n9 c9] 41 (0, 0)) :: ThCell b2 (.cells #[.int .i64 0, .int .i64 asess, .int .i64 zxid, .int .i64 num, .slice oa on oc] 57 (0, 0)) :: []) []) 9 (by kernel_rfl) ?_
            have KEEPX : ∀ W, Sep V0 W (ThPool V0 P3 :: ThCell b4 (.cells #[.int .i64 n1, .int .i64 z1, .int .i64 e1, .int .i64 t1, .slice a8 n8 c8] 70 (0, 0)) :: ThRt b S1 P3 :: ThTree t S1 P3 :: ThCell b3 (.cells #[.int .i64 n1, .int .i64 z1, .int .i64 e1, .int .i64 t1, .slice a9 n9 c9] 41 (0, 0)) :: ThCell b2 (.cells #[.int .i64 0, .int .i64 asess, .int .i64 zxid, .int .i64 num, .slice oa on oc] 57 (0, 0)) :: []) [] → Sep V0 W (ThPool V0 P3 :: ThCell b4 (.cells #[.int .i64 n1, .int .i64 z1, .int .i64 e1, .int .i64 t1, .slice a8 n8 c8] 70 (0, 0)) :: ThRt b S1 P3 :: ThTree t S1 P3 :: ThCell b3 (.cells #[.int .i64 n1, .int .i64 z1, .int .i64 e1, .int .i64 t1, .slice a9 n9 c9] 41 (0, 0)) :: ThCell b2 (.cells #[.int .i64 0, .int .i64 asess, .int .i64 zxid, .int .i64 num, .slice oa on oc] 57 (0, 0)) :: []) [] := fun _ h => h
            replace HX := Lib.hid HX.out.drew
            refine wpAnyM_take (by kernel_rfl) (by intro c a d v w h; cases d <;> exact h) [(0, false), (1, false), (2, false), (3, false), (4, true), (6, true)] (fuel := 4) (by kernel_rfl) ?_
            apply Exists.intro; refine ⟨?_, HX.out, ?_⟩
            · iterate 6 (refine yE ?_)
              exact rfl
            refine wpAnyM_one (fuel := 3) (i := 5) (by kernel_rfl) (by (simp only [k_i, k_j, k_k]; try rfl)) (fun K hK => ?_)
            go_wp2_with fail
            refine (rp_any HX.out _ _ _ _ _ _ _).mono ?_
            rintro e w ⟨rfl, hx⟩
            clear HX
            have HX := Lib.hid hx
            clear hx
            go_wp2_with fail
            refine hK _ _ HX.out ?_
            clear hK
            refine wpAnyM_one (fuel := 2) (i := 7) (by kernel_rfl) (by (simp only [k_i, k_j, k_k]; try rfl)) (fun K hK => ?_)
            go_wp2_with fail
            refine (samereply_any HX.out ⟨n1, z1, e1, t1, rs1⟩ _ _ ⟨a9, n9, c9, xs9, rfl, HP2.out.2.1.mono HP3.out.1, HP3.out.1 _ HP2.out.2.2⟩ ⟨a8, n8, c8, xs8, rfl, HP3.out.2.1, HP3.out.2.2⟩ (by have := HRS.out; dsimp only; omega)).mono ?_
            rintro e w ⟨rfl, hx⟩
            clear HX
            have HX := Lib.hid hx
            clear hx
            go_wp2_with fail
            refine hK _ _ HX.out ?_
            clear hK
            refine wpAnyM_take (by kernel_rfl) (by intro c a d v w h; cases d <;> exact h) [(8, false)] (fuel := 1) (by kernel_rfl) ?_
            apply Exists.intro; refine ⟨?_, HX.out, ?_⟩
            · iterate 1 (refine yE ?_)
              exact rfl
            refine wpAnyM_of_any _ _ _ _ (by decide) ?_
            refine wpAny_list [9] (fuel := 0) (by kernel_rfl) ?_
            simp only [List.filterMap_cons, List.filterMap_nil, k_i, k_j, k_k]
            have h9 := HX.out.up2.up3.up2
            clear HX
            have HX := Lib.hid h9
            clear h9
            go_wp2_with (first | go_skip | (refine sWL ?_; simp only [Act.put, k_a, k_b, k_c, k_d, k_e, k_f, k_g, k_h, NodeS.cells, OpS.cells, ResS.cells]) | (refine sWM ?_; simp only [Act.put, k_a, k_b, k_c]) | ((first | refine sWS ?_ | refine sWT ?_); clear HX; intro w HX; simp only [Act.put, k_a, k_b, k_c, setMany, Nat.reduceAdd, NodeS.cells, OpS.cells, ResS.cells] at HX ⊢) | (refine sWA ?_; clear HX; (first | (have hq := b4; clear hq; intro w b5 HX) | (have hq := b3; clear hq; intro w b4 HX) | (have hq := b2; clear hq; intro w b3 HX) | (have hq := b; clear hq; intro w b2 HX) | intro w b HX); simp only [Act.put, k_a, k_b, k_c]) | ((first | (refine sWN ?_; clear HX; intro w mm HX) | (refine sWP ?_; clear HX; intro w av nv cv HX)); simp only [Act.put, k_a, k_b, k_c]))
            refine (ownt_any HX.out room (by rw [HS1.out.2.2]) (HS1.out.1.ok (by have := HL.out; omega)) (by have := HS1.out.1.many; omega) (fun e he => by have := HS1.out.1.keys e he; omega)).mono ?_
            rintro e w ⟨bf, P8, rfl, hP8, hx⟩
            have h9 := (rt_mono hx.up3 hP8).up3.up2
            clear HX hx
            have HX := Lib.hid h9
            have HP8 := Lib.hid hP8
            clear h9 hP8
            go_wp2_with (first | go_skip | (refine sWL ?_; simp only [Act.put, k_a, k_b, k_c, k_d, k_e, k_f, k_g, k_h, NodeS.cells, OpS.cells, ResS.cells]) | (refine sWM ?_; simp only [Act.put, k_a, k_b, k_c]) | ((first | refine sWS ?_ | refine sWT ?_); clear HX; intro w HX; simp only [Act.put, k_a, k_b, k_c, setMany, Nat.reduceAdd, NodeS.cells, OpS.cells, ResS.cells] at HX ⊢) | (refine sWA ?_; clear HX; (first | (have hq := b4; clear hq; intro w b5 HX) | (have hq := b3; clear hq; intro w b4 HX) | (have hq := b2; clear hq; intro w b3 HX) | (have hq := b; clear hq; intro w b2 HX) | intro w b HX); simp only [Act.put, k_a, k_b, k_c]) | ((first | (refine sWN ?_; clear HX; intro w mm HX) | (refine sWP ?_; clear HX; intro w av nv cv HX)); simp only [Act.put, k_a, k_b, k_c]))
            refine (samet_any HX.out (by have := HS1.out.1.many; omega)).mono ?_
            rintro e w ⟨rfl, hx⟩
            clear HX
            have HX := Lib.hid hx
            clear hx
            go_wp2_with (first | go_skip | (refine sWL ?_; simp only [Act.put, k_a, k_b, k_c, k_d, k_e, k_f, k_g, k_h, NodeS.cells, OpS.cells, ResS.cells]) | (refine sWM ?_; simp only [Act.put, k_a, k_b, k_c]) | ((first | refine sWS ?_ | refine sWT ?_); clear HX; intro w HX; simp only [Act.put, k_a, k_b, k_c, setMany, Nat.reduceAdd, NodeS.cells, OpS.cells, ResS.cells] at HX ⊢) | (refine sWA ?_; clear HX; (first | (have hq := b4; clear hq; intro w b5 HX) | (have hq := b3; clear hq; intro w b4 HX) | (have hq := b2; clear hq; intro w b3 HX) | (have hq := b; clear hq; intro w b2 HX) | intro w b HX); simp only [Act.put, k_a, k_b, k_c]) | ((first | (refine sWN ?_; clear HX; intro w mm HX) | (refine sWP ?_; clear HX; intro w av nv cv HX)); simp only [Act.put, k_a, k_b, k_c]))
            go_roundg (l0.length - (i + 1))
            case rel => exact ⟨i + 1, P8, by omega, by go_num, HP8.out _ (HPX.out _ HP.out), by rw [HNX.out]; exact HX.out.sel [0, 2, 3] rfl⟩
            case measure => omega
        · have q3 : (op == 0) = false := by rw [beq_eq_false_iff_ne]; exact hop
          by_cases hop1 : op = 1
          · subst hop1
            obtain ⟨⟨⟨n1, z1, e1, t1, rs1⟩, S1⟩, hm1⟩ : ∃ m1, requestT S asess num zxid ops = m1 := ⟨_, rfl⟩
            have hmt : mactT S ⟨1, asess, zxid, num, .slice oa on oc, ops⟩ = S1 := by rw [mact1, hm1]
            have HNX := Lib.hid (HNX0.out.trans hmt)
            rw [hmt] at HS1
            have HRS := Lib.hid (show rs1.length ≤ 16 by have := request_rs S asess num zxid ops; rw [hm1] at this; exact this)
            have HM1 := Lib.hid hm1
            clear HNX0 hmt hm1
            go_wp2_with (first | go_skip | (refine sWL ?_; simp only [Act.put, k_a, k_b, k_c, k_d, k_e, k_f, k_g, k_h, NodeS.cells, OpS.cells, ResS.cells]) | (refine sWM ?_; simp only [Act.put, k_a, k_b, k_c]) | ((first | refine sWS ?_ | refine sWT ?_); clear HX; intro w HX; simp only [Act.put, k_a, k_b, k_c, setMany, Nat.reduceAdd, NodeS.cells, OpS.cells, ResS.cells] at HX ⊢) | (refine sWA ?_; clear HX; (first | (have hq := b4; clear hq; intro w b5 HX) | (have hq := b3; clear hq; intro w b4 HX) | (have hq := b2; clear hq; intro w b3 HX) | (have hq := b; clear hq; intro w b2 HX) | intro w b HX); simp only [Act.put, k_a, k_b, k_c]) | ((first | (refine sWN ?_; clear HX; intro w mm HX) | (refine sWP ?_; clear HX; intro w av nv cv HX)); simp only [Act.put, k_a, k_b, k_c]))
            have h1 := request_any HX.out.up3.up1 hd HB.out.1 (by omega) asess num zxid ops _ HQV.out (fun o ho => by have := HLO.out.2 o ho; omega)
            rw [HM1.out] at h1
            refine h1.mono ?_
            clear h1
            rintro e w ⟨v9, P2, rfl, hP2, ⟨a9, n9, c9, xs9, rfl, hrl9, hmem9⟩, hx⟩
            have h2 := (rt_mono hx.up3 hP2).up1
            clear HX
            have HX := Lib.hid h2
            have HP2 := Lib.hid (show _ ∧ _ ∧ _ from ⟨hP2, hrl9, hmem9⟩)
            clear hx h2 hP2 hrl9 hmem9
            dsimp only at HX HP2 ⊢
            go_wp2_with (first | go_skip | (refine sWL ?_; simp only [Act.put, k_a, k_b, k_c, k_d, k_e, k_f, k_g, k_h, NodeS.cells, OpS.cells, ResS.cells]) | (refine sWM ?_; simp only [Act.put, k_a, k_b, k_c]) | ((first | refine sWS ?_ | refine sWT ?_); clear HX; intro w HX; simp only [Act.put, k_a, k_b, k_c, setMany, Nat.reduceAdd, NodeS.cells, OpS.cells, ResS.cells] at HX ⊢) | (refine sWA ?_; clear HX; (first | (have hq := b4; clear hq; intro w b5 HX) | (have hq := b3; clear hq; intro w b4 HX) | (have hq := b2; clear hq; intro w b3 HX) | (have hq := b; clear hq; intro w b2 HX) | intro w b HX); simp only [Act.put, k_a, k_b, k_c]) | ((first | (refine sWN ?_; clear HX; intro w mm HX) | (refine sWP ?_; clear HX; intro w av nv cv HX)); simp only [Act.put, k_a, k_b, k_c]))
            have h1 := ask10_any HX.out.up2.up2 HB.out.1 (by omega) asess num zxid ops _ (HP2.out.1 _ HQV.out) (fun o ho => by have := HLO.out.2 o ho; omega)
            rw [HM1.out] at h1
            refine h1.mono ?_
            clear h1
            rintro e w ⟨v8, P3, rfl, hP3, ⟨a8, n8, c8, xs8, rfl, hrl8, hmem8⟩, hx⟩
            have h2 := (tree_mono hx.up3 hP3).up2.up2
            clear HX
            have HX := Lib.hid h2
            have HP3 := Lib.hid (show _ ∧ _ ∧ _ from ⟨hP3, hrl8, hmem8⟩)
            have HPX := Lib.hid (show ∀ q ∈ P1, q ∈ P3 from fun q hq => hP3 q (HP2.out.1 q (HSUB.out q hq)))
            clear hx h2 hP3 hrl8 hmem8
            dsimp only at HX HP3 ⊢
            go_wp2_with (first | go_skip | (refine sWL ?_; simp only [Act.put, k_a, k_b, k_c, k_d, k_e, k_f, k_g, k_h, NodeS.cells, OpS.cells, ResS.cells]) | (refine sWM ?_; simp only [Act.put, k_a, k_b, k_c]) | ((first | refine sWS ?_ | refine sWT ?_); clear HX; intro w HX; simp only [Act.put, k_a, k_b, k_c, setMany, Nat.reduceAdd, NodeS.cells, OpS.cells, ResS.cells] at HX ⊢) | (refine sWA ?_; clear HX; (first | (have hq := b4; clear hq; intro w b5 HX) | (have hq := b3; clear hq; intro w b4 HX) | (have hq := b2; clear hq; intro w b3 HX) | (have hq := b; clear hq; intro w b2 HX) | intro w b HX); simp only [Act.put, k_a, k_b, k_c]) | ((first | (refine sWN ?_; clear HX; intro w mm HX) | (refine sWP ?_; clear HX; intro w av nv cv HX)); simp only [Act.put, k_a, k_b, k_c]))
            have h9 := HX.out.up1
            clear HX
            have HX := Lib.hid h9
            clear h9
            refine wp_region_M (fun W => Sep V0 W (ThPool V0 P3 :: ThCell b4 (.cells #[.int .i64 n1, .int .i64 z1, .int .i64 e1, .int .i64 t1, .slice a8 n8 c8] 70 (0, 0)) :: ThRt b S1 P3 :: ThTree t S1 P3 :: ThCell b3 (.cells #[.int .i64 n1, .int .i64 z1, .int .i64 e1, .int .i64 t1, .slice a9 n9 c9] 41 (0, 0)) :: ThCell b2 (.cells #[.int .i64 1, .int .i64 asess, .int .i64 zxid, .int .i64 num, .slice oa on oc] 57 (0, 0)) :: []) []) 4 (by kernel_rfl) ?_
            have KEEPX : ∀ W, Sep V0 W (ThPool V0 P3 :: ThCell b4 (.cells #[.int .i64 n1, .int .i64 z1, .int .i64 e1, .int .i64 t1, .slice a8 n8 c8] 70 (0, 0)) :: ThRt b S1 P3 :: ThTree t S1 P3 :: ThCell b3 (.cells #[.int .i64 n1, .int .i64 z1, .int .i64 e1, .int .i64 t1, .slice a9 n9 c9] 41 (0, 0)) :: ThCell b2 (.cells #[.int .i64 1, .int .i64 asess, .int .i64 zxid, .int .i64 num, .slice oa on oc] 57 (0, 0)) :: []) [] → Sep V0 W (ThPool V0 P3 :: ThCell b4 (.cells #[.int .i64 n1, .int .i64 z1, .int .i64 e1, .int .i64 t1, .slice a8 n8 c8] 70 (0, 0)) :: ThRt b S1 P3 :: ThTree t S1 P3 :: ThCell b3 (.cells #[.int .i64 n1, .int .i64 z1, .int .i64 e1, .int .i64 t1, .slice a9 n9 c9] 41 (0, 0)) :: ThCell b2 (.cells #[.int .i64 1, .int .i64 asess, .int .i64 zxid, .int .i64 num, .slice oa on oc] 57 (0, 0)) :: []) [] := fun _ h => h
            replace HX := Lib.hid HX.out.drew
            refine wpAnyM_take (by kernel_rfl) (by intro c a d v w h; cases d <;> exact h) [(0, true), (2, true)] (fuel := 3) (by kernel_rfl) ?_
            apply Exists.intro; refine ⟨?_, HX.out, ?_⟩
            · iterate 2 (refine yE ?_)
              exact rfl
            refine wpAnyM_one (fuel := 2) (i := 1) (by kernel_rfl) (by (simp only [k_i, k_j, k_k]; try rfl)) (fun K hK => ?_)
            go_wp2_with fail
            refine (rp_any HX.out _ _ _ _ _ _ _).mono ?_
            rintro e w ⟨rfl, hx⟩
            clear HX
            have HX := Lib.hid hx
            clear hx
            go_wp2_with fail
            refine hK _ _ HX.out ?_
            clear hK
            refine wpAnyM_one (fuel := 1) (i := 3) (by kernel_rfl) (by (simp only [k_i, k_j, k_k]; try rfl)) (fun K hK => ?_)
            go_wp2_with fail
            refine (samereply_any HX.out ⟨n1, z1, e1, t1, rs1⟩ _ _ ⟨a9, n9, c9, xs9, rfl, HP2.out.2.1.mono HP3.out.1, HP3.out.1 _ HP2.out.2.2⟩ ⟨a8, n8, c8, xs8, rfl, HP3.out.2.1, HP3.out.2.2⟩ (by have := HRS.out; dsimp only; omega)).mono ?_
            rintro e w ⟨rfl, hx⟩
            clear HX
            have HX := Lib.hid hx
            clear hx
            go_wp2_with fail
            refine hK _ _ HX.out ?_
            clear hK
            refine wpAnyM_of_any _ _ _ _ (by decide) ?_
            refine wpAny_list [4] (fuel := 0) (by kernel_rfl) ?_
            simp only [List.filterMap_cons, List.filterMap_nil, k_i, k_j, k_k]
            have h9 := HX.out.up2.up3.up2
            clear HX
            have HX := Lib.hid h9
            clear h9
            go_wp2_with (first | go_skip | (refine sWL ?_; simp only [Act.put, k_a, k_b, k_c, k_d, k_e, k_f, k_g, k_h, NodeS.cells, OpS.cells, ResS.cells]) | (refine sWM ?_; simp only [Act.put, k_a, k_b, k_c]) | ((first | refine sWS ?_ | refine sWT ?_); clear HX; intro w HX; simp only [Act.put, k_a, k_b, k_c, setMany, Nat.reduceAdd, NodeS.cells, OpS.cells, ResS.cells] at HX ⊢) | (refine sWA ?_; clear HX; (first | (have hq := b4; clear hq; intro w b5 HX) | (have hq := b3; clear hq; intro w b4 HX) | (have hq := b2; clear hq; intro w b3 HX) | (have hq := b; clear hq; intro w b2 HX) | intro w b HX); simp only [Act.put, k_a, k_b, k_c]) | ((first | (refine sWN ?_; clear HX; intro w mm HX) | (refine sWP ?_; clear HX; intro w av nv cv HX)); simp only [Act.put, k_a, k_b, k_c]))
            refine (ownt_any HX.out room (by rw [HS1.out.2.2]) (HS1.out.1.ok (by have := HL.out; omega)) (by have := HS1.out.1.many; omega) (fun e he => by have := HS1.out.1.keys e he; omega)).mono ?_
            rintro e w ⟨bf, P8, rfl, hP8, hx⟩
            have h9 := (rt_mono hx.up3 hP8).up3.up2
            clear HX hx
            have HX := Lib.hid h9
            have HP8 := Lib.hid hP8
            clear h9 hP8
            go_wp2_with (first | go_skip | (refine sWL ?_; simp only [Act.put, k_a, k_b, k_c, k_d, k_e, k_f, k_g, k_h, NodeS.cells, OpS.cells, ResS.cells]) | (refine sWM ?_; simp only [Act.put, k_a, k_b, k_c]) | ((first | refine sWS ?_ | refine sWT ?_); clear HX; intro w HX; simp only [Act.put, k_a, k_b, k_c, setMany, Nat.reduceAdd, NodeS.cells, OpS.cells, ResS.cells] at HX ⊢) | (refine sWA ?_; clear HX; (first | (have hq := b4; clear hq; intro w b5 HX) | (have hq := b3; clear hq; intro w b4 HX) | (have hq := b2; clear hq; intro w b3 HX) | (have hq := b; clear hq; intro w b2 HX) | intro w b HX); simp only [Act.put, k_a, k_b, k_c]) | ((first | (refine sWN ?_; clear HX; intro w mm HX) | (refine sWP ?_; clear HX; intro w av nv cv HX)); simp only [Act.put, k_a, k_b, k_c]))
            refine (samet_any HX.out (by have := HS1.out.1.many; omega)).mono ?_
            rintro e w ⟨rfl, hx⟩
            clear HX
            have HX := Lib.hid hx
            clear hx
            go_wp2_with (first | go_skip | (refine sWL ?_; simp only [Act.put, k_a, k_b, k_c, k_d, k_e, k_f, k_g, k_h, NodeS.cells, OpS.cells, ResS.cells]) | (refine sWM ?_; simp only [Act.put, k_a, k_b, k_c]) | ((first | refine sWS ?_ | refine sWT ?_); clear HX; intro w HX; simp only [Act.put, k_a, k_b, k_c, setMany, Nat.reduceAdd, NodeS.cells, OpS.cells, ResS.cells] at HX ⊢) | (refine sWA ?_; clear HX; (first | (have hq := b4; clear hq; intro w b5 HX) | (have hq := b3; clear hq; intro w b4 HX) | (have hq := b2; clear hq; intro w b3 HX) | (have hq := b; clear hq; intro w b2 HX) | intro w b HX); simp only [Act.put, k_a, k_b, k_c]) | ((first | (refine sWN ?_; clear HX; intro w mm HX) | (refine sWP ?_; clear HX; intro w av nv cv HX)); simp only [Act.put, k_a, k_b, k_c]))
            go_roundg (l0.length - (i + 1))
            case rel => exact ⟨i + 1, P8, by omega, by go_num, HP8.out _ (HPX.out _ HP.out), by rw [HNX.out]; exact HX.out.sel [0, 2, 3] rfl⟩
            case measure => omega
          · have q4 : (op == 1) = false := by rw [beq_eq_false_iff_ne]; exact hop1
            have hmt : mactT S ⟨op, asess, zxid, num, .slice oa on oc, ops⟩ = purT (purgeS (ofT S asess)) S := mact2 S _ _ _ _ _ _ hop hop1
            have HNX := Lib.hid (HNX0.out.trans hmt)
            rw [hmt] at HS1
            clear HNX0 hmt hop hop1
            go_wp2_with (first | go_skip | (refine sWL ?_; simp only [Act.put, k_a, k_b, k_c, k_d, k_e, k_f, k_g, k_h, NodeS.cells, OpS.cells, ResS.cells]) | (refine sWM ?_; simp only [Act.put, k_a, k_b, k_c]) | ((first | refine sWS ?_ | refine sWT ?_); clear HX; intro w HX; simp only [Act.put, k_a, k_b, k_c, setMany, Nat.reduceAdd, NodeS.cells, OpS.cells, ResS.cells] at HX ⊢) | (refine sWA ?_; clear HX; (first | (have hq := b4; clear hq; intro w b5 HX) | (have hq := b3; clear hq; intro w b4 HX) | (have hq := b2; clear hq; intro w b3 HX) | (have hq := b; clear hq; intro w b2 HX) | intro w b HX); simp only [Act.put, k_a, k_b, k_c]) | ((first | (refine sWN ?_; clear HX; intro w mm HX) | (refine sWP ?_; clear HX; intro w av nv cv HX)); simp only [Act.put, k_a, k_b, k_c]))
            refine wp_region_M (fun W => (∃ Ts, Sep V0 W (ThCell b2 (.cells #[.int .i64 op, .int .i64 asess, .int .i64 zxid, .int .i64 num, .slice oa on oc] 57 (0, 0)) :: Ts) [])) 9 (by kernel_rfl) ?_
            have KEEPX : ∀ W, (∃ Ts, Sep V0 W (ThCell b2 (.cells #[.int .i64 op, .int .i64 asess, .int .i64 zxid, .int .i64 num, .slice oa on oc] 57 (0, 0)) :: Ts) []) → (∃ Ts, Sep V0 W (ThCell b2 (.cells #[.int .i64 op, .int .i64 asess, .int .i64 zxid, .int .i64 num, .slice oa on oc] 57 (0, 0)) :: Ts) []) := fun _ h => h
            replace HX := Lib.hid HX.out.drew
            have hl : ∀ V, (∃ Ts, Sep V0 V (ThCell b2 (.cells #[.int .i64 op, .int .i64 asess, .int .i64 zxid, .int .i64 num, .slice oa on oc] 57 (0, 0)) :: Ts) []) → (Instr.loadAt 2 (.pointer (some ⟨b2, 1, none⟩))).run Tryz.prog V = .ok (.int .i64 asess) V := by
              rintro V ⟨Ts, hV⟩
              exact run_load_scalar (by kernel_rfl) (cell_of hV.blk 1 rfl)
            refine wpAnyM_take (by kernel_rfl) (by intro c a d v w h; cases d <;> exact h) [(0, false), (1, false), (2, true), (4, false), (5, false), (6, true)] (fuel := 4) (by kernel_rfl) ?_
            apply Exists.intro; refine ⟨?_, ⟨_, HX.out.up1⟩, ?_⟩
            · iterate 6 (refine yE ?_)
              exact rfl
            clear hl
            refine wpAnyM_one (fuel := 3) (i := 3) (by kernel_rfl) (by (simp only [k_i, k_j, k_k]; try rfl)) (fun K hK => ?_)
            go_wp2_with fail
            refine (purge_any HX.out.up3.up1 hd HB.out.1 (by omega) asess).mono ?_
            rintro e w1 ⟨l', -, hpu, v', P4, rfl, hP4, hx⟩
            obtain rfl := hpu (of_deep HB.out.2.1 asess)
            have h2 := (rt_mono (tree_mono hx.poolRow.up1 (P' := (1, v', (purgeS (ofT S asess)).map sv) :: P4) (fun q hq => k_n _ hq)).up3 (P' := (1, v', (purgeS (ofT S asess)).map sv) :: P4) (fun q hq => k_n _ (hP4 q hq))).up2
            obtain ⟨P5, hP5⟩ : ∃ P5, (1, v', (purgeS (ofT S asess)).map sv) :: P4 = P5 := ⟨_, rfl⟩
            rw [hP5] at h2
            have HP5 := Lib.hid (show (1, v', (purgeS (ofT S asess)).map sv) ∈ P5 ∧ ∀ q ∈ P1, q ∈ P5 from ⟨by rw [← hP5]; exact k_s, fun q hq => by rw [← hP5]; exact k_n _ (hP4 q (HSUB.out q hq))⟩)
            clear HX hx hP4 hP5 hpu
            have HX := Lib.hid h2
            clear h2
            go_wp2_with fail
            refine hK _ _ ⟨_, HX.out.up3⟩ ?_
            clear hK
            refine wpAnyM_one (fuel := 2) (i := 7) (by kernel_rfl) (by (simp only [k_i, k_j, k_k]; try rfl)) (fun K hK => ?_)
            go_wp2_with fail
            refine (purge10_any HX.out HB.out.1 (by omega) asess).mono ?_
            rintro e w1 ⟨v8, P6, rfl, hP6, hx⟩
            have h2 := hx.poolRow
            obtain ⟨P7, hP7⟩ : ∃ P7, (1, v8, (purgeS (ofT S asess)).map sv) :: P6 = P7 := ⟨_, rfl⟩
            rw [hP7] at h2
            have HP7 := Lib.hid (show (1, v8, (purgeS (ofT S asess)).map sv) ∈ P7 ∧ ∀ q ∈ P5, q ∈ P7 from ⟨by rw [← hP7]; exact k_s, fun q hq => by rw [← hP7]; exact k_n _ (hP6 q hq)⟩)
            have h3 := (rt_mono (tree_mono h2.up2 HP7.out.2).up2 (P' := P7) (fun q hq => by rw [← hP7]; exact k_n _ hq)).up2
            have HPX := Lib.hid (show ∀ q ∈ P1, q ∈ P7 from fun q hq => HP7.out.2 q (HP5.out.2 q hq))
            clear HX hx hP6 hP7 h2
            have HX := Lib.hid h3
            clear h3
            go_wp2_with fail
            refine hK _ _ ⟨_, HX.out.up3⟩ ?_
            clear hK
            refine wpAnyM_one (fuel := 1) (i := 8) (by kernel_rfl) (by (simp only [k_i, k_j, k_k]; try rfl)) (fun K hK => ?_)
            go_wp2_with fail
            refine (sames_any HX.out _ _ _ (HP7.out.2 _ HP5.out.1) HP7.out.1).mono ?_
            rintro e w ⟨rfl, hx⟩
            clear HX
            have HX := Lib.hid hx
            clear hx
            go_wp2_with fail
            refine hK _ _ ⟨_, HX.out.up3⟩ ?_
            clear hK
            refine wpAnyM_of_any _ _ _ _ (by decide) ?_
            refine wpAny_list [9] (fuel := 0) (by kernel_rfl) ?_
            simp only [List.filterMap_cons, List.filterMap_nil, k_i, k_j, k_k]
            have h9 := HX.out.up2.up1
            clear HX
            have HX := Lib.hid h9
            clear h9
            go_wp2_with (first | go_skip | (refine sWL ?_; simp only [Act.put, k_a, k_b, k_c, k_d, k_e, k_f, k_g, k_h, NodeS.cells, OpS.cells, ResS.cells]) | (refine sWM ?_; simp only [Act.put, k_a, k_b, k_c]) | ((first | refine sWS ?_ | refine sWT ?_); clear HX; intro w HX; simp only [Act.put, k_a, k_b, k_c, setMany, Nat.reduceAdd, NodeS.cells, OpS.cells, ResS.cells] at HX ⊢) | (refine sWA ?_; clear HX; (first | (have hq := b4; clear hq; intro w b5 HX) | (have hq := b3; clear hq; intro w b4 HX) | (have hq := b2; clear hq; intro w b3 HX) | (have hq := b; clear hq; intro w b2 HX) | intro w b HX); simp only [Act.put, k_a, k_b, k_c]) | ((first | (refine sWN ?_; clear HX; intro w mm HX) | (refine sWP ?_; clear HX; intro w av nv cv HX)); simp only [Act.put, k_a, k_b, k_c]))
            refine (ownt_any HX.out room (by rw [HS1.out.2.2]) (HS1.out.1.ok (by have := HL.out; omega)) (by have := HS1.out.1.many; omega) (fun e he => by have := HS1.out.1.keys e he; omega)).mono ?_
            rintro e w ⟨bf, P8, rfl, hP8, hx⟩
            have h9 := (rt_mono hx.up3 hP8).up3.up2
            clear HX hx
            have HX := Lib.hid h9
            have HP8 := Lib.hid hP8
            clear h9 hP8
            go_wp2_with (first | go_skip | (refine sWL ?_; simp only [Act.put, k_a, k_b, k_c, k_d, k_e, k_f, k_g, k_h, NodeS.cells, OpS.cells, ResS.cells]) | (refine sWM ?_; simp only [Act.put, k_a, k_b, k_c]) | ((first | refine sWS ?_ | refine sWT ?_); clear HX; intro w HX; simp only [Act.put, k_a, k_b, k_c, setMany, Nat.reduceAdd, NodeS.cells, OpS.cells, ResS.cells] at HX ⊢) | (refine sWA ?_; clear HX; (first | (have hq := b4; clear hq; intro w b5 HX) | (have hq := b3; clear hq; intro w b4 HX) | (have hq := b2; clear hq; intro w b3 HX) | (have hq := b; clear hq; intro w b2 HX) | intro w b HX); simp only [Act.put, k_a, k_b, k_c]) | ((first | (refine sWN ?_; clear HX; intro w mm HX) | (refine sWP ?_; clear HX; intro w av nv cv HX)); simp only [Act.put, k_a, k_b, k_c]))
            refine (samet_any HX.out (by have := HS1.out.1.many; omega)).mono ?_
            rintro e w ⟨rfl, hx⟩
            clear HX
            have HX := Lib.hid hx
            clear hx
            go_wp2_with (first | go_skip | (refine sWL ?_; simp only [Act.put, k_a, k_b, k_c, k_d, k_e, k_f, k_g, k_h, NodeS.cells, OpS.cells, ResS.cells]) | (refine sWM ?_; simp only [Act.put, k_a, k_b, k_c]) | ((first | refine sWS ?_ | refine sWT ?_); clear HX; intro w HX; simp only [Act.put, k_a, k_b, k_c, setMany, Nat.reduceAdd, NodeS.cells, OpS.cells, ResS.cells] at HX ⊢) | (refine sWA ?_; clear HX; (first | (have hq := b4; clear hq; intro w b5 HX) | (have hq := b3; clear hq; intro w b4 HX) | (have hq := b2; clear hq; intro w b3 HX) | (have hq := b; clear hq; intro w b2 HX) | intro w b HX); simp only [Act.put, k_a, k_b, k_c]) | ((first | (refine sWN ?_; clear HX; intro w mm HX) | (refine sWP ?_; clear HX; intro w av nv cv HX)); simp only [Act.put, k_a, k_b, k_c]))
            go_roundg (l0.length - (i + 1))
            case rel => exact ⟨i + 1, P8, by omega, by go_num, HP8.out _ (HPX.out _ HP.out), by rw [HNX.out]; exact HX.out.sel [0, 2, 3] rfl⟩
            case measure => omega
end
end Go.Proofs.YtjeaoopamebgjaaGreatDoor

namespace Go.Av
variable {H : Type} {enc : TypeId × Value → H}
theorem handed_both {a : Assume} {C : Checked} {os : Os} {f : FuncId} {fn : Func} {s : ChangeSpec} {conds : List PathCond} {apart fresh handsOn again : Bool} {X : World → Array Value → Prop}
    (hX : ∀ (w w' : World) (args : Array Value), w.heap = w'.heap → X w args → X w' args)
    (own : ownKnob C.prog.godebug = none) (started : os.Started) (noInit : C.prog.inits.idxOf? f = none) (hfn : C.prog.funcs[f]? = some fn)
    (witness : ∃ (w : World) (tape : Tape) (i : Input), w.os = os ∧ (w.forCall tape i).Shaped C.prog ∧ i.vars = [] ∧ Input.okWide C.prog (w.forCall tape i) .any w.heap.size f i ∧
      ((s.pre enc C.prog fn conds apart (w.forCall tape i).memory i.args ∧ X (w.forCall tape i).memory i.args) ∧ sizedMet enc C.prog fn (OpenSpec.ofChange s) apart (w.forCall tape i).memory i.args) ∧ a.holds C.prog (lone (Frame.enter C.prog f i.args .normal) [] (w.forCall tape i)))
    (contract : ∀ (W : World) (base : Nat) (args : Array Value) (ds gs : List (DataW H)) (before : List MemPlace),
      (∀ (j : Nat) t v, fn.params[j]? = some t → args[j]? = some v → Value.okWide C.prog W .any base t v) →
      DataW.Whole enc C.prog fn.params.toList s.vars apart W args.toList ds gs before →
      W.ShapedOpen C.prog → X W args →
      Calls C.prog f args W fun e W' => ∃ v, e = .returned v ∧ s.post enc C.prog fn apart fresh handsOn again W args v W') :
    ReturnsInHanded a C os f .any (fun w args => (s.pre enc C.prog fn conds apart w args ∧ X w args) ∧ sizedMet enc C.prog fn (OpenSpec.ofChange s) apart w args) (s.post enc C.prog fn apart fresh handsOn again) := by
  refine returnsInHanded_of_calls own started noInit witness ?_
  intro w tape i _ hsh _ hok hpre hholds
  obtain ⟨_, _, _, fn', hfn', _, _, _, _, hval⟩ := hok
  have e : fn' = fn := Option.some.inj (hfn'.symm.trans hfn)
  subst e
  obtain ⟨⟨⟨ds, gs, before, hw, hc⟩, hx⟩, hz⟩ := hpre
  have hw' := DataW.Whole.of_heap (w' := w.forCall tape i) (by rfl) hw
  refine (contract (w.forCall tape i) w.heap.size i.args ds gs before hval hw' hsh (hX _ _ _ (by rfl) hx)).mono fun e W' ⟨v, he, hp⟩ => ?_
  subst he
  exact ChangeSpec.post_blind hp
end Go.Av
namespace Go.Proofs.YtjeaoopamebgjaaGreatDoor
open Go.Av
theorem door_of {W : World} (h : W.ShapedOpen Tryz.prog) : Door W := Tryz.laysM146.s1_3 W h
end Go.Proofs.YtjeaoopamebgjaaGreatDoor

namespace Go.Av
theorem laid_tail {P : Program} {w : World} {x : String × DataW Unit} {rest : List (String × DataW Unit)} (h : ∃ ps, DataW.LaidVars P w (x :: rest) ps) : ∃ ps, DataW.LaidVars P w rest ps := by
  obtain ⟨ps, g, t, cs, fuel, p, q, -, -, -, -, h1, h2⟩ := h
  exact ⟨q, by assumption⟩
theorem tab_head {P : Program} {W : World} {name : String} {k : IntKind} {zs : List Int} {rest : List (String × DataW Unit)} {g : Nat} {t e : TypeId} {n : Nat}
    (hg : P.globalNamed name = some g) (hty : (P.globals[g]?).map (·.type) = some t) (ht : P.underlying t = some (.array n e)) (he : P.underlying e = some (.int k)) (hce : P.cellsOf e = 1) (hct : P.cellsOf t = n)
    (h : ∃ ps, DataW.LaidVars P W ((name, Lib.tabData k zs) :: rest) ps) : Lib.TabIs P W name k zs := by
  obtain ⟨ps, g', t', cs, fuel, p, q, hg', ht', hvar, hd, _, _⟩ := h
  obtain rfl := Option.some.inj (hg.symm.trans hg')
  obtain rfl := Option.some.inj (hty.symm.trans ht')
  unfold Lib.TabIs
  rw [hvar, ← Lib.cells_of_tab ht he hce hct hd]
end Go.Av
namespace Go.Proofs.YtjeaoopamebgjaaGreatDoor
open Go.Av
theorem doorN_of {W : World} {a b c : String × DataW Unit} {r : List (String × DataW Unit)} (h : W.ShapedOpen Tryz.prog) (hc : c = ("internal/strconv.uint64pow10", Lib.tabData .u64 Lib.pow10Tab)) (hl : laidMet Tryz.prog (a :: b :: c :: r) W) : DoorN W := by
  subst hc
  obtain ⟨ps, h1, -⟩ := hl
  refine ⟨door_of h, ?_⟩
  exact tab_head (g := 3) (by kernel_rfl) (by kernel_rfl) Tryz.underlying213 Tryz.underlying163 (by kernel_rfl) (by kernel_rfl) (laid_tail (laid_tail ⟨ps, h1⟩))
end Go.Proofs.YtjeaoopamebgjaaGreatDoor
