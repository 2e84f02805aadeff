/-
  Texts of this claim, laid together.
-/
import Derived.Test.YtjeaoopamebgjaaGreatDoorMg5
set_option linter.unusedVariables false
set_option linter.unusedSimpArgs false

namespace Go.Proofs.YtjeaoopamebgjaaGreatDoor
open Go.RowKit Go.Av
section
variable {w0 w : World} {b : Nat} {S : TreeS} {P P' : List PRow} {R : List Thing} {rows : List (Value × Bs)}
set_option maxRecDepth 100000 in
set_option maxHeartbeats 8000000 in
theorem rtlay_any (h : Sep w0 w (ThPool w0 P :: ThRt b S P :: R) rows) (p : ByteArray) (n : NodeS) (na : Option Addr) (nn nc : Nat) (hv : (1, Value.slice na nn nc, n.names.map sv) ∈ P) (hn : S.l.length ≤ 100000) :
    Calls Tryz.prog 107 #[.pointer (some ⟨b, 0, none⟩), .agg #[.string p, .int .i64 n.made, .int .i64 n.changed, .int .i64 n.ver, .int .i64 n.kids, .int .i64 n.owner, .int .i64 (n.data.size : Nat), .int .i64 (n.names.length : Nat), .string n.data, .int .i64 n.next, .slice na nn nc]] w
      (RtPost w0 b { S with l := S.l.take (placeS (keysT S) p.data.toList) ++ (p.data.toList, n) :: S.l.drop (placeS (keysT S) p.data.toList) } P R rows (.tuple #[])) := by
  have HX := Lib.hid h
  have HV := Lib.hid hv
  clear h hv
  go_enter Tryz.func107, Tryz.ntmps107
  go_wp2_with (first | (refine sWL ?_; simp only [Act.put, k_a, k_b, k_c, k_d, k_e, k_f, k_g, k_h, NodeS.cells, OpS.cells, ResS.cells]) | (refine sWM ?_; simp only [Act.put, k_a, k_b, k_c]) | ((first | refine sWS ?_ | refine sWT ?_); clear HX; intro w HX; simp only [Act.put, k_a, k_b, k_c, setMany, Nat.reduceAdd, NodeS.cells, OpS.cells, ResS.cells] at HX ⊢) | (refine sWA ?_; clear HX; (first | (have hq := b4; clear hq; intro w b5 HX) | (have hq := b3; clear hq; intro w b4 HX) | (have hq := b2; clear hq; intro w b3 HX) | (have hq := b; clear hq; intro w b2 HX) | intro w b HX); simp only [Act.put, k_a, k_b, k_c]) | ((first | (refine sWN ?_; clear HX; intro w mm HX) | (refine sWP ?_; clear HX; intro w av nv cv HX)); simp only [Act.put, k_a, k_b, k_c]))
  refine (at10_any HX.out.up2 p hn).mono ?_
  unfold AtPost
  have hpl : placeS (keysT S) p.data.toList ≤ S.l.length := by
    have := placeS_le (keysT S) p.data.toList
    unfold keysT at this ⊢
    rwa [List.length_map] at this
  obtain ⟨k, hk⟩ : ∃ k, placeS (keysT S) p.data.toList = k := ⟨_, rfl⟩
  obtain ⟨hb, hhb⟩ : ∃ hb, hasS (keysT S) p.data.toList = hb := ⟨_, rfl⟩
  rw [hk] at hpl ⊢
  rw [hhb]
  have HKK := Lib.hid hk
  clear hk hhb
  rintro e w ⟨rfl, hx⟩
  obtain ⟨a, m, c, xs, he, rfl, hS⟩ := rt_open hx
  have hS1 : Sep w0 w (ThRow 11 (.slice a S.l.length c) xs :: ThPool w0 P :: ThCell b _ :: ThCell b2 _ :: R) rows := hS.pm 4 [1, 3, 0, 2] rfl rfl
  have hone := EntL.one hS1.up1 he
  have hxl := he.len
  obtain ⟨hnc, hnil⟩ : S.l.length ≤ c ∧ (a = none → c = 0) := by
    obtain ⟨D, hD⟩ := hS1.fst
    obtain ⟨_, _, _, e, h1, h2, h3, h4, -⟩ := hD
    simp only [Value.slice.injEq] at e
    obtain ⟨rfl, rfl, rfl⟩ := e
    exact ⟨h2, h4⟩
  obtain ⟨i0, hi0, hz0⟩ := ent_info
  have hS2 := hS1.poolRow
  have h1 := Sep.poolTake hS2 k_s hpl
  have h2 := Sep.poolFrom (P := Tryz.prog) Tryz.underlying67 hi0 (by omega) (lo := k) h1 (by rw [hz0]; exact k_n _ k_s) hpl
  rw [hz0] at h2
  obtain ⟨a', hs2, h3⟩ := h2
  clear HX
  have HX := Lib.hid h3
  have HE := Lib.hid he
  have HONE := Lib.hid (show (∀ u ∈ xs.take (k * 11), u.oneCell' = true) ∧ (∀ u ∈ xs.drop (k * 11), u.oneCell' = true) from ⟨fun u hu => hone u (List.mem_of_mem_take hu), fun u hu => hone u (List.mem_of_mem_drop hu)⟩)
  obtain ⟨P2, hP2⟩ : ∃ P2, (11, Value.slice a' (S.l.length - k) (c - k), xs.drop (k * 11)) :: (11, Value.slice a k c, xs.take (k * 11)) :: (11, Value.slice a S.l.length c, xs) :: P = P2 := ⟨_, rfl⟩
  rw [hP2] at HX
  have HMEM := Lib.hid (show (11, Value.slice a k c, xs.take (k * 11)) ∈ P2 ∧ (11, Value.slice a' (S.l.length - k) (c - k), xs.drop (k * 11)) ∈ P2 by rw [← hP2]; simp)
  have HSUB := Lib.hid (show ∀ q ∈ P, q ∈ P2 by rw [← hP2]; exact fun q hq => k_n _ (k_n _ (k_n _ hq)))
  have hw0 : (k ≤ c) = True := eq_true (by omega)
  have hw1 : (k ≤ S.l.length) = True := eq_true hpl
  have HBD := Lib.hid (show ∀ x, ([] ++ xs.take (k * 11)).length = x * 11 → x + 1 ≤ 140737488355328 ∧ (x + 1) * 120 ≤ 140737488355328 from fun x hx => by simp only [List.nil_append, List.length_take] at hx; omega)
  clear hS hS1 hS2 h1 h3 he hone hP2 hx
  cases a with
  | none =>
    obtain rfl : c = 0 := hnil rfl
    have hn0 : S.l.length = 0 := by omega
    have hk0 : k = 0 := by omega
    have HZ := Lib.hid (show xs = [] ∧ S.l = [] from ⟨List.eq_nil_of_length_eq_zero (by rw [hxl, hn0]), List.eq_nil_of_length_eq_zero hn0⟩)
    subst hk0
    rw [hn0] at HX HMEM hs2
    simp only [Nat.sub_self] at HX HMEM hs2
    have hif : a' = none := by
      have h4 := (run_sliceAt (P := Tryz.prog) Tryz.underlying67 (.slice none 0 0) (some (.int .i64 ((0 : Nat) : Int))) none none w).trans (slice_nil Tryz.underlying67 hi0 w).2
      have h5 := (hs2 w).symm.trans h4
      injection h5 with h6 _
      injection h6 with h7 _ _
    subst hif
    clear hs2 hi0 hz0 hxl
    go_wp2_with (first | (refine sWL ?_; simp only [Act.put, k_a, k_b, k_c, k_d, k_e, k_f, k_g, k_h, NodeS.cells, OpS.cells, ResS.cells]) | (refine sWM ?_; simp only [Act.put, k_a, k_b, k_c]) | ((first | refine sWS ?_ | refine sWT ?_); clear HX; intro w HX; simp only [Act.put, k_a, k_b, k_c, setMany, Nat.reduceAdd, NodeS.cells, OpS.cells, ResS.cells] at HX ⊢) | (refine sWA ?_; clear HX; (first | (have hq := b4; clear hq; intro w b5 HX) | (have hq := b3; clear hq; intro w b4 HX) | (have hq := b2; clear hq; intro w b3 HX) | (have hq := b; clear hq; intro w b2 HX) | intro w b HX); simp only [Act.put, k_a, k_b, k_c]) | ((first | (refine sWN ?_; clear HX; intro w mm HX) | (refine sWP ?_; clear HX; intro w av nv cv HX)); simp only [Act.put, k_a, k_b, k_c]))
    refine wp_region_M (fun W => Sep w0 W (ThPool w0 P2 :: ThCell b (.cells #[.int .i64 S.room, .slice none 0 0] 69 (0, 0)) :: ThCell b2 (.cells #[.string p, .int .i64 n.made, .int .i64 n.changed, .int .i64 n.ver, .int .i64 n.kids, .int .i64 n.owner, .int .i64 (n.data.size : Nat), .int .i64 (n.names.length : Nat), .string n.data, .int .i64 n.next, .slice na nn nc] 87 (0, 0)) :: R) rows) 19 (by kernel_rfl) ?_
    have KEEPX : ∀ W, Sep w0 W (ThPool w0 P2 :: ThCell b (.cells #[.int .i64 S.room, .slice none 0 0] 69 (0, 0)) :: ThCell b2 (.cells #[.string p, .int .i64 n.made, .int .i64 n.changed, .int .i64 n.ver, .int .i64 n.kids, .int .i64 n.owner, .int .i64 (n.data.size : Nat), .int .i64 (n.names.length : Nat), .string n.data, .int .i64 n.next, .slice na nn nc] 87 (0, 0)) :: R) rows → Sep w0 W (ThPool w0 P2 :: ThCell b (.cells #[.int .i64 S.room, .slice none 0 0] 69 (0, 0)) :: ThCell b2 (.cells #[.string p, .int .i64 n.made, .int .i64 n.changed, .int .i64 n.ver, .int .i64 n.kids, .int .i64 n.owner, .int .i64 (n.data.size : Nat), .int .i64 (n.names.length : Nat), .string n.data, .int .i64 n.next, .slice na nn nc] 87 (0, 0)) :: R) rows := fun _ h => h
    replace HX := Lib.hid HX.out.drew
    refine wpAnyM_take (by kernel_rfl) (by intro c a d v w h; cases d <;> exact h) [(0, false), (2, false), (3, false), (4, false), (5, true), (6, false), (7, false), (9, true), (12, false), (13, false), (14, false), (15, true), (16, false), (17, false)] (fuel := 8) (by kernel_rfl) ?_
    apply Exists.intro; refine ⟨?_, HX.out, ?_⟩
    · iterate 14 (first | refine yE ?_ | ((first | apply yieldP | apply yieldL); (· (simp only [k_i, k_j, k_k]; try rfl)); (· rfl); (· (intros; go_simp; (try simp only [hn0, ↓reduceIte, and_self, Int.toNat_natCast]); try with_reducible rfl)); (· (simp only [Act.put, k_a, k_b, k_c, k_d, k_e, k_f, k_g, k_h, NodeS.cells, OpS.cells, ResS.cells]; try rfl))))
      exact rfl
    refine wpAnyM_each (fuel := 7) [1, 10] (by kernel_rfl) (by simp) (fun i hi => ?_)
    simp only [List.mem_cons, List.not_mem_nil, or_false] at hi
    rcases hi with rfl | rfl
    · refine ⟨_, (by (simp only [k_i, k_j, k_k]; try rfl)), fun K hK => ?_⟩
      go_wp2_with (first | (refine sWL ?_; simp only [Act.put, k_a, k_b, k_c, k_d, k_e, k_f, k_g, k_h, NodeS.cells, OpS.cells, ResS.cells]) | (refine sWM ?_; simp only [Act.put, k_a, k_b, k_c]) | ((first | refine sWS ?_ | refine sWT ?_); clear HX; intro w HX; simp only [Act.put, k_a, k_b, k_c, setMany, Nat.reduceAdd, NodeS.cells, OpS.cells, ResS.cells] at HX ⊢) | (refine sWA ?_; clear HX; (first | (have hq := b4; clear hq; intro w b5 HX) | (have hq := b3; clear hq; intro w b4 HX) | (have hq := b2; clear hq; intro w b3 HX) | (have hq := b; clear hq; intro w b2 HX) | intro w b HX); simp only [Act.put, k_a, k_b, k_c]) | ((first | (refine sWN ?_; clear HX; intro w mm HX) | (refine sWP ?_; clear HX; intro w av nv cv HX)); simp only [Act.put, k_a, k_b, k_c]) | (refine sx_lit0 HX sl_ent ?_; clear HX; intro w b3 HX; simp only [Act.put, k_a, k_b, k_c]))
      refine hK _ _ HX.out.drop ?_
      clear hK
      refine wpAnyM_each (fuel := 6) [8, 10] (by kernel_rfl) (by simp) (fun i hi => ?_)
      simp only [List.mem_cons, List.not_mem_nil, or_false] at hi
      rcases hi with rfl | rfl
      · refine ⟨_, (by (simp only [k_i, k_j, k_k]; try rfl)), fun K hK => ?_⟩
        go_wp2_with (first | (refine sWL ?_; simp only [Act.put, k_a, k_b, k_c, k_d, k_e, k_f, k_g, k_h, NodeS.cells, OpS.cells, ResS.cells]) | (refine sWM ?_; simp only [Act.put, k_a, k_b, k_c]) | ((first | refine sWS ?_ | refine sWT ?_); clear HX; intro w HX; simp only [Act.put, k_a, k_b, k_c, setMany, Nat.reduceAdd, NodeS.cells, OpS.cells, ResS.cells] at HX ⊢) | (refine sWA ?_; clear HX; (first | (have hq := b4; clear hq; intro w b5 HX) | (have hq := b3; clear hq; intro w b4 HX) | (have hq := b2; clear hq; intro w b3 HX) | (have hq := b; clear hq; intro w b2 HX) | intro w b HX); simp only [Act.put, k_a, k_b, k_c]) | ((first | (refine sWN ?_; clear HX; intro w mm HX) | (refine sWP ?_; clear HX; intro w av nv cv HX)); simp only [Act.put, k_a, k_b, k_c]) | ((with_reducible apply sx_appP HX); (· exact sl_ent); (· rfl); (· rfl); (· (repeat (first | (with_reducible exact Rem.here) | (with_reducible apply Rem.there)))); (· (repeat (first | (with_reducible exact k_s) | (with_reducible apply k_m)))); (· (first | exact HMEM.out.1 | exact HMEM.out.2)); (· (first | exact HONE.out.1 | exact HONE.out.2)); (· (intro n m hn hm; simp only [List.length_nil, List.length_append, List.length_take, List.length_drop, List.length_cons, Array.length_toList, List.size_toArray] at hn hm; omega)); clear HX; intro w av nv cv HX; simp only [Act.put, k_a, k_b, k_c]))
        refine hK _ _ HX.out.drop ?_
        clear hK
        refine wpAnyM_one (fuel := 5) (i := 10) (by kernel_rfl) (by (simp only [k_i, k_j, k_k]; try rfl)) (fun K hK => ?_)
        go_wp2_with (first | (refine sWL ?_; simp only [Act.put, k_a, k_b, k_c, k_d, k_e, k_f, k_g, k_h, NodeS.cells, OpS.cells, ResS.cells]) | (refine sWM ?_; simp only [Act.put, k_a, k_b, k_c]) | ((first | refine sWS ?_ | refine sWT ?_); clear HX; intro w HX; simp only [Act.put, k_a, k_b, k_c, setMany, Nat.reduceAdd, NodeS.cells, OpS.cells, ResS.cells] at HX ⊢) | (refine sWA ?_; clear HX; (first | (have hq := b4; clear hq; intro w b5 HX) | (have hq := b3; clear hq; intro w b4 HX) | (have hq := b2; clear hq; intro w b3 HX) | (have hq := b; clear hq; intro w b2 HX) | intro w b HX); simp only [Act.put, k_a, k_b, k_c]) | ((first | (refine sWN ?_; clear HX; intro w mm HX) | (refine sWP ?_; clear HX; intro w av nv cv HX)); simp only [Act.put, k_a, k_b, k_c]))
        refine hK _ _ HX.out.drop.drop ?_
        clear hK
        refine wpAnyM_one (fuel := 4) (i := 11) (by kernel_rfl) (by (simp only [k_i, k_j, k_k]; try rfl)) (fun K hK => ?_)
        go_wp2_with (first | (refine sWL ?_; simp only [Act.put, k_a, k_b, k_c, k_d, k_e, k_f, k_g, k_h, NodeS.cells, OpS.cells, ResS.cells]) | (refine sWM ?_; simp only [Act.put, k_a, k_b, k_c]) | ((first | refine sWS ?_ | refine sWT ?_); clear HX; intro w HX; simp only [Act.put, k_a, k_b, k_c, setMany, Nat.reduceAdd, NodeS.cells, OpS.cells, ResS.cells] at HX ⊢) | (refine sWA ?_; clear HX; (first | (have hq := b4; clear hq; intro w b5 HX) | (have hq := b3; clear hq; intro w b4 HX) | (have hq := b2; clear hq; intro w b3 HX) | (have hq := b; clear hq; intro w b2 HX) | intro w b HX); simp only [Act.put, k_a, k_b, k_c]) | ((first | (refine sWN ?_; clear HX; intro w mm HX) | (refine sWP ?_; clear HX; intro w av nv cv HX)); simp only [Act.put, k_a, k_b, k_c]))
        refine hK _ _ (HX.out.pm 5 [2, 3, 4] rfl rfl) ?_
        clear hK
        refine wpAnyM_one (fuel := 3) (i := 18) (by kernel_rfl) (by (simp only [k_i, k_j, k_k]; try rfl)) (fun K hK => ?_)
        go_wp2_with (first | (refine sWL ?_; simp only [Act.put, k_a, k_b, k_c, k_d, k_e, k_f, k_g, k_h, NodeS.cells, OpS.cells, ResS.cells]) | (refine sWM ?_; simp only [Act.put, k_a, k_b, k_c]) | ((first | refine sWS ?_ | refine sWT ?_); clear HX; intro w HX; simp only [Act.put, k_a, k_b, k_c, setMany, Nat.reduceAdd, NodeS.cells, OpS.cells, ResS.cells] at HX ⊢) | (refine sWA ?_; clear HX; (first | (have hq := b4; clear hq; intro w b5 HX) | (have hq := b3; clear hq; intro w b4 HX) | (have hq := b2; clear hq; intro w b3 HX) | (have hq := b; clear hq; intro w b2 HX) | intro w b HX); simp only [Act.put, k_a, k_b, k_c]) | ((first | (refine sWN ?_; clear HX; intro w mm HX) | (refine sWP ?_; clear HX; intro w av nv cv HX)); simp only [Act.put, k_a, k_b, k_c]) | ((with_reducible apply sx_appP HX); (· exact sl_ent); (· rfl); (· rfl); (· (repeat (first | (with_reducible exact Rem.here) | (with_reducible apply Rem.there)))); (· (repeat (first | (with_reducible exact k_s) | (with_reducible apply k_m)))); (· (first | exact HMEM.out.1 | exact HMEM.out.2)); (· (first | exact HONE.out.1 | exact HONE.out.2)); (· (intro n m hn hm; simp only [List.length_nil, List.length_append, List.length_take, List.length_drop, List.length_cons, Array.length_toList, List.size_toArray] at hn hm; omega)); clear HX; intro w av nv cv HX; simp only [Act.put, k_a, k_b, k_c]))
        refine hK _ _ (HX.out.pm 5 [2, 3, 4] rfl rfl) ?_
        clear hK
        refine wpAnyM_of_any _ _ _ _ (by decide) ?_
        refine wpAny_list [19, 20, 21] (fuel := 0) (by kernel_rfl) ?_
        simp only [List.filterMap_cons, List.filterMap_nil, k_i, k_j, k_k]
        have hent : EntL P2 (S.l.take 0 ++ (p.data.toList, n) :: S.l.drop 0) ([] ++ xs.take (0 * 11) ++ [.string p, .int .i64 n.made, .int .i64 n.changed, .int .i64 n.ver, .int .i64 n.kids, .int .i64 n.owner, .int .i64 (n.data.size : Nat), .int .i64 (n.names.length : Nat), .string n.data, .int .i64 n.next, .slice na nn nc] ++ xs.take (0 * 11)) := by
          first
            | (rw [HZ.out.1, HZ.out.2]; exact .cons (HSUB.out _ HV.out) .nil)
            | (rw [List.nil_append, List.append_assoc]; exact ((HE.out.take 0).mono HSUB.out).app (.cons (HSUB.out _ HV.out) ((HE.out.drop 0).mono HSUB.out)))
        have h9 := HX.out.cut1
        have hnl : nv = (S.l.take 0 ++ (p.data.toList, n) :: S.l.drop 0).length := by
          obtain ⟨_, _, _, e, hl, -, -⟩ := h9.rowLen
          simp only [Value.slice.injEq] at e
          obtain ⟨rfl, rfl, rfl⟩ := e
          rw [hent.len] at hl
          omega
        have HENT := Lib.hid (show _ ∧ _ from ⟨hent, hnl⟩)
        clear HX
        have HX := Lib.hid h9
        clear hent hnl h9
        go_step
        go_step
        first
          | refine sWT ?_
          | (go_step; refine sWT ?_)
          | (go_step; go_step; refine sWT ?_)
        clear HX
        intro w HX
        simp only [Act.put, k_a, k_b, k_c] at HX ⊢
        go_wp2_with (first | (refine sWL ?_; simp only [Act.put, k_a, k_b, k_c, k_d, k_e, k_f, k_g, k_h, NodeS.cells, OpS.cells, ResS.cells]) | (refine sWM ?_; simp only [Act.put, k_a, k_b, k_c]) | ((first | refine sWS ?_ | refine sWT ?_); clear HX; intro w HX; simp only [Act.put, k_a, k_b, k_c, setMany, Nat.reduceAdd, NodeS.cells, OpS.cells, ResS.cells] at HX ⊢) | (refine sWA ?_; clear HX; (first | (have hq := b4; clear hq; intro w b5 HX) | (have hq := b3; clear hq; intro w b4 HX) | (have hq := b2; clear hq; intro w b3 HX) | (have hq := b; clear hq; intro w b2 HX) | intro w b HX); simp only [Act.put, k_a, k_b, k_c]) | ((first | (refine sWN ?_; clear HX; intro w mm HX) | (refine sWP ?_; clear HX; intro w av nv cv HX)); simp only [Act.put, k_a, k_b, k_c]))
        go_end0
        refine ⟨rfl, P2, HSUB.out, ?_⟩
        rw [HKK.out]
        have h1 := HX.out.up2
        rw [HENT.out.2] at h1
        exact (rt_shut (S := { S with l := S.l.take 0 ++ (p.data.toList, n) :: S.l.drop 0 }) h1 HENT.out.1).up1.cut2
      · refine ⟨_, (by (simp only [k_i, k_j, k_k]; try rfl)), fun K hK => ?_⟩
        go_wp2_with (first | (refine sWL ?_; simp only [Act.put, k_a, k_b, k_c, k_d, k_e, k_f, k_g, k_h, NodeS.cells, OpS.cells, ResS.cells]) | (refine sWM ?_; simp only [Act.put, k_a, k_b, k_c]) | ((first | refine sWS ?_ | refine sWT ?_); clear HX; intro w HX; simp only [Act.put, k_a, k_b, k_c, setMany, Nat.reduceAdd, NodeS.cells, OpS.cells, ResS.cells] at HX ⊢) | (refine sWA ?_; clear HX; (first | (have hq := b4; clear hq; intro w b5 HX) | (have hq := b3; clear hq; intro w b4 HX) | (have hq := b2; clear hq; intro w b3 HX) | (have hq := b; clear hq; intro w b2 HX) | intro w b HX); simp only [Act.put, k_a, k_b, k_c]) | ((first | (refine sWN ?_; clear HX; intro w mm HX) | (refine sWP ?_; clear HX; intro w av nv cv HX)); simp only [Act.put, k_a, k_b, k_c]))
        refine hK _ _ HX.out.drop.drop ?_
        clear hK
        refine wpAnyM_one (fuel := 5) (i := 8) (by kernel_rfl) (by (simp only [k_i, k_j, k_k]; try rfl)) (fun K hK => ?_)
        go_wp2_with (first | (refine sWL ?_; simp only [Act.put, k_a, k_b, k_c, k_d, k_e, k_f, k_g, k_h, NodeS.cells, OpS.cells, ResS.cells]) | (refine sWM ?_; simp only [Act.put, k_a, k_b, k_c]) | ((first | refine sWS ?_ | refine sWT ?_); clear HX; intro w HX; simp only [Act.put, k_a, k_b, k_c, setMany, Nat.reduceAdd, NodeS.cells, OpS.cells, ResS.cells] at HX ⊢) | (refine sWA ?_; clear HX; (first | (have hq := b4; clear hq; intro w b5 HX) | (have hq := b3; clear hq; intro w b4 HX) | (have hq := b2; clear hq; intro w b3 HX) | (have hq := b; clear hq; intro w b2 HX) | intro w b HX); simp only [Act.put, k_a, k_b, k_c]) | ((first | (refine sWN ?_; clear HX; intro w mm HX) | (refine sWP ?_; clear HX; intro w av nv cv HX)); simp only [Act.put, k_a, k_b, k_c]) | ((with_reducible apply sx_appP HX); (· exact sl_ent); (· rfl); (· rfl); (· (repeat (first | (with_reducible exact Rem.here) | (with_reducible apply Rem.there)))); (· (repeat (first | (with_reducible exact k_s) | (with_reducible apply k_m)))); (· (first | exact HMEM.out.1 | exact HMEM.out.2)); (· (first | exact HONE.out.1 | exact HONE.out.2)); (· (intro n m hn hm; simp only [List.length_nil, List.length_append, List.length_take, List.length_drop, List.length_cons, Array.length_toList, List.size_toArray] at hn hm; omega)); clear HX; intro w av nv cv HX; simp only [Act.put, k_a, k_b, k_c]))
        refine hK _ _ HX.out.drop.drop ?_
        clear hK
        refine wpAnyM_one (fuel := 4) (i := 11) (by kernel_rfl) (by (simp only [k_i, k_j, k_k]; try rfl)) (fun K hK => ?_)
        go_wp2_with (first | (refine sWL ?_; simp only [Act.put, k_a, k_b, k_c, k_d, k_e, k_f, k_g, k_h, NodeS.cells, OpS.cells, ResS.cells]) | (refine sWM ?_; simp only [Act.put, k_a, k_b, k_c]) | ((first | refine sWS ?_ | refine sWT ?_); clear HX; intro w HX; simp only [Act.put, k_a, k_b, k_c, setMany, Nat.reduceAdd, NodeS.cells, OpS.cells, ResS.cells] at HX ⊢) | (refine sWA ?_; clear HX; (first | (have hq := b4; clear hq; intro w b5 HX) | (have hq := b3; clear hq; intro w b4 HX) | (have hq := b2; clear hq; intro w b3 HX) | (have hq := b; clear hq; intro w b2 HX) | intro w b HX); simp only [Act.put, k_a, k_b, k_c]) | ((first | (refine sWN ?_; clear HX; intro w mm HX) | (refine sWP ?_; clear HX; intro w av nv cv HX)); simp only [Act.put, k_a, k_b, k_c]))
        refine hK _ _ (HX.out.pm 5 [2, 3, 4] rfl rfl) ?_
        clear hK
        refine wpAnyM_one (fuel := 3) (i := 18) (by kernel_rfl) (by (simp only [k_i, k_j, k_k]; try rfl)) (fun K hK => ?_)
        go_wp2_with (first | (refine sWL ?_; simp only [Act.put, k_a, k_b, k_c, k_d, k_e, k_f, k_g, k_h, NodeS.cells, OpS.cells, ResS.cells]) | (refine sWM ?_; simp only [Act.put, k_a, k_b, k_c]) | ((first | refine sWS ?_ | refine sWT ?_); clear HX; intro w HX; simp only [Act.put, k_a, k_b, k_c, setMany, Nat.reduceAdd, NodeS.cells, OpS.cells, ResS.cells] at HX ⊢) | (refine sWA ?_; clear HX; (first | (have hq := b4; clear hq; intro w b5 HX) | (have hq := b3; clear hq; intro w b4 HX) | (have hq := b2; clear hq; intro w b3 HX) | (have hq := b; clear hq; intro w b2 HX) | intro w b HX); simp only [Act.put, k_a, k_b, k_c]) | ((first | (refine sWN ?_; clear HX; intro w mm HX) | (refine sWP ?_; clear HX; intro w av nv cv HX)); simp only [Act.put, k_a, k_b, k_c]) | ((with_reducible apply sx_appP HX); (· exact sl_ent); (· rfl); (· rfl); (· (repeat (first | (with_reducible exact Rem.here) | (with_reducible apply Rem.there)))); (· (repeat (first | (with_reducible exact k_s) | (with_reducible apply k_m)))); (· (first | exact HMEM.out.1 | exact HMEM.out.2)); (· (first | exact HONE.out.1 | exact HONE.out.2)); (· (intro n m hn hm; simp only [List.length_nil, List.length_append, List.length_take, List.length_drop, List.length_cons, Array.length_toList, List.size_toArray] at hn hm; omega)); clear HX; intro w av nv cv HX; simp only [Act.put, k_a, k_b, k_c]))
        refine hK _ _ (HX.out.pm 5 [2, 3, 4] rfl rfl) ?_
        clear hK
        refine wpAnyM_of_any _ _ _ _ (by decide) ?_
        refine wpAny_list [19, 20, 21] (fuel := 0) (by kernel_rfl) ?_
        simp only [List.filterMap_cons, List.filterMap_nil, k_i, k_j, k_k]
        have hent : EntL P2 (S.l.take 0 ++ (p.data.toList, n) :: S.l.drop 0) ([] ++ xs.take (0 * 11) ++ [.string p, .int .i64 n.made, .int .i64 n.changed, .int .i64 n.ver, .int .i64 n.kids, .int .i64 n.owner, .int .i64 (n.data.size : Nat), .int .i64 (n.names.length : Nat), .string n.data, .int .i64 n.next, .slice na nn nc] ++ xs.take (0 * 11)) := by
          first
            | (rw [HZ.out.1, HZ.out.2]; exact .cons (HSUB.out _ HV.out) .nil)
            | (rw [List.nil_append, List.append_assoc]; exact ((HE.out.take 0).mono HSUB.out).app (.cons (HSUB.out _ HV.out) ((HE.out.drop 0).mono HSUB.out)))
        have h9 := HX.out.cut1
        have hnl : nv = (S.l.take 0 ++ (p.data.toList, n) :: S.l.drop 0).length := by
          obtain ⟨_, _, _, e, hl, -, -⟩ := h9.rowLen
          simp only [Value.slice.injEq] at e
          obtain ⟨rfl, rfl, rfl⟩ := e
          rw [hent.len] at hl
          omega
        have HENT := Lib.hid (show _ ∧ _ from ⟨hent, hnl⟩)
        clear HX
        have HX := Lib.hid h9
        clear hent hnl h9
        go_step
        go_step
        first
          | refine sWT ?_
          | (go_step; refine sWT ?_)
          | (go_step; go_step; refine sWT ?_)
        clear HX
        intro w HX
        simp only [Act.put, k_a, k_b, k_c] at HX ⊢
        go_wp2_with (first | (refine sWL ?_; simp only [Act.put, k_a, k_b, k_c, k_d, k_e, k_f, k_g, k_h, NodeS.cells, OpS.cells, ResS.cells]) | (refine sWM ?_; simp only [Act.put, k_a, k_b, k_c]) | ((first | refine sWS ?_ | refine sWT ?_); clear HX; intro w HX; simp only [Act.put, k_a, k_b, k_c, setMany, Nat.reduceAdd, NodeS.cells, OpS.cells, ResS.cells] at HX ⊢) | (refine sWA ?_; clear HX; (first | (have hq := b4; clear hq; intro w b5 HX) | (have hq := b3; clear hq; intro w b4 HX) | (have hq := b2; clear hq; intro w b3 HX) | (have hq := b; clear hq; intro w b2 HX) | intro w b HX); simp only [Act.put, k_a, k_b, k_c]) | ((first | (refine sWN ?_; clear HX; intro w mm HX) | (refine sWP ?_; clear HX; intro w av nv cv HX)); simp only [Act.put, k_a, k_b, k_c]))
        go_end0
        refine ⟨rfl, P2, HSUB.out, ?_⟩
        rw [HKK.out]
        have h1 := HX.out.up2
        rw [HENT.out.2] at h1
        exact (rt_shut (S := { S with l := S.l.take 0 ++ (p.data.toList, n) :: S.l.drop 0 }) h1 HENT.out.1).up1.cut2
    · refine ⟨_, (by (simp only [k_i, k_j, k_k]; try rfl)), fun K hK => ?_⟩
      go_wp2_with (first | (refine sWL ?_; simp only [Act.put, k_a, k_b, k_c, k_d, k_e, k_f, k_g, k_h, NodeS.cells, OpS.cells, ResS.cells]) | (refine sWM ?_; simp only [Act.put, k_a, k_b, k_c]) | ((first | refine sWS ?_ | refine sWT ?_); clear HX; intro w HX; simp only [Act.put, k_a, k_b, k_c, setMany, Nat.reduceAdd, NodeS.cells, OpS.cells, ResS.cells] at HX ⊢) | (refine sWA ?_; clear HX; (first | (have hq := b4; clear hq; intro w b5 HX) | (have hq := b3; clear hq; intro w b4 HX) | (have hq := b2; clear hq; intro w b3 HX) | (have hq := b; clear hq; intro w b2 HX) | intro w b HX); simp only [Act.put, k_a, k_b, k_c]) | ((first | (refine sWN ?_; clear HX; intro w mm HX) | (refine sWP ?_; clear HX; intro w av nv cv HX)); simp only [Act.put, k_a, k_b, k_c]))
      refine hK _ _ HX.out.drop ?_
      clear hK
      refine wpAnyM_one (fuel := 6) (i := 1) (by kernel_rfl) (by (simp only [k_i, k_j, k_k]; try rfl)) (fun K hK => ?_)
      go_wp2_with (first | (refine sWL ?_; simp only [Act.put, k_a, k_b, k_c, k_d, k_e, k_f, k_g, k_h, NodeS.cells, OpS.cells, ResS.cells]) | (refine sWM ?_; simp only [Act.put, k_a, k_b, k_c]) | ((first | refine sWS ?_ | refine sWT ?_); clear HX; intro w HX; simp only [Act.put, k_a, k_b, k_c, setMany, Nat.reduceAdd, NodeS.cells, OpS.cells, ResS.cells] at HX ⊢) | (refine sWA ?_; clear HX; (first | (have hq := b4; clear hq; intro w b5 HX) | (have hq := b3; clear hq; intro w b4 HX) | (have hq := b2; clear hq; intro w b3 HX) | (have hq := b; clear hq; intro w b2 HX) | intro w b HX); simp only [Act.put, k_a, k_b, k_c]) | ((first | (refine sWN ?_; clear HX; intro w mm HX) | (refine sWP ?_; clear HX; intro w av nv cv HX)); simp only [Act.put, k_a, k_b, k_c]) | (refine sx_lit0 HX sl_ent ?_; clear HX; intro w b4 HX; simp only [Act.put, k_a, k_b, k_c]))
      refine hK _ _ HX.out.drop.drop ?_
      clear hK
      refine wpAnyM_one (fuel := 5) (i := 8) (by kernel_rfl) (by (simp only [k_i, k_j, k_k]; try rfl)) (fun K hK => ?_)
      go_wp2_with (first | (refine sWL ?_; simp only [Act.put, k_a, k_b, k_c, k_d, k_e, k_f, k_g, k_h, NodeS.cells, OpS.cells, ResS.cells]) | (refine sWM ?_; simp only [Act.put, k_a, k_b, k_c]) | ((first | refine sWS ?_ | refine sWT ?_); clear HX; intro w HX; simp only [Act.put, k_a, k_b, k_c, setMany, Nat.reduceAdd, NodeS.cells, OpS.cells, ResS.cells] at HX ⊢) | (refine sWA ?_; clear HX; (first | (have hq := b4; clear hq; intro w b5 HX) | (have hq := b3; clear hq; intro w b4 HX) | (have hq := b2; clear hq; intro w b3 HX) | (have hq := b; clear hq; intro w b2 HX) | intro w b HX); simp only [Act.put, k_a, k_b, k_c]) | ((first | (refine sWN ?_; clear HX; intro w mm HX) | (refine sWP ?_; clear HX; intro w av nv cv HX)); simp only [Act.put, k_a, k_b, k_c]) | ((with_reducible apply sx_appP HX); (· exact sl_ent); (· rfl); (· rfl); (· (repeat (first | (with_reducible exact Rem.here) | (with_reducible apply Rem.there)))); (· (repeat (first | (with_reducible exact k_s) | (with_reducible apply k_m)))); (· (first | exact HMEM.out.1 | exact HMEM.out.2)); (· (first | exact HONE.out.1 | exact HONE.out.2)); (· (intro n m hn hm; simp only [List.length_nil, List.length_append, List.length_take, List.length_drop, List.length_cons, Array.length_toList, List.size_toArray] at hn hm; omega)); clear HX; intro w av nv cv HX; simp only [Act.put, k_a, k_b, k_c]))
      refine hK _ _ HX.out.drop.drop ?_
      clear hK
      refine wpAnyM_one (fuel := 4) (i := 11) (by kernel_rfl) (by (simp only [k_i, k_j, k_k]; try rfl)) (fun K hK => ?_)
      go_wp2_with (first | (refine sWL ?_; simp only [Act.put, k_a, k_b, k_c, k_d, k_e, k_f, k_g, k_h, NodeS.cells, OpS.cells, ResS.cells]) | (refine sWM ?_; simp only [Act.put, k_a, k_b, k_c]) | ((first | refine sWS ?_ | refine sWT ?_); clear HX; intro w HX; simp only [Act.put, k_a, k_b, k_c, setMany, Nat.reduceAdd, NodeS.cells, OpS.cells, ResS.cells] at HX ⊢) | (refine sWA ?_; clear HX; (first | (have hq := b4; clear hq; intro w b5 HX) | (have hq := b3; clear hq; intro w b4 HX) | (have hq := b2; clear hq; intro w b3 HX) | (have hq := b; clear hq; intro w b2 HX) | intro w b HX); simp only [Act.put, k_a, k_b, k_c]) | ((first | (refine sWN ?_; clear HX; intro w mm HX) | (refine sWP ?_; clear HX; intro w av nv cv HX)); simp only [Act.put, k_a, k_b, k_c]))
      refine hK _ _ (HX.out.pm 5 [2, 3, 4] rfl rfl) ?_
      clear hK
      refine wpAnyM_one (fuel := 3) (i := 18) (by kernel_rfl) (by (simp only [k_i, k_j, k_k]; try rfl)) (fun K hK => ?_)
      go_wp2_with (first | (refine sWL ?_; simp only [Act.put, k_a, k_b, k_c, k_d, k_e, k_f, k_g, k_h, NodeS.cells, OpS.cells, ResS.cells]) | (refine sWM ?_; simp only [Act.put, k_a, k_b, k_c]) | ((first | refine sWS ?_ | refine sWT ?_); clear HX; intro w HX; simp only [Act.put, k_a, k_b, k_c, setMany, Nat.reduceAdd, NodeS.cells, OpS.cells, ResS.cells] at HX ⊢) | (refine sWA ?_; clear HX; (first | (have hq := b4; clear hq; intro w b5 HX) | (have hq := b3; clear hq; intro w b4 HX) | (have hq := b2; clear hq; intro w b3 HX) | (have hq := b; clear hq; intro w b2 HX) | intro w b HX); simp only [Act.put, k_a, k_b, k_c]) | ((first | (refine sWN ?_; clear HX; intro w mm HX) | (refine sWP ?_; clear HX; intro w av nv cv HX)); simp only [Act.put, k_a, k_b, k_c]) | ((with_reducible apply sx_appP HX); (· exact sl_ent); (· rfl); (· rfl); (· (repeat (first | (with_reducible exact Rem.here) | (with_reducible apply Rem.there)))); (· (repeat (first | (with_reducible exact k_s) | (with_reducible apply k_m)))); (· (first | exact HMEM.out.1 | exact HMEM.out.2)); (· (first | exact HONE.out.1 | exact HONE.out.2)); (· (intro n m hn hm; simp only [List.length_nil, List.length_append, List.length_take, List.length_drop, List.length_cons, Array.length_toList, List.size_toArray] at hn hm; omega)); clear HX; intro w av nv cv HX; simp only [Act.put, k_a, k_b, k_c]))
      refine hK _ _ (HX.out.pm 5 [2, 3, 4] rfl rfl) ?_
      clear hK
      refine wpAnyM_of_any _ _ _ _ (by decide) ?_
      refine wpAny_list [19, 20, 21] (fuel := 0) (by kernel_rfl) ?_
      simp only [List.filterMap_cons, List.filterMap_nil, k_i, k_j, k_k]
      have hent : EntL P2 (S.l.take 0 ++ (p.data.toList, n) :: S.l.drop 0) ([] ++ xs.take (0 * 11) ++ [.string p, .int .i64 n.made, .int .i64 n.changed, .int .i64 n.ver, .int .i64 n.kids, .int .i64 n.owner, .int .i64 (n.data.size : Nat), .int .i64 (n.names.length : Nat), .string n.data, .int .i64 n.next, .slice na nn nc] ++ xs.take (0 * 11)) := by
        first
          | (rw [HZ.out.1, HZ.out.2]; exact .cons (HSUB.out _ HV.out) .nil)
          | (rw [List.nil_append, List.append_assoc]; exact ((HE.out.take 0).mono HSUB.out).app (.cons (HSUB.out _ HV.out) ((HE.out.drop 0).mono HSUB.out)))
      have h9 := HX.out.cut1
      have hnl : nv = (S.l.take 0 ++ (p.data.toList, n) :: S.l.drop 0).length := by
        obtain ⟨_, _, _, e, hl, -, -⟩ := h9.rowLen
        simp only [Value.slice.injEq] at e
        obtain ⟨rfl, rfl, rfl⟩ := e
        rw [hent.len] at hl
        omega
      have HENT := Lib.hid (show _ ∧ _ from ⟨hent, hnl⟩)
      clear HX
      have HX := Lib.hid h9
      clear hent hnl h9
      go_step
      go_step
      first
        | refine sWT ?_
        | (go_step; refine sWT ?_)
        | (go_step; go_step; refine sWT ?_)
      clear HX
      intro w HX
      simp only [Act.put, k_a, k_b, k_c] at HX ⊢
      go_wp2_with (first | (refine sWL ?_; simp only [Act.put, k_a, k_b, k_c, k_d, k_e, k_f, k_g, k_h, NodeS.cells, OpS.cells, ResS.cells]) | (refine sWM ?_; simp only [Act.put, k_a, k_b, k_c]) | ((first | refine sWS ?_ | refine sWT ?_); clear HX; intro w HX; simp only [Act.put, k_a, k_b, k_c, setMany, Nat.reduceAdd, NodeS.cells, OpS.cells, ResS.cells] at HX ⊢) | (refine sWA ?_; clear HX; (first | (have hq := b4; clear hq; intro w b5 HX) | (have hq := b3; clear hq; intro w b4 HX) | (have hq := b2; clear hq; intro w b3 HX) | (have hq := b; clear hq; intro w b2 HX) | intro w b HX); simp only [Act.put, k_a, k_b, k_c]) | ((first | (refine sWN ?_; clear HX; intro w mm HX) | (refine sWP ?_; clear HX; intro w av nv cv HX)); simp only [Act.put, k_a, k_b, k_c]))
      go_end0
      refine ⟨rfl, P2, HSUB.out, ?_⟩
      rw [HKK.out]
      have h1 := HX.out.up2
      rw [HENT.out.2] at h1
      exact (rt_shut (S := { S with l := S.l.take 0 ++ (p.data.toList, n) :: S.l.drop 0 }) h1 HENT.out.1).up1.cut2
  | some ad =>
    have hif : (if c = k then some ad else some (ad.add (k * 11))) = a' := by
      have h4 := (run_sliceAt (P := Tryz.prog) Tryz.underlying67 (.slice (some ad) S.l.length c) (some (.int .i64 (k : Int))) none none w).trans (slice_runX Tryz.underlying67 hi0 ad S.l.length c k hpl w)
      have h5 := (hs2 w).symm.trans h4
      injection h5 with h6 _
      injection h6 with h7 _ _
      rw [h7, hz0]
    clear hs2 hi0 hz0 hnil
    go_wp2_with (first | (refine sWL ?_; simp only [Act.put, k_a, k_b, k_c, k_d, k_e, k_f, k_g, k_h, NodeS.cells, OpS.cells, ResS.cells]) | (refine sWM ?_; simp only [Act.put, k_a, k_b, k_c]) | ((first | refine sWS ?_ | refine sWT ?_); clear HX; intro w HX; simp only [Act.put, k_a, k_b, k_c, setMany, Nat.reduceAdd, NodeS.cells, OpS.cells, ResS.cells] at HX ⊢) | (refine sWA ?_; clear HX; (first | (have hq := b4; clear hq; intro w b5 HX) | (have hq := b3; clear hq; intro w b4 HX) | (have hq := b2; clear hq; intro w b3 HX) | (have hq := b; clear hq; intro w b2 HX) | intro w b HX); simp only [Act.put, k_a, k_b, k_c]) | ((first | (refine sWN ?_; clear HX; intro w mm HX) | (refine sWP ?_; clear HX; intro w av nv cv HX)); simp only [Act.put, k_a, k_b, k_c]))
    refine wp_region_M (fun W => Sep w0 W (ThPool w0 P2 :: ThCell b (.cells #[.int .i64 S.room, .slice (some ad) S.l.length c] 69 (0, 0)) :: ThCell b2 (.cells #[.string p, .int .i64 n.made, .int .i64 n.changed, .int .i64 n.ver, .int .i64 n.kids, .int .i64 n.owner, .int .i64 (n.data.size : Nat), .int .i64 (n.names.length : Nat), .string n.data, .int .i64 n.next, .slice na nn nc] 87 (0, 0)) :: R) rows) 19 (by kernel_rfl) ?_
    have KEEPX : ∀ W, Sep w0 W (ThPool w0 P2 :: ThCell b (.cells #[.int .i64 S.room, .slice (some ad) S.l.length c] 69 (0, 0)) :: ThCell b2 (.cells #[.string p, .int .i64 n.made, .int .i64 n.changed, .int .i64 n.ver, .int .i64 n.kids, .int .i64 n.owner, .int .i64 (n.data.size : Nat), .int .i64 (n.names.length : Nat), .string n.data, .int .i64 n.next, .slice na nn nc] 87 (0, 0)) :: R) rows → Sep w0 W (ThPool w0 P2 :: ThCell b (.cells #[.int .i64 S.room, .slice (some ad) S.l.length c] 69 (0, 0)) :: ThCell b2 (.cells #[.string p, .int .i64 n.made, .int .i64 n.changed, .int .i64 n.ver, .int .i64 n.kids, .int .i64 n.owner, .int .i64 (n.data.size : Nat), .int .i64 (n.names.length : Nat), .string n.data, .int .i64 n.next, .slice na nn nc] 87 (0, 0)) :: R) rows := fun _ h => h
    replace HX := Lib.hid HX.out.drew
    refine wpAnyM_take (by kernel_rfl) (by intro c a d v w h; cases d <;> exact h) [(0, false), (2, false), (3, false), (4, false), (5, true), (6, false), (7, false), (9, true), (12, false), (13, false), (14, false), (15, true), (16, false), (17, false)] (fuel := 8) (by kernel_rfl) ?_
    apply Exists.intro; refine ⟨?_, HX.out, ?_⟩
    · iterate 14 (first | refine yE ?_ | ((first | apply yieldP | apply yieldL); (· (simp only [k_i, k_j, k_k]; try rfl)); (· rfl); (· (intros; go_simp; (try simp only [hw0, hw1, hif, ↓reduceIte, and_self, Int.toNat_natCast]); try with_reducible rfl)); (· (simp only [Act.put, k_a, k_b, k_c, k_d, k_e, k_f, k_g, k_h, NodeS.cells, OpS.cells, ResS.cells]; try rfl))))
      exact rfl
    refine wpAnyM_each (fuel := 7) [1, 10] (by kernel_rfl) (by simp) (fun i hi => ?_)
    simp only [List.mem_cons, List.not_mem_nil, or_false] at hi
    rcases hi with rfl | rfl
    · refine ⟨_, (by (simp only [k_i, k_j, k_k]; try rfl)), fun K hK => ?_⟩
      go_wp2_with (first | (refine sWL ?_; simp only [Act.put, k_a, k_b, k_c, k_d, k_e, k_f, k_g, k_h, NodeS.cells, OpS.cells, ResS.cells]) | (refine sWM ?_; simp only [Act.put, k_a, k_b, k_c]) | ((first | refine sWS ?_ | refine sWT ?_); clear HX; intro w HX; simp only [Act.put, k_a, k_b, k_c, setMany, Nat.reduceAdd, NodeS.cells, OpS.cells, ResS.cells] at HX ⊢) | (refine sWA ?_; clear HX; (first | (have hq := b4; clear hq; intro w b5 HX) | (have hq := b3; clear hq; intro w b4 HX) | (have hq := b2; clear hq; intro w b3 HX) | (have hq := b; clear hq; intro w b2 HX) | intro w b HX); simp only [Act.put, k_a, k_b, k_c]) | ((first | (refine sWN ?_; clear HX; intro w mm HX) | (refine sWP ?_; clear HX; intro w av nv cv HX)); simp only [Act.put, k_a, k_b, k_c]) | (refine sx_lit0 HX sl_ent ?_; clear HX; intro w b3 HX; simp only [Act.put, k_a, k_b, k_c]))
      refine hK _ _ HX.out.drop ?_
      clear hK
      refine wpAnyM_each (fuel := 6) [8, 10] (by kernel_rfl) (by simp) (fun i hi => ?_)
      simp only [List.mem_cons, List.not_mem_nil, or_false] at hi
      rcases hi with rfl | rfl
      · refine ⟨_, (by (simp only [k_i, k_j, k_k]; try rfl)), fun K hK => ?_⟩
        go_wp2_with (first | (refine sWL ?_; simp only [Act.put, k_a, k_b, k_c, k_d, k_e, k_f, k_g, k_h, NodeS.cells, OpS.cells, ResS.cells]) | (refine sWM ?_; simp only [Act.put, k_a, k_b, k_c]) | ((first | refine sWS ?_ | refine sWT ?_); clear HX; intro w HX; simp only [Act.put, k_a, k_b, k_c, setMany, Nat.reduceAdd, NodeS.cells, OpS.cells, ResS.cells] at HX ⊢) | (refine sWA ?_; clear HX; (first | (have hq := b4; clear hq; intro w b5 HX) | (have hq := b3; clear hq; intro w b4 HX) | (have hq := b2; clear hq; intro w b3 HX) | (have hq := b; clear hq; intro w b2 HX) | intro w b HX); simp only [Act.put, k_a, k_b, k_c]) | ((first | (refine sWN ?_; clear HX; intro w mm HX) | (refine sWP ?_; clear HX; intro w av nv cv HX)); simp only [Act.put, k_a, k_b, k_c]) | ((with_reducible apply sx_appP HX); (· exact sl_ent); (· rfl); (· rfl); (· (repeat (first | (with_reducible exact Rem.here) | (with_reducible apply Rem.there)))); (· (repeat (first | (with_reducible exact k_s) | (with_reducible apply k_m)))); (· (first | exact HMEM.out.1 | exact HMEM.out.2)); (· (first | exact HONE.out.1 | exact HONE.out.2)); (· (intro n m hn hm; simp only [List.length_nil, List.length_append, List.length_take, List.length_drop, List.length_cons, Array.length_toList, List.size_toArray] at hn hm; omega)); clear HX; intro w av nv cv HX; simp only [Act.put, k_a, k_b, k_c]))
        refine hK _ _ HX.out.drop ?_
        clear hK
        refine wpAnyM_one (fuel := 5) (i := 10) (by kernel_rfl) (by (simp only [k_i, k_j, k_k]; try rfl)) (fun K hK => ?_)
        go_wp2_with (first | (refine sWL ?_; simp only [Act.put, k_a, k_b, k_c, k_d, k_e, k_f, k_g, k_h, NodeS.cells, OpS.cells, ResS.cells]) | (refine sWM ?_; simp only [Act.put, k_a, k_b, k_c]) | ((first | refine sWS ?_ | refine sWT ?_); clear HX; intro w HX; simp only [Act.put, k_a, k_b, k_c, setMany, Nat.reduceAdd, NodeS.cells, OpS.cells, ResS.cells] at HX ⊢) | (refine sWA ?_; clear HX; (first | (have hq := b4; clear hq; intro w b5 HX) | (have hq := b3; clear hq; intro w b4 HX) | (have hq := b2; clear hq; intro w b3 HX) | (have hq := b; clear hq; intro w b2 HX) | intro w b HX); simp only [Act.put, k_a, k_b, k_c]) | ((first | (refine sWN ?_; clear HX; intro w mm HX) | (refine sWP ?_; clear HX; intro w av nv cv HX)); simp only [Act.put, k_a, k_b, k_c]))
        refine hK _ _ HX.out.drop.drop ?_
        clear hK
        refine wpAnyM_one (fuel := 4) (i := 11) (by kernel_rfl) (by (simp only [k_i, k_j, k_k]; try rfl)) (fun K hK => ?_)
        go_wp2_with (first | (refine sWL ?_; simp only [Act.put, k_a, k_b, k_c, k_d, k_e, k_f, k_g, k_h, NodeS.cells, OpS.cells, ResS.cells]) | (refine sWM ?_; simp only [Act.put, k_a, k_b, k_c]) | ((first | refine sWS ?_ | refine sWT ?_); clear HX; intro w HX; simp only [Act.put, k_a, k_b, k_c, setMany, Nat.reduceAdd, NodeS.cells, OpS.cells, ResS.cells] at HX ⊢) | (refine sWA ?_; clear HX; (first | (have hq := b4; clear hq; intro w b5 HX) | (have hq := b3; clear hq; intro w b4 HX) | (have hq := b2; clear hq; intro w b3 HX) | (have hq := b; clear hq; intro w b2 HX) | intro w b HX); simp only [Act.put, k_a, k_b, k_c]) | ((first | (refine sWN ?_; clear HX; intro w mm HX) | (refine sWP ?_; clear HX; intro w av nv cv HX)); simp only [Act.put, k_a, k_b, k_c]))
        refine hK _ _ (HX.out.pm 5 [2, 3, 4] rfl rfl) ?_
        clear hK
        refine wpAnyM_one (fuel := 3) (i := 18) (by kernel_rfl) (by (simp only [k_i, k_j, k_k]; try rfl)) (fun K hK => ?_)
        go_wp2_with (first | (refine sWL ?_; simp only [Act.put, k_a, k_b, k_c, k_d, k_e, k_f, k_g, k_h, NodeS.cells, OpS.cells, ResS.cells]) | (refine sWM ?_; simp only [Act.put, k_a, k_b, k_c]) | ((first | refine sWS ?_ | refine sWT ?_); clear HX; intro w HX; simp only [Act.put, k_a, k_b, k_c, setMany, Nat.reduceAdd, NodeS.cells, OpS.cells, ResS.cells] at HX ⊢) | (refine sWA ?_; clear HX; (first | (have hq := b4; clear hq; intro w b5 HX) | (have hq := b3; clear hq; intro w b4 HX) | (have hq := b2; clear hq; intro w b3 HX) | (have hq := b; clear hq; intro w b2 HX) | intro w b HX); simp only [Act.put, k_a, k_b, k_c]) | ((first | (refine sWN ?_; clear HX; intro w mm HX) | (refine sWP ?_; clear HX; intro w av nv cv HX)); simp only [Act.put, k_a, k_b, k_c]) | ((with_reducible apply sx_appP HX); (· exact sl_ent); (· rfl); (· rfl); (· (repeat (first | (with_reducible exact Rem.here) | (with_reducible apply Rem.there)))); (· (repeat (first | (with_reducible exact k_s) | (with_reducible apply k_m)))); (· (first | exact HMEM.out.1 | exact HMEM.out.2)); (· (first | exact HONE.out.1 | exact HONE.out.2)); (· (intro n m hn hm; simp only [List.length_nil, List.length_append, List.length_take, List.length_drop, List.length_cons, Array.length_toList, List.size_toArray] at hn hm; omega)); clear HX; intro w av nv cv HX; simp only [Act.put, k_a, k_b, k_c]))
        refine hK _ _ (HX.out.pm 5 [2, 3, 4] rfl rfl) ?_
        clear hK
        refine wpAnyM_of_any _ _ _ _ (by decide) ?_
        refine wpAny_list [19, 20, 21] (fuel := 0) (by kernel_rfl) ?_
        simp only [List.filterMap_cons, List.filterMap_nil, k_i, k_j, k_k]
        have hent : EntL P2 (S.l.take k ++ (p.data.toList, n) :: S.l.drop k) ([] ++ xs.take (k * 11) ++ [.string p, .int .i64 n.made, .int .i64 n.changed, .int .i64 n.ver, .int .i64 n.kids, .int .i64 n.owner, .int .i64 (n.data.size : Nat), .int .i64 (n.names.length : Nat), .string n.data, .int .i64 n.next, .slice na nn nc] ++ xs.drop (k * 11)) := by
          first
            | (rw [HZ.out.1, HZ.out.2]; exact .cons (HSUB.out _ HV.out) .nil)
            | (rw [List.nil_append, List.append_assoc]; exact ((HE.out.take k).mono HSUB.out).app (.cons (HSUB.out _ HV.out) ((HE.out.drop k).mono HSUB.out)))
        have h9 := HX.out.cut1
        have hnl : nv = (S.l.take k ++ (p.data.toList, n) :: S.l.drop k).length := by
          obtain ⟨_, _, _, e, hl, -, -⟩ := h9.rowLen
          simp only [Value.slice.injEq] at e
          obtain ⟨rfl, rfl, rfl⟩ := e
          rw [hent.len] at hl
          omega
        have HENT := Lib.hid (show _ ∧ _ from ⟨hent, hnl⟩)
        clear HX
        have HX := Lib.hid h9
        clear hent hnl h9
        go_step
        go_step
        first
          | refine sWT ?_
          | (go_step; refine sWT ?_)
          | (go_step; go_step; refine sWT ?_)
        clear HX
        intro w HX
        simp only [Act.put, k_a, k_b, k_c] at HX ⊢
        go_wp2_with (first | (refine sWL ?_; simp only [Act.put, k_a, k_b, k_c, k_d, k_e, k_f, k_g, k_h, NodeS.cells, OpS.cells, ResS.cells]) | (refine sWM ?_; simp only [Act.put, k_a, k_b, k_c]) | ((first | refine sWS ?_ | refine sWT ?_); clear HX; intro w HX; simp only [Act.put, k_a, k_b, k_c, setMany, Nat.reduceAdd, NodeS.cells, OpS.cells, ResS.cells] at HX ⊢) | (refine sWA ?_; clear HX; (first | (have hq := b4; clear hq; intro w b5 HX) | (have hq := b3; clear hq; intro w b4 HX) | (have hq := b2; clear hq; intro w b3 HX) | (have hq := b; clear hq; intro w b2 HX) | intro w b HX); simp only [Act.put, k_a, k_b, k_c]) | ((first | (refine sWN ?_; clear HX; intro w mm HX) | (refine sWP ?_; clear HX; intro w av nv cv HX)); simp only [Act.put, k_a, k_b, k_c]))
        go_end0
        refine ⟨rfl, P2, HSUB.out, ?_⟩
        rw [HKK.out]
        have h1 := HX.out.up2
        rw [HENT.out.2] at h1
        exact (rt_shut (S := { S with l := S.l.take k ++ (p.data.toList, n) :: S.l.drop k }) h1 HENT.out.1).up1.cut2
      · refine ⟨_, (by (simp only [k_i, k_j, k_k]; try rfl)), fun K hK => ?_⟩
        go_wp2_with (first | (refine sWL ?_; simp only [Act.put, k_a, k_b, k_c, k_d, k_e, k_f, k_g, k_h, NodeS.cells, OpS.cells, ResS.cells]) | (refine sWM ?_; simp only [Act.put, k_a, k_b, k_c]) | ((first | refine sWS ?_ | refine sWT ?_); clear HX; intro w HX; simp only [Act.put, k_a, k_b, k_c, setMany, Nat.reduceAdd, NodeS.cells, OpS.cells, ResS.cells] at HX ⊢) | (refine sWA ?_; clear HX; (first | (have hq := b4; clear hq; intro w b5 HX) | (have hq := b3; clear hq; intro w b4 HX) | (have hq := b2; clear hq; intro w b3 HX) | (have hq := b; clear hq; intro w b2 HX) | intro w b HX); simp only [Act.put, k_a, k_b, k_c]) | ((first | (refine sWN ?_; clear HX; intro w mm HX) | (refine sWP ?_; clear HX; intro w av nv cv HX)); simp only [Act.put, k_a, k_b, k_c]))
        refine hK _ _ HX.out.drop.drop ?_
        clear hK
        refine wpAnyM_one (fuel := 5) (i := 8) (by kernel_rfl) (by (simp only [k_i, k_j, k_k]; try rfl)) (fun K hK => ?_)
        go_wp2_with (first | (refine sWL ?_; simp only [Act.put, k_a, k_b, k_c, k_d, k_e, k_f, k_g, k_h, NodeS.cells, OpS.cells, ResS.cells]) | (refine sWM ?_; simp only [Act.put, k_a, k_b, k_c]) | ((first | refine sWS ?_ | refine sWT ?_); clear HX; intro w HX; simp only [Act.put, k_a, k_b, k_c, setMany, Nat.reduceAdd, NodeS.cells, OpS.cells, ResS.cells] at HX ⊢) | (refine sWA ?_; clear HX; (first | (have hq := b4; clear hq; intro w b5 HX) | (have hq := b3; clear hq; intro w b4 HX) | (have hq := b2; clear hq; intro w b3 HX) | (have hq := b; clear hq; intro w b2 HX) | intro w b HX); simp only [Act.put, k_a, k_b, k_c]) | ((first | (refine sWN ?_; clear HX; intro w mm HX) | (refine sWP ?_; clear HX; intro w av nv cv HX)); simp only [Act.put, k_a, k_b, k_c]) | ((with_reducible apply sx_appP HX); (· exact sl_ent); (· rfl); (· rfl); (· (repeat (first | (with_reducible exact Rem.here) | (with_reducible apply Rem.there)))); (· (repeat (first | (with_reducible exact k_s) | (with_reducible apply k_m)))); (· (first | exact HMEM.out.1 | exact HMEM.out.2)); (· (first | exact HONE.out.1 | exact HONE.out.2)); (· (intro n m hn hm; simp only [List.length_nil, List.length_append, List.length_take, List.length_drop, List.length_cons, Array.length_toList, List.size_toArray] at hn hm; omega)); clear HX; intro w av nv cv HX; simp only [Act.put, k_a, k_b, k_c]))
        refine hK _ _ HX.out.drop.drop ?_
        clear hK
        refine wpAnyM_one (fuel := 4) (i := 11) (by kernel_rfl) (by (simp only [k_i, k_j, k_k]; try rfl)) (fun K hK => ?_)
        go_wp2_with (first | (refine sWL ?_; simp only [Act.put, k_a, k_b, k_c, k_d, k_e, k_f, k_g, k_h, NodeS.cells, OpS.cells, ResS.cells]) | (refine sWM ?_; simp only [Act.put, k_a, k_b, k_c]) | ((first | refine sWS ?_ | refine sWT ?_); clear HX; intro w HX; simp only [Act.put, k_a, k_b, k_c, setMany, Nat.reduceAdd, NodeS.cells, OpS.cells, ResS.cells] at HX ⊢) | (refine sWA ?_; clear HX; (first | (have hq := b4; clear hq; intro w b5 HX) | (have hq := b3; clear hq; intro w b4 HX) | (have hq := b2; clear hq; intro w b3 HX) | (have hq := b; clear hq; intro w b2 HX) | intro w b HX); simp only [Act.put, k_a, k_b, k_c]) | ((first | (refine sWN ?_; clear HX; intro w mm HX) | (refine sWP ?_; clear HX; intro w av nv cv HX)); simp only [Act.put, k_a, k_b, k_c]))
        refine hK _ _ (HX.out.pm 5 [2, 3, 4] rfl rfl) ?_
        clear hK
        refine wpAnyM_one (fuel := 3) (i := 18) (by kernel_rfl) (by (simp only [k_i, k_j, k_k]; try rfl)) (fun K hK => ?_)
        go_wp2_with (first | (refine sWL ?_; simp only [Act.put, k_a, k_b, k_c, k_d, k_e, k_f, k_g, k_h, NodeS.cells, OpS.cells, ResS.cells]) | (refine sWM ?_; simp only [Act.put, k_a, k_b, k_c]) | ((first | refine sWS ?_ | refine sWT ?_); clear HX; intro w HX; simp only [Act.put, k_a, k_b, k_c, setMany, Nat.reduceAdd, NodeS.cells, OpS.cells, ResS.cells] at HX ⊢) | (refine sWA ?_; clear HX; (first | (have hq := b4; clear hq; intro w b5 HX) | (have hq := b3; clear hq; intro w b4 HX) | (have hq := b2; clear hq; intro w b3 HX) | (have hq := b; clear hq; intro w b2 HX) | intro w b HX); simp only [Act.put, k_a, k_b, k_c]) | ((first | (refine sWN ?_; clear HX; intro w mm HX) | (refine sWP ?_; clear HX; intro w av nv cv HX)); simp only [Act.put, k_a, k_b, k_c]) | ((with_reducible apply sx_appP HX); (· exact sl_ent); (· rfl); (· rfl); (· (repeat (first | (with_reducible exact Rem.here) | (with_reducible apply Rem.there)))); (· (repeat (first | (with_reducible exact k_s) | (with_reducible apply k_m)))); (· (first | exact HMEM.out.1 | exact HMEM.out.2)); (· (first | exact HONE.out.1 | exact HONE.out.2)); (· (intro n m hn hm; simp only [List.length_nil, List.length_append, List.length_take, List.length_drop, List.length_cons, Array.length_toList, List.size_toArray] at hn hm; omega)); clear HX; intro w av nv cv HX; simp only [Act.put, k_a, k_b, k_c]))
        refine hK _ _ (HX.out.pm 5 [2, 3, 4] rfl rfl) ?_
        clear hK
        refine wpAnyM_of_any _ _ _ _ (by decide) ?_
        refine wpAny_list [19, 20, 21] (fuel := 0) (by kernel_rfl) ?_
        simp only [List.filterMap_cons, List.filterMap_nil, k_i, k_j, k_k]
        have hent : EntL P2 (S.l.take k ++ (p.data.toList, n) :: S.l.drop k) ([] ++ xs.take (k * 11) ++ [.string p, .int .i64 n.made, .int .i64 n.changed, .int .i64 n.ver, .int .i64 n.kids, .int .i64 n.owner, .int .i64 (n.data.size : Nat), .int .i64 (n.names.length : Nat), .string n.data, .int .i64 n.next, .slice na nn nc] ++ xs.drop (k * 11)) := by
          first
            | (rw [HZ.out.1, HZ.out.2]; exact .cons (HSUB.out _ HV.out) .nil)
            | (rw [List.nil_append, List.append_assoc]; exact ((HE.out.take k).mono HSUB.out).app (.cons (HSUB.out _ HV.out) ((HE.out.drop k).mono HSUB.out)))
        have h9 := HX.out.cut1
        have hnl : nv = (S.l.take k ++ (p.data.toList, n) :: S.l.drop k).length := by
          obtain ⟨_, _, _, e, hl, -, -⟩ := h9.rowLen
          simp only [Value.slice.injEq] at e
          obtain ⟨rfl, rfl, rfl⟩ := e
          rw [hent.len] at hl
          omega
        have HENT := Lib.hid (show _ ∧ _ from ⟨hent, hnl⟩)
        clear HX
        have HX := Lib.hid h9
        clear hent hnl h9
        go_step
        go_step
        first
          | refine sWT ?_
          | (go_step; refine sWT ?_)
          | (go_step; go_step; refine sWT ?_)
        clear HX
        intro w HX
        simp only [Act.put, k_a, k_b, k_c] at HX ⊢
        go_wp2_with (first | (refine sWL ?_; simp only [Act.put, k_a, k_b, k_c, k_d, k_e, k_f, k_g, k_h, NodeS.cells, OpS.cells, ResS.cells]) | (refine sWM ?_; simp only [Act.put, k_a, k_b, k_c]) | ((first | refine sWS ?_ | refine sWT ?_); clear HX; intro w HX; simp only [Act.put, k_a, k_b, k_c, setMany, Nat.reduceAdd, NodeS.cells, OpS.cells, ResS.cells] at HX ⊢) | (refine sWA ?_; clear HX; (first | (have hq := b4; clear hq; intro w b5 HX) | (have hq := b3; clear hq; intro w b4 HX) | (have hq := b2; clear hq; intro w b3 HX) | (have hq := b; clear hq; intro w b2 HX) | intro w b HX); simp only [Act.put, k_a, k_b, k_c]) | ((first | (refine sWN ?_; clear HX; intro w mm HX) | (refine sWP ?_; clear HX; intro w av nv cv HX)); simp only [Act.put, k_a, k_b, k_c]))
        go_end0
        refine ⟨rfl, P2, HSUB.out, ?_⟩
        rw [HKK.out]
        have h1 := HX.out.up2
        rw [HENT.out.2] at h1
        exact (rt_shut (S := { S with l := S.l.take k ++ (p.data.toList, n) :: S.l.drop k }) h1 HENT.out.1).up1.cut2
    · refine ⟨_, (by (simp only [k_i, k_j, k_k]; try rfl)), fun K hK => ?_⟩
      go_wp2_with (first | (refine sWL ?_; simp only [Act.put, k_a, k_b, k_c, k_d, k_e, k_f, k_g, k_h, NodeS.cells, OpS.cells, ResS.cells]) | (refine sWM ?_; simp only [Act.put, k_a, k_b, k_c]) | ((first | refine sWS ?_ | refine sWT ?_); clear HX; intro w HX; simp only [Act.put, k_a, k_b, k_c, setMany, Nat.reduceAdd, NodeS.cells, OpS.cells, ResS.cells] at HX ⊢) | (refine sWA ?_; clear HX; (first | (have hq := b4; clear hq; intro w b5 HX) | (have hq := b3; clear hq; intro w b4 HX) | (have hq := b2; clear hq; intro w b3 HX) | (have hq := b; clear hq; intro w b2 HX) | intro w b HX); simp only [Act.put, k_a, k_b, k_c]) | ((first | (refine sWN ?_; clear HX; intro w mm HX) | (refine sWP ?_; clear HX; intro w av nv cv HX)); simp only [Act.put, k_a, k_b, k_c]))
      refine hK _ _ HX.out.drop ?_
      clear hK
      refine wpAnyM_one (fuel := 6) (i := 1) (by kernel_rfl) (by (simp only [k_i, k_j, k_k]; try rfl)) (fun K hK => ?_)
      go_wp2_with (first | (refine sWL ?_; simp only [Act.put, k_a, k_b, k_c, k_d, k_e, k_f, k_g, k_h, NodeS.cells, OpS.cells, ResS.cells]) | (refine sWM ?_; simp only [Act.put, k_a, k_b, k_c]) | ((first | refine sWS ?_ | refine sWT ?_); clear HX; intro w HX; simp only [Act.put, k_a, k_b, k_c, setMany, Nat.reduceAdd, NodeS.cells, OpS.cells, ResS.cells] at HX ⊢) | (refine sWA ?_; clear HX; (first | (have hq := b4; clear hq; intro w b5 HX) | (have hq := b3; clear hq; intro w b4 HX) | (have hq := b2; clear hq; intro w b3 HX) | (have hq := b; clear hq; intro w b2 HX) | intro w b HX); simp only [Act.put, k_a, k_b, k_c]) | ((first | (refine sWN ?_; clear HX; intro w mm HX) | (refine sWP ?_; clear HX; intro w av nv cv HX)); simp only [Act.put, k_a, k_b, k_c]) | (refine sx_lit0 HX sl_ent ?_; clear HX; intro w b4 HX; simp only [Act.put, k_a, k_b, k_c]))
      refine hK _ _ HX.out.drop.drop ?_
      clear hK
      refine wpAnyM_one (fuel := 5) (i := 8) (by kernel_rfl) (by (simp only [k_i, k_j, k_k]; try rfl)) (fun K hK => ?_)
      go_wp2_with (first | (refine sWL ?_; simp only [Act.put, k_a, k_b, k_c, k_d, k_e, k_f, k_g, k_h, NodeS.cells, OpS.cells, ResS.cells]) | (refine sWM ?_; simp only [Act.put, k_a, k_b, k_c]) | ((first | refine sWS ?_ | refine sWT ?_); clear HX; intro w HX; simp only [Act.put, k_a, k_b, k_c, setMany, Nat.reduceAdd, NodeS.cells, OpS.cells, ResS.cells] at HX ⊢) | (refine sWA ?_; clear HX; (first | (have hq := b4; clear hq; intro w b5 HX) | (have hq := b3; clear hq; intro w b4 HX) | (have hq := b2; clear hq; intro w b3 HX) | (have hq := b; clear hq; intro w b2 HX) | intro w b HX); simp only [Act.put, k_a, k_b, k_c]) | ((first | (refine sWN ?_; clear HX; intro w mm HX) | (refine sWP ?_; clear HX; intro w av nv cv HX)); simp only [Act.put, k_a, k_b, k_c]) | ((with_reducible apply sx_appP HX); (· exact sl_ent); (· rfl); (· rfl); (· (repeat (first | (with_reducible exact Rem.here) | (with_reducible apply Rem.there)))); (· (repeat (first | (with_reducible exact k_s) | (with_reducible apply k_m)))); (· (first | exact HMEM.out.1 | exact HMEM.out.2)); (· (first | exact HONE.out.1 | exact HONE.out.2)); (· (intro n m hn hm; simp only [List.length_nil, List.length_append, List.length_take, List.length_drop, List.length_cons, Array.length_toList, List.size_toArray] at hn hm; omega)); clear HX; intro w av nv cv HX; simp only [Act.put, k_a, k_b, k_c]))
      refine hK _ _ HX.out.drop.drop ?_
      clear hK
      refine wpAnyM_one (fuel := 4) (i := 11) (by kernel_rfl) (by (simp only [k_i, k_j, k_k]; try rfl)) (fun K hK => ?_)
      go_wp2_with (first | (refine sWL ?_; simp only [Act.put, k_a, k_b, k_c, k_d, k_e, k_f, k_g, k_h, NodeS.cells, OpS.cells, ResS.cells]) | (refine sWM ?_; simp only [Act.put, k_a, k_b, k_c]) | ((first | refine sWS ?_ | refine sWT ?_); clear HX; intro w HX; simp only [Act.put, k_a, k_b, k_c, setMany, Nat.reduceAdd, NodeS.cells, OpS.cells, ResS.cells] at HX ⊢) | (refine sWA ?_; clear HX; (first | (have hq := b4; clear hq; intro w b5 HX) | (have hq := b3; clear hq; intro w b4 HX) | (have hq := b2; clear hq; intro w b3 HX) | (have hq := b; clear hq; intro w b2 HX) | intro w b HX); simp only [Act.put, k_a, k_b, k_c]) | ((first | (refine sWN ?_; clear HX; intro w mm HX) | (refine sWP ?_; clear HX; intro w av nv cv HX)); simp only [Act.put, k_a, k_b, k_c]))
      refine hK _ _ (HX.out.pm 5 [2, 3, 4] rfl rfl) ?_
      clear hK
      refine wpAnyM_one (fuel := 3) (i := 18) (by kernel_rfl) (by (simp only [k_i, k_j, k_k]; try rfl)) (fun K hK => ?_)
      go_wp2_with (first | (refine sWL ?_; simp only [Act.put, k_a, k_b, k_c, k_d, k_e, k_f, k_g, k_h, NodeS.cells, OpS.cells, ResS.cells]) | (refine sWM ?_; simp only [Act.put, k_a, k_b, k_c]) | ((first | refine sWS ?_ | refine sWT ?_); clear HX; intro w HX; simp only [Act.put, k_a, k_b, k_c, setMany, Nat.reduceAdd, NodeS.cells, OpS.cells, ResS.cells] at HX ⊢) | (refine sWA ?_; clear HX; (first | (have hq := b4; clear hq; intro w b5 HX) | (have hq := b3; clear hq; intro w b4 HX) | (have hq := b2; clear hq; intro w b3 HX) | (have hq := b; clear hq; intro w b2 HX) | intro w b HX); simp only [Act.put, k_a, k_b, k_c]) | ((first | (refine sWN ?_; clear HX; intro w mm HX) | (refine sWP ?_; clear HX; intro w av nv cv HX)); simp only [Act.put, k_a, k_b, k_c]) | ((with_reducible apply sx_appP HX); (· exact sl_ent); (· rfl); (· rfl); (· (repeat (first | (with_reducible exact Rem.here) | (with_reducible apply Rem.there)))); (· (repeat (first | (with_reducible exact k_s) | (with_reducible apply k_m)))); (· (first | exact HMEM.out.1 | exact HMEM.out.2)); (· (first | exact HONE.out.1 | exact HONE.out.2)); (· (intro n m hn hm; simp only [List.length_nil, List.length_append, List.length_take, List.length_drop, List.length_cons, Array.length_toList, List.size_toArray] at hn hm; omega)); clear HX; intro w av nv cv HX; simp only [Act.put, k_a, k_b, k_c]))
      refine hK _ _ (HX.out.pm 5 [2, 3, 4] rfl rfl) ?_
      clear hK
      refine wpAnyM_of_any _ _ _ _ (by decide) ?_
      refine wpAny_list [19, 20, 21] (fuel := 0) (by kernel_rfl) ?_
      simp only [List.filterMap_cons, List.filterMap_nil, k_i, k_j, k_k]
      have hent : EntL P2 (S.l.take k ++ (p.data.toList, n) :: S.l.drop k) ([] ++ xs.take (k * 11) ++ [.string p, .int .i64 n.made, .int .i64 n.changed, .int .i64 n.ver, .int .i64 n.kids, .int .i64 n.owner, .int .i64 (n.data.size : Nat), .int .i64 (n.names.length : Nat), .string n.data, .int .i64 n.next, .slice na nn nc] ++ xs.drop (k * 11)) := by
        first
          | (rw [HZ.out.1, HZ.out.2]; exact .cons (HSUB.out _ HV.out) .nil)
          | (rw [List.nil_append, List.append_assoc]; exact ((HE.out.take k).mono HSUB.out).app (.cons (HSUB.out _ HV.out) ((HE.out.drop k).mono HSUB.out)))
      have h9 := HX.out.cut1
      have hnl : nv = (S.l.take k ++ (p.data.toList, n) :: S.l.drop k).length := by
        obtain ⟨_, _, _, e, hl, -, -⟩ := h9.rowLen
        simp only [Value.slice.injEq] at e
        obtain ⟨rfl, rfl, rfl⟩ := e
        rw [hent.len] at hl
        omega
      have HENT := Lib.hid (show _ ∧ _ from ⟨hent, hnl⟩)
      clear HX
      have HX := Lib.hid h9
      clear hent hnl h9
      go_step
      go_step
      first
        | refine sWT ?_
        | (go_step; refine sWT ?_)
        | (go_step; go_step; refine sWT ?_)
      clear HX
      intro w HX
      simp only [Act.put, k_a, k_b, k_c] at HX ⊢
      go_wp2_with (first | (refine sWL ?_; simp only [Act.put, k_a, k_b, k_c, k_d, k_e, k_f, k_g, k_h, NodeS.cells, OpS.cells, ResS.cells]) | (refine sWM ?_; simp only [Act.put, k_a, k_b, k_c]) | ((first | refine sWS ?_ | refine sWT ?_); clear HX; intro w HX; simp only [Act.put, k_a, k_b, k_c, setMany, Nat.reduceAdd, NodeS.cells, OpS.cells, ResS.cells] at HX ⊢) | (refine sWA ?_; clear HX; (first | (have hq := b4; clear hq; intro w b5 HX) | (have hq := b3; clear hq; intro w b4 HX) | (have hq := b2; clear hq; intro w b3 HX) | (have hq := b; clear hq; intro w b2 HX) | intro w b HX); simp only [Act.put, k_a, k_b, k_c]) | ((first | (refine sWN ?_; clear HX; intro w mm HX) | (refine sWP ?_; clear HX; intro w av nv cv HX)); simp only [Act.put, k_a, k_b, k_c]))
      go_end0
      refine ⟨rfl, P2, HSUB.out, ?_⟩
      rw [HKK.out]
      have h1 := HX.out.up2
      rw [HENT.out.2] at h1
      exact (rt_shut (S := { S with l := S.l.take k ++ (p.data.toList, n) :: S.l.drop k }) h1 HENT.out.1).up1.cut2
end
end Go.Proofs.YtjeaoopamebgjaaGreatDoor

namespace Go.Proofs.YtjeaoopamebgjaaGreatDoor
open Go.RowKit Go.Av
section
variable {w0 w : World} {b : Nat} {S : TreeS} {P P' : List PRow} {R : List Thing} {rows : List (Value × Bs)}
theorem rres_nil {S' : TreeS} {r : ResS} (hr : r.names = []) (h : Sep w0 w (ThPool w0 P :: ThRt b S' P :: R) rows) : RResPost w0 b S' P R rows r (.returned (.agg (r.cells (.slice none 0 0)))) w :=
  ⟨.slice none 0 0, (1, .slice none 0 0, []) :: P, rfl, fun q hq => k_n _ hq, by rw [hr]; exact k_s, (rt_mono (h.poolNil 1).up1 (P' := (1, .slice none 0 0, []) :: P) (fun q hq => k_n _ hq)).up1⟩
theorem get_of {l : NoL} {k : Nat} (hk : k < l.length) {up : Bs} (h1 : l[k].1 = up) {m : NodeS} (h2 : l[k].2 = m) : l[k] = (up, m) := by rw [← h1, ← h2]
set_option maxRecDepth 100000 in
set_option maxHeartbeats 8000000 in
theorem rtcreate_any (h : Sep w0 w (ThPool w0 P :: ThRt b S P :: R) rows) (o : OpS) (hp : o.path.size ≤ 100000) (hg : goodE o = 0) (sess zxid : Int) (hr : RiseT S.l) (hok : ∀ e ∈ S.l, NodeOk e.2) (hn : S.l.length ≤ 100000) :
    Calls Tryz.prog 75 #[.pointer (some ⟨b, 0, none⟩), o.val, .int .i64 sess, .int .i64 zxid] w (RResPost w0 b (createT S o sess zxid).2 P R rows (createT S o sess zxid).1) := by
  have HX := Lib.hid h
  have HR := Lib.hid (show _ ∧ _ from ⟨hr, hok⟩)
  obtain ⟨cr, hcr⟩ : ∃ cr, createT S o sess zxid = cr := ⟨_, rfl⟩
  rw [hcr]
  have HCR := Lib.hid hcr
  obtain ⟨-, -, -, -, h0, h3⟩ := formed_ok (goodE_ok hg).1
  have hsq := seq_bitn h0 h3
  have heb := eph_bit h0 h3
  have HTS := Lib.hid (fun h => top_seq hg h)
  have HO := Lib.hid (show o.p = o.path.data.toList from rfl)
  clear h hr hok hcr hg
  obtain ⟨path, hpath⟩ : ∃ path, o.path = path := ⟨_, rfl⟩
  obtain ⟨flags, hflags⟩ : ∃ flags, o.flags = flags := ⟨_, rfl⟩
  obtain ⟨data, hdata⟩ : ∃ data, o.data = data := ⟨_, rfl⟩
  unfold OpS.val
  rw [hpath] at HO hp ⊢
  rw [hflags] at h0 h3 hsq heb HTS ⊢
  rw [hdata]
  have HOF := Lib.hid (show _ ∧ _ from ⟨hflags, hdata⟩)
  rw [HO.out] at HTS
  obtain ⟨zsq, hzsq⟩ : ∃ z, seqF flags = z := ⟨_, rfl⟩
  obtain ⟨zeb, hzeb⟩ : ∃ z, ephF flags = z := ⟨_, rfl⟩
  rw [hzsq] at hsq HTS
  rw [hzeb] at heb
  have HSE := Lib.hid (show _ ∧ _ from ⟨hzsq, hzeb⟩)
  clear h0 h3 hpath hflags hdata hzsq hzeb
  go_enter Tryz.func75, Tryz.ntmps75
  go_wp2_with (first | (refine sWL ?_; simp only [Act.put, k_a, k_b, k_c, k_d, k_e, k_f, k_g, k_h, NodeS.cells, OpS.cells, ResS.cells]) | (refine sWM ?_; simp only [Act.put, k_a, k_b, k_c]) | ((first | refine sWS ?_ | refine sWT ?_); clear HX; intro w HX; simp only [Act.put, k_a, k_b, k_c, setMany, Nat.reduceAdd, NodeS.cells, OpS.cells, ResS.cells] at HX ⊢) | (refine sWA ?_; clear HX; (first | (have hq := b3; clear hq; intro w b4 HX) | (have hq := b2; clear hq; intro w b3 HX) | (have hq := b; clear hq; intro w b2 HX) | intro w b HX); simp only [Act.put, k_a, k_b, k_c]) | ((first | (refine sWN ?_; clear HX; intro w mm HX) | (refine sWP ?_; clear HX; intro w av nv cv HX)); simp only [Act.put, k_a, k_b, k_c]))
  refine (parent1_any path _ (by unfold maxLen; omega)).mono ?_
  cases hpa : parentP path.data.toList with
  | none =>
    rintro e w1 ⟨rfl, hu⟩
    replace HX := Lib.hid (HX.out.keep hu)
    obtain rfl : zsq = false := HTS.out hpa
    have HPL := Lib.hid (show placeT S o = endT S path.data.toList by rw [place_top (by rw [HO.out]; exact hpa), HO.out])
    have HPA := Lib.hid hpa
    clear hu HTS hpa
    dsimp only [Option.isSome, Option.getD]
    unfold sv
    go_wp2_with (first | (refine sWL ?_; simp only [Act.put, k_a, k_b, k_c, k_d, k_e, k_f, k_g, k_h, NodeS.cells, OpS.cells, ResS.cells]) | (refine sWM ?_; simp only [Act.put, k_a, k_b, k_c]) | ((first | refine sWS ?_ | refine sWT ?_); clear HX; intro w HX; simp only [Act.put, k_a, k_b, k_c, setMany, Nat.reduceAdd, NodeS.cells, OpS.cells, ResS.cells] at HX ⊢) | (refine sWA ?_; clear HX; (first | (have hq := b3; clear hq; intro w b4 HX) | (have hq := b2; clear hq; intro w b3 HX) | (have hq := b; clear hq; intro w b2 HX) | intro w b HX); simp only [Act.put, k_a, k_b, k_c]) | ((first | (refine sWN ?_; clear HX; intro w mm HX) | (refine sWP ?_; clear HX; intro w av nv cv HX)); simp only [Act.put, k_a, k_b, k_c]))
    refine (at10_any HX.out.up3 ⟨([] : Bs).toArray⟩ hn).mono ?_
    unfold AtPost
    obtain ⟨hb, hhb⟩ : ∃ hb, hasS (keysT S) (⟨([] : Bs).toArray⟩ : ByteArray).data.toList = hb := ⟨_, rfl⟩
    obtain ⟨kk, hkk⟩ : ∃ kk, placeS (keysT S) (⟨([] : Bs).toArray⟩ : ByteArray).data.toList = kk := ⟨_, rfl⟩
    rw [hhb, hkk]
    rintro e w ⟨rfl, hx⟩
    clear HX hhb hkk
    have HX := Lib.hid hx.up3
    clear hx
    go_wp2_with (first | (refine sWL ?_; simp only [Act.put, k_a, k_b, k_c, k_d, k_e, k_f, k_g, k_h, NodeS.cells, OpS.cells, ResS.cells]) | (refine sWM ?_; simp only [Act.put, k_a, k_b, k_c]) | ((first | refine sWS ?_ | refine sWT ?_); clear HX; intro w HX; simp only [Act.put, k_a, k_b, k_c, setMany, Nat.reduceAdd, NodeS.cells, OpS.cells, ResS.cells] at HX ⊢) | (refine sWA ?_; clear HX; (first | (have hq := b3; clear hq; intro w b4 HX) | (have hq := b2; clear hq; intro w b3 HX) | (have hq := b; clear hq; intro w b2 HX) | intro w b HX); simp only [Act.put, k_a, k_b, k_c]) | ((first | (refine sWN ?_; clear HX; intro w mm HX) | (refine sWP ?_; clear HX; intro w av nv cv HX)); simp only [Act.put, k_a, k_b, k_c]))
    refine (at10_any HX.out.up1 path hn).mono ?_
    unfold AtPost
    obtain ⟨hb2, hhb2⟩ : ∃ hb2, hasS (keysT S) (path).data.toList = hb2 := ⟨_, rfl⟩
    obtain ⟨kp, hkp⟩ : ∃ kp, placeS (keysT S) (path).data.toList = kp := ⟨_, rfl⟩
    rw [hhb2, hkp]
    rintro e w ⟨rfl, hx⟩
    clear HX hkp
    have HX := Lib.hid hx
    clear hx
    cases hb2 with
    | true =>
      obtain rfl : cr = (failS 5, S) := by
        rw [← HCR.out]
        exact create_bad (by rw [HPL.out, end_is HR.out.1 hhb2]) (by decide)
      clear HPL hhb2
      go_wp2_with (first | (refine sWL ?_; simp only [Act.put, k_a, k_b, k_c, k_d, k_e, k_f, k_g, k_h, NodeS.cells, OpS.cells, ResS.cells]) | (refine sWM ?_; simp only [Act.put, k_a, k_b, k_c]) | ((first | refine sWS ?_ | refine sWT ?_); clear HX; intro w HX; simp only [Act.put, k_a, k_b, k_c, setMany, Nat.reduceAdd, NodeS.cells, OpS.cells, ResS.cells] at HX ⊢) | (refine sWA ?_; clear HX; (first | (have hq := b3; clear hq; intro w b4 HX) | (have hq := b2; clear hq; intro w b3 HX) | (have hq := b; clear hq; intro w b2 HX) | intro w b HX); simp only [Act.put, k_a, k_b, k_c]) | ((first | (refine sWN ?_; clear HX; intro w mm HX) | (refine sWP ?_; clear HX; intro w av nv cv HX)); simp only [Act.put, k_a, k_b, k_c]))
      refine (fail10_any HX.out 5).mono ?_
      rintro e w ⟨rfl, hx⟩
      clear HX
      have HX := Lib.hid hx
      clear hx
      simp only [ResS.cells, failS, noSt]
      go_wp2_with (first | (refine sWL ?_; simp only [Act.put, k_a, k_b, k_c, k_d, k_e, k_f, k_g, k_h, NodeS.cells, OpS.cells, ResS.cells]) | (refine sWM ?_; simp only [Act.put, k_a, k_b, k_c]) | ((first | refine sWS ?_ | refine sWT ?_); clear HX; intro w HX; simp only [Act.put, k_a, k_b, k_c, setMany, Nat.reduceAdd, NodeS.cells, OpS.cells, ResS.cells] at HX ⊢) | (refine sWA ?_; clear HX; (first | (have hq := b3; clear hq; intro w b4 HX) | (have hq := b2; clear hq; intro w b3 HX) | (have hq := b; clear hq; intro w b2 HX) | intro w b HX); simp only [Act.put, k_a, k_b, k_c]) | ((first | (refine sWN ?_; clear HX; intro w mm HX) | (refine sWP ?_; clear HX; intro w av nv cv HX)); simp only [Act.put, k_a, k_b, k_c]))
      refine sx_ret HX rfl rfl (by (repeat (first | (with_reducible exact k_s) | (with_reducible apply k_m)))) (by kernel_rfl) ?_
      refine rres_nil (r := failS 5) rfl ?_
      exact HX.out.pm 4 [1, 0] rfl rfl
    | false =>
      have HH2 := Lib.hid (show hasS (S.l.map (·.1)) (path).data.toList = false from hhb2)
      clear hhb2
      obtain ⟨a, m, c, xs, he, rfl, hS⟩ := rt_open HX.out
      clear HX
      have HX := Lib.hid hS
      have HE := Lib.hid (show _ ∧ True from ⟨he, trivial⟩)
      clear hS he
      by_cases hroom : S.room ≤ S.l.length
      · have q7 : decide (S.room ≤ (S.l.length : Int)) = true := decide_eq_true hroom
        obtain rfl : cr = (failS 9, S) := by
          rw [← HCR.out]
          exact create_bad (by rw [HPL.out, end_full HR.out.1 HH2.out hroom]) (by decide)
        clear HPL hroom
        go_wp2_with (first | (refine sWL ?_; simp only [Act.put, k_a, k_b, k_c, k_d, k_e, k_f, k_g, k_h, NodeS.cells, OpS.cells, ResS.cells]) | (refine sWM ?_; simp only [Act.put, k_a, k_b, k_c]) | ((first | refine sWS ?_ | refine sWT ?_); clear HX; intro w HX; simp only [Act.put, k_a, k_b, k_c, setMany, Nat.reduceAdd, NodeS.cells, OpS.cells, ResS.cells] at HX ⊢) | (refine sWA ?_; clear HX; (first | (have hq := b3; clear hq; intro w b4 HX) | (have hq := b2; clear hq; intro w b3 HX) | (have hq := b; clear hq; intro w b2 HX) | intro w b HX); simp only [Act.put, k_a, k_b, k_c]) | ((first | (refine sWN ?_; clear HX; intro w mm HX) | (refine sWP ?_; clear HX; intro w av nv cv HX)); simp only [Act.put, k_a, k_b, k_c]))
        refine wp_region_M (fun W => W = w.drew) 10 (by kernel_rfl) ?_
        replace HX := Lib.hid HX.out.drew
        generalize w.drew = w at HX ⊢
        refine wpAnyM_take (by kernel_rfl) (by intro c a d v w h; cases d <;> exact h) [(0, false), (1, false), (2, false), (3, true), (4, false), (5, false), (6, false), (7, false), (8, true), (9, false)] (fuel := 0) (by kernel_rfl) ?_
        apply Exists.intro; refine ⟨?_, rfl, ?_⟩
        · iterate 10 (refine yD ?_)
          exact rfl
        refine wpAnyM_done (by kernel_rfl) ?_ _
        go_wp2_with (first | (refine sWL ?_; simp only [Act.put, k_a, k_b, k_c, k_d, k_e, k_f, k_g, k_h, NodeS.cells, OpS.cells, ResS.cells]) | (refine sWM ?_; simp only [Act.put, k_a, k_b, k_c]) | ((first | refine sWS ?_ | refine sWT ?_); clear HX; intro w HX; simp only [Act.put, k_a, k_b, k_c, setMany, Nat.reduceAdd, NodeS.cells, OpS.cells, ResS.cells] at HX ⊢) | (refine sWA ?_; clear HX; (first | (have hq := b3; clear hq; intro w b4 HX) | (have hq := b2; clear hq; intro w b3 HX) | (have hq := b; clear hq; intro w b2 HX) | intro w b HX); simp only [Act.put, k_a, k_b, k_c]) | ((first | (refine sWN ?_; clear HX; intro w mm HX) | (refine sWP ?_; clear HX; intro w av nv cv HX)); simp only [Act.put, k_a, k_b, k_c]))
        have h9 := (rt_shut HX.out HE.out.1).up1
        clear HX
        have HX := Lib.hid h9
        clear h9
        go_wp2_with (first | (refine sWL ?_; simp only [Act.put, k_a, k_b, k_c, k_d, k_e, k_f, k_g, k_h, NodeS.cells, OpS.cells, ResS.cells]) | (refine sWM ?_; simp only [Act.put, k_a, k_b, k_c]) | ((first | refine sWS ?_ | refine sWT ?_); clear HX; intro w HX; simp only [Act.put, k_a, k_b, k_c, setMany, Nat.reduceAdd, NodeS.cells, OpS.cells, ResS.cells] at HX ⊢) | (refine sWA ?_; clear HX; (first | (have hq := b3; clear hq; intro w b4 HX) | (have hq := b2; clear hq; intro w b3 HX) | (have hq := b; clear hq; intro w b2 HX) | intro w b HX); simp only [Act.put, k_a, k_b, k_c]) | ((first | (refine sWN ?_; clear HX; intro w mm HX) | (refine sWP ?_; clear HX; intro w av nv cv HX)); simp only [Act.put, k_a, k_b, k_c]))
        refine (fail10_any HX.out 9).mono ?_
        rintro e w ⟨rfl, hx⟩
        clear HX
        have HX := Lib.hid hx
        clear hx
        simp only [ResS.cells, failS, noSt]
        go_wp2_with (first | (refine sWL ?_; simp only [Act.put, k_a, k_b, k_c, k_d, k_e, k_f, k_g, k_h, NodeS.cells, OpS.cells, ResS.cells]) | (refine sWM ?_; simp only [Act.put, k_a, k_b, k_c]) | ((first | refine sWS ?_ | refine sWT ?_); clear HX; intro w HX; simp only [Act.put, k_a, k_b, k_c, setMany, Nat.reduceAdd, NodeS.cells, OpS.cells, ResS.cells] at HX ⊢) | (refine sWA ?_; clear HX; (first | (have hq := b3; clear hq; intro w b4 HX) | (have hq := b2; clear hq; intro w b3 HX) | (have hq := b; clear hq; intro w b2 HX) | intro w b HX); simp only [Act.put, k_a, k_b, k_c]) | ((first | (refine sWN ?_; clear HX; intro w mm HX) | (refine sWP ?_; clear HX; intro w av nv cv HX)); simp only [Act.put, k_a, k_b, k_c]))
        refine sx_ret HX rfl rfl (by (repeat (first | (with_reducible exact k_s) | (with_reducible apply k_m)))) (by kernel_rfl) ?_
        refine rres_nil (r := failS 9) rfl ?_
        exact HX.out.pm 4 [0, 1] rfl rfl
      · have q7 : decide (S.room ≤ (S.l.length : Int)) = false := decide_eq_false hroom
        have HCR2 := Lib.hid (show cr = (⟨0, ⟨(path).data.toList.toArray⟩, ⟨#[]⟩, [], (createN o sess zxid).st⟩, { S with l := layT (path).data.toList (createN o sess zxid) S.l }) by
          rw [← HCR.out]
          exact create_good (by rw [HPL.out, end_ok HR.out.1 HH2.out hroom]))
        clear HPL hroom
        go_wp2_with (first | (refine sWL ?_; simp only [Act.put, k_a, k_b, k_c, k_d, k_e, k_f, k_g, k_h, NodeS.cells, OpS.cells, ResS.cells]) | (refine sWM ?_; simp only [Act.put, k_a, k_b, k_c]) | ((first | refine sWS ?_ | refine sWT ?_); clear HX; intro w HX; simp only [Act.put, k_a, k_b, k_c, setMany, Nat.reduceAdd, NodeS.cells, OpS.cells, ResS.cells] at HX ⊢) | (refine sWA ?_; clear HX; (first | (have hq := b3; clear hq; intro w b4 HX) | (have hq := b2; clear hq; intro w b3 HX) | (have hq := b; clear hq; intro w b2 HX) | intro w b HX); simp only [Act.put, k_a, k_b, k_c]) | ((first | (refine sWN ?_; clear HX; intro w mm HX) | (refine sWP ?_; clear HX; intro w av nv cv HX)); simp only [Act.put, k_a, k_b, k_c]))
        refine wp_region_M (fun W => W = w.drew) 10 (by kernel_rfl) ?_
        replace HX := Lib.hid HX.out.drew
        generalize w.drew = w at HX ⊢
        refine wpAnyM_take (by kernel_rfl) (by intro c a d v w h; cases d <;> exact h) [(0, false), (1, false), (2, false), (3, true), (4, false), (5, false), (6, false), (7, false), (8, true), (9, false)] (fuel := 0) (by kernel_rfl) ?_
        apply Exists.intro; refine ⟨?_, rfl, ?_⟩
        · iterate 10 (refine yD ?_)
          exact rfl
        refine wpAnyM_done (by kernel_rfl) ?_ _
        have h9 := (rt_shut HX.out HE.out.1).up1
        clear HX
        have HX := Lib.hid h9
        clear h9
        have HP2 := Lib.hid (show ∀ q ∈ P, q ∈ P from fun q hq => hq)
        have HL2 := Lib.hid (show (∀ n, layT (path).data.toList n S.l = insT (path).data.toList n S.l) ∧ S.l.length = S.l.length from ⟨fun n => lay_top HPA.out, rfl⟩)
        cases zeb with
        | true =>
          have HCN := Lib.hid (show createN o sess zxid = newS zxid sess data by unfold createN; rw [HOF.out.1, HOF.out.2, HSE.out.2]; rfl)
          go_wp2_with (first | (refine sWL ?_; simp only [Act.put, k_a, k_b, k_c, k_d, k_e, k_f, k_g, k_h, NodeS.cells, OpS.cells, ResS.cells]) | (refine sWM ?_; simp only [Act.put, k_a, k_b, k_c]) | ((first | refine sWS ?_ | refine sWT ?_); clear HX; intro w HX; simp only [Act.put, k_a, k_b, k_c, setMany, Nat.reduceAdd, NodeS.cells, OpS.cells, ResS.cells] at HX ⊢) | (refine sWA ?_; clear HX; (first | (have hq := b3; clear hq; intro w b4 HX) | (have hq := b2; clear hq; intro w b3 HX) | (have hq := b; clear hq; intro w b2 HX) | intro w b HX); simp only [Act.put, k_a, k_b, k_c]) | ((first | (refine sWN ?_; clear HX; intro w mm HX) | (refine sWP ?_; clear HX; intro w av nv cv HX)); simp only [Act.put, k_a, k_b, k_c]))
          refine (new10_any HX.out zxid sess data).mono ?_
          rintro e w ⟨rfl, hx⟩
          clear HX
          have HX := Lib.hid hx
          clear hx
          unfold NodeS.val NodeS.cells
          go_wp2_with (first | (refine sWL ?_; simp only [Act.put, k_a, k_b, k_c, k_d, k_e, k_f, k_g, k_h, NodeS.cells, OpS.cells, ResS.cells]) | (refine sWM ?_; simp only [Act.put, k_a, k_b, k_c]) | ((first | refine sWS ?_ | refine sWT ?_); clear HX; intro w HX; simp only [Act.put, k_a, k_b, k_c, setMany, Nat.reduceAdd, NodeS.cells, OpS.cells, ResS.cells] at HX ⊢) | (refine sWA ?_; clear HX; (first | (have hq := b3; clear hq; intro w b4 HX) | (have hq := b2; clear hq; intro w b3 HX) | (have hq := b; clear hq; intro w b2 HX) | intro w b HX); simp only [Act.put, k_a, k_b, k_c]) | ((first | (refine sWN ?_; clear HX; intro w mm HX) | (refine sWP ?_; clear HX; intro w av nv cv HX)); simp only [Act.put, k_a, k_b, k_c]))
          have HX2 := HX.out.up2.up2
          have HXP := HX2.poolNil 1
          have HX3 := Sep.up1 (rt_mono HXP.up1 (P' := (1, .slice none 0 0, []) :: P) (fun q hq => k_n _ hq))
          clear HX HX2 HXP
          have HX := Lib.hid HX3
          clear HX3
          refine (rtlay_any HX.out (path) (newS zxid sess data) none 0 0 k_s (by first | exact hn | exact Nat.le_trans (Nat.le_of_eq HL2.out.2) hn)).mono ?_
          rintro e w ⟨rfl, P3, hP3, hx⟩
          clear HX
          have HX := Lib.hid hx
          have HP3 := Lib.hid hP3
          clear hx hP3
          go_wp2_with (first | (refine sWL ?_; simp only [Act.put, k_a, k_b, k_c, k_d, k_e, k_f, k_g, k_h, NodeS.cells, OpS.cells, ResS.cells]) | (refine sWM ?_; simp only [Act.put, k_a, k_b, k_c]) | ((first | refine sWS ?_ | refine sWT ?_); clear HX; intro w HX; simp only [Act.put, k_a, k_b, k_c, setMany, Nat.reduceAdd, NodeS.cells, OpS.cells, ResS.cells] at HX ⊢) | (refine sWA ?_; clear HX; (first | (have hq := b3; clear hq; intro w b4 HX) | (have hq := b2; clear hq; intro w b3 HX) | (have hq := b; clear hq; intro w b2 HX) | intro w b HX); simp only [Act.put, k_a, k_b, k_c]) | ((first | (refine sWN ?_; clear HX; intro w mm HX) | (refine sWP ?_; clear HX; intro w av nv cv HX)); simp only [Act.put, k_a, k_b, k_c]))
          refine sx_ret HX rfl rfl (by (repeat (first | (with_reducible exact k_s) | (with_reducible apply k_m)))) (by kernel_rfl) ?_
          obtain rfl := HCR2.out
          refine ⟨.slice none 0 0, P3, ?_, fun q hq => HP3.out q (k_n _ (HP2.out q hq)), HP3.out _ k_s, ?_⟩
          · rw [HCN.out]
            rfl
          · rw [HCN.out, HL2.out.1, ← lay_ins]
            exact HX.out.pm 5 [0, 1] rfl rfl
        | false =>
          have HCN := Lib.hid (show createN o sess zxid = newS zxid 0 data by unfold createN; rw [HOF.out.1, HOF.out.2, HSE.out.2]; rfl)
          go_wp2_with (first | (refine sWL ?_; simp only [Act.put, k_a, k_b, k_c, k_d, k_e, k_f, k_g, k_h, NodeS.cells, OpS.cells, ResS.cells]) | (refine sWM ?_; simp only [Act.put, k_a, k_b, k_c]) | ((first | refine sWS ?_ | refine sWT ?_); clear HX; intro w HX; simp only [Act.put, k_a, k_b, k_c, setMany, Nat.reduceAdd, NodeS.cells, OpS.cells, ResS.cells] at HX ⊢) | (refine sWA ?_; clear HX; (first | (have hq := b3; clear hq; intro w b4 HX) | (have hq := b2; clear hq; intro w b3 HX) | (have hq := b; clear hq; intro w b2 HX) | intro w b HX); simp only [Act.put, k_a, k_b, k_c]) | ((first | (refine sWN ?_; clear HX; intro w mm HX) | (refine sWP ?_; clear HX; intro w av nv cv HX)); simp only [Act.put, k_a, k_b, k_c]))
          refine (new10_any HX.out zxid 0 data).mono ?_
          rintro e w ⟨rfl, hx⟩
          clear HX
          have HX := Lib.hid hx
          clear hx
          unfold NodeS.val NodeS.cells
          go_wp2_with (first | (refine sWL ?_; simp only [Act.put, k_a, k_b, k_c, k_d, k_e, k_f, k_g, k_h, NodeS.cells, OpS.cells, ResS.cells]) | (refine sWM ?_; simp only [Act.put, k_a, k_b, k_c]) | ((first | refine sWS ?_ | refine sWT ?_); clear HX; intro w HX; simp only [Act.put, k_a, k_b, k_c, setMany, Nat.reduceAdd, NodeS.cells, OpS.cells, ResS.cells] at HX ⊢) | (refine sWA ?_; clear HX; (first | (have hq := b3; clear hq; intro w b4 HX) | (have hq := b2; clear hq; intro w b3 HX) | (have hq := b; clear hq; intro w b2 HX) | intro w b HX); simp only [Act.put, k_a, k_b, k_c]) | ((first | (refine sWN ?_; clear HX; intro w mm HX) | (refine sWP ?_; clear HX; intro w av nv cv HX)); simp only [Act.put, k_a, k_b, k_c]))
          have HX2 := HX.out.up2.up2
          have HXP := HX2.poolNil 1
          have HX3 := Sep.up1 (rt_mono HXP.up1 (P' := (1, .slice none 0 0, []) :: P) (fun q hq => k_n _ hq))
          clear HX HX2 HXP
          have HX := Lib.hid HX3
          clear HX3
          refine (rtlay_any HX.out (path) (newS zxid 0 data) none 0 0 k_s (by first | exact hn | exact Nat.le_trans (Nat.le_of_eq HL2.out.2) hn)).mono ?_
          rintro e w ⟨rfl, P3, hP3, hx⟩
          clear HX
          have HX := Lib.hid hx
          have HP3 := Lib.hid hP3
          clear hx hP3
          go_wp2_with (first | (refine sWL ?_; simp only [Act.put, k_a, k_b, k_c, k_d, k_e, k_f, k_g, k_h, NodeS.cells, OpS.cells, ResS.cells]) | (refine sWM ?_; simp only [Act.put, k_a, k_b, k_c]) | ((first | refine sWS ?_ | refine sWT ?_); clear HX; intro w HX; simp only [Act.put, k_a, k_b, k_c, setMany, Nat.reduceAdd, NodeS.cells, OpS.cells, ResS.cells] at HX ⊢) | (refine sWA ?_; clear HX; (first | (have hq := b3; clear hq; intro w b4 HX) | (have hq := b2; clear hq; intro w b3 HX) | (have hq := b; clear hq; intro w b2 HX) | intro w b HX); simp only [Act.put, k_a, k_b, k_c]) | ((first | (refine sWN ?_; clear HX; intro w mm HX) | (refine sWP ?_; clear HX; intro w av nv cv HX)); simp only [Act.put, k_a, k_b, k_c]))
          refine sx_ret HX rfl rfl (by (repeat (first | (with_reducible exact k_s) | (with_reducible apply k_m)))) (by kernel_rfl) ?_
          obtain rfl := HCR2.out
          refine ⟨.slice none 0 0, P3, ?_, fun q hq => HP3.out q (k_n _ (HP2.out q hq)), HP3.out _ k_s, ?_⟩
          · rw [HCN.out]
            rfl
          · rw [HCN.out, HL2.out.1, ← lay_ins]
            exact HX.out.pm 5 [0, 1] rfl rfl
  | some up =>
    rintro e w1 ⟨rfl, hu⟩
    replace HX := Lib.hid (HX.out.keep hu)
    have HPA := Lib.hid hpa
    clear hu hpa HTS
    dsimp only [Option.isSome, Option.getD]
    unfold sv
    go_wp2_with (first | (refine sWL ?_; simp only [Act.put, k_a, k_b, k_c, k_d, k_e, k_f, k_g, k_h, NodeS.cells, OpS.cells, ResS.cells]) | (refine sWM ?_; simp only [Act.put, k_a, k_b, k_c]) | ((first | refine sWS ?_ | refine sWT ?_); clear HX; intro w HX; simp only [Act.put, k_a, k_b, k_c, setMany, Nat.reduceAdd, NodeS.cells, OpS.cells, ResS.cells] at HX ⊢) | (refine sWA ?_; clear HX; (first | (have hq := b3; clear hq; intro w b4 HX) | (have hq := b2; clear hq; intro w b3 HX) | (have hq := b; clear hq; intro w b2 HX) | intro w b HX); simp only [Act.put, k_a, k_b, k_c]) | ((first | (refine sWN ?_; clear HX; intro w mm HX) | (refine sWP ?_; clear HX; intro w av nv cv HX)); simp only [Act.put, k_a, k_b, k_c]))
    refine (at10_any HX.out.up3 ⟨up.toArray⟩ hn).mono ?_
    unfold AtPost
    obtain ⟨hb, hhb⟩ : ∃ hb, hasS (keysT S) up = hb := ⟨_, rfl⟩
    have e1 : (⟨up.toArray⟩ : ByteArray).data.toList = up := rfl
    rw [e1, hhb]
    rintro e w ⟨rfl, hx⟩
    clear HX
    have HX := Lib.hid hx.up3
    clear hx e1
    cases hb with
    | false =>
      obtain rfl : cr = (failS 4, S) := by
        rw [← HCR.out]
        exact create_bad (by rw [place_no (by rw [HO.out]; exact HPA.out) (has_none HR.out.1 hhb)]) (by decide)
      clear hhb
      go_wp2_with (first | (refine sWL ?_; simp only [Act.put, k_a, k_b, k_c, k_d, k_e, k_f, k_g, k_h, NodeS.cells, OpS.cells, ResS.cells]) | (refine sWM ?_; simp only [Act.put, k_a, k_b, k_c]) | ((first | refine sWS ?_ | refine sWT ?_); clear HX; intro w HX; simp only [Act.put, k_a, k_b, k_c, setMany, Nat.reduceAdd, NodeS.cells, OpS.cells, ResS.cells] at HX ⊢) | (refine sWA ?_; clear HX; (first | (have hq := b3; clear hq; intro w b4 HX) | (have hq := b2; clear hq; intro w b3 HX) | (have hq := b; clear hq; intro w b2 HX) | intro w b HX); simp only [Act.put, k_a, k_b, k_c]) | ((first | (refine sWN ?_; clear HX; intro w mm HX) | (refine sWP ?_; clear HX; intro w av nv cv HX)); simp only [Act.put, k_a, k_b, k_c]))
      refine (fail10_any HX.out 4).mono ?_
      rintro e w ⟨rfl, hx⟩
      clear HX
      have HX := Lib.hid hx
      clear hx
      simp only [ResS.cells, failS, noSt]
      go_wp2_with (first | (refine sWL ?_; simp only [Act.put, k_a, k_b, k_c, k_d, k_e, k_f, k_g, k_h, NodeS.cells, OpS.cells, ResS.cells]) | (refine sWM ?_; simp only [Act.put, k_a, k_b, k_c]) | ((first | refine sWS ?_ | refine sWT ?_); clear HX; intro w HX; simp only [Act.put, k_a, k_b, k_c, setMany, Nat.reduceAdd, NodeS.cells, OpS.cells, ResS.cells] at HX ⊢) | (refine sWA ?_; clear HX; (first | (have hq := b3; clear hq; intro w b4 HX) | (have hq := b2; clear hq; intro w b3 HX) | (have hq := b; clear hq; intro w b2 HX) | intro w b HX); simp only [Act.put, k_a, k_b, k_c]) | ((first | (refine sWN ?_; clear HX; intro w mm HX) | (refine sWP ?_; clear HX; intro w av nv cv HX)); simp only [Act.put, k_a, k_b, k_c]))
      refine sx_ret HX rfl rfl (by (repeat (first | (with_reducible exact k_s) | (with_reducible apply k_m)))) (by kernel_rfl) ?_
      refine rres_nil (r := failS 4) rfl ?_
      exact HX.out.pm 4 [0, 1] rfl rfl
    | true =>
      obtain ⟨hk, h1, h2⟩ := has_look (rise_nodup HR.out.1) hhb
      have hps : placeS (keysT S) up = placeS (S.l.map (·.1)) up := rfl
      rw [hps]
      obtain ⟨k, hkk⟩ : ∃ k, placeS (S.l.map (·.1)) up = k := ⟨_, rfl⟩
      rw [hkk]
      have hk' : k < S.l.length := by rw [← hkk]; exact hk
      have h1' : S.l[k].1 = up := by simp only [← hkk]; exact h1
      have h2' : lookT up S.l = some S.l[k].2 := by simp only [← hkk]; exact h2
      have hno := HR.out.2 S.l[k] (List.getElem_mem hk')
      obtain ⟨nd, hnd⟩ : ∃ nd, S.l[k].2 = nd := ⟨_, rfl⟩
      rw [hnd] at h2' hno
      have HK := Lib.hid hk'
      have HK1 := Lib.hid (show S.l[k]'HK.out = (up, nd) ∧ lookT up S.l = some nd from ⟨get_of _ h1' hnd, h2'⟩)
      have HK2 := Lib.hid hno
      have hkc : k ≤ 100000 := by omega
      have hkl : (k < S.l.length) = True := eq_true hk'
      have q0 : decide (k < S.l.length) = true := decide_eq_true hk'
      clear hk h1 h2 hps hkk hhb h1' h2' hno hnd hk'
      obtain ⟨g, off, c, xs, na, nn, nc, he, hnv, hp2, hS⟩ := rt_openAt HX.out.up1 HK.out
      rw [HK1.out.1] at hnv hp2
      dsimp only at hnv hp2
      obtain ⟨E2, hE2⟩ := own_read hS.up1
      have hl := row_fld (P := Tryz.prog) (ty := 2) (i := k) (f := 5) hE2 (by kernel_rfl) (hp2 4 _ rfl)
      clear HX
      have HX := Lib.hid hS
      have HE := Lib.hid (show _ ∧ True from ⟨he, trivial⟩)
      clear hS he hnv
      obtain ⟨zo, hzo⟩ : ∃ z, (nd.owner != 0) = z := ⟨_, rfl⟩
      cases zo with
      | true =>
        obtain rfl : cr = (failS 8, S) := by
          rw [← HCR.out]
          exact create_bad (by rw [place_eph (by rw [HO.out]; exact HPA.out) HK1.out.2 (by simpa using hzo)]) (by decide)
        clear hp2 hE2
        go_wp2_with (first | (refine sWL ?_; simp only [Act.put, k_a, k_b, k_c, k_d, k_e, k_f, k_g, k_h, NodeS.cells, OpS.cells, ResS.cells]) | (refine sWM ?_; simp only [Act.put, k_a, k_b, k_c]) | ((first | refine sWS ?_ | refine sWT ?_); clear HX; intro w HX; simp only [Act.put, k_a, k_b, k_c, setMany, Nat.reduceAdd, NodeS.cells, OpS.cells, ResS.cells] at HX ⊢) | (refine sWA ?_; clear HX; (first | (have hq := b3; clear hq; intro w b4 HX) | (have hq := b2; clear hq; intro w b3 HX) | (have hq := b; clear hq; intro w b2 HX) | intro w b HX); simp only [Act.put, k_a, k_b, k_c]) | ((first | (refine sWN ?_; clear HX; intro w mm HX) | (refine sWP ?_; clear HX; intro w av nv cv HX)); simp only [Act.put, k_a, k_b, k_c]) | ((with_reducible apply sx_loadAt hl); (· rfl); (· rfl); simp only [Act.put, k_a, k_b, k_c]))
        have h9 := (rt_shut HX.out HE.out.1).up1
        clear HX hl
        have HX := Lib.hid h9
        clear h9
        go_wp2_with (first | (refine sWL ?_; simp only [Act.put, k_a, k_b, k_c, k_d, k_e, k_f, k_g, k_h, NodeS.cells, OpS.cells, ResS.cells]) | (refine sWM ?_; simp only [Act.put, k_a, k_b, k_c]) | ((first | refine sWS ?_ | refine sWT ?_); clear HX; intro w HX; simp only [Act.put, k_a, k_b, k_c, setMany, Nat.reduceAdd, NodeS.cells, OpS.cells, ResS.cells] at HX ⊢) | (refine sWA ?_; clear HX; (first | (have hq := b3; clear hq; intro w b4 HX) | (have hq := b2; clear hq; intro w b3 HX) | (have hq := b; clear hq; intro w b2 HX) | intro w b HX); simp only [Act.put, k_a, k_b, k_c]) | ((first | (refine sWN ?_; clear HX; intro w mm HX) | (refine sWP ?_; clear HX; intro w av nv cv HX)); simp only [Act.put, k_a, k_b, k_c]))
        refine (fail10_any HX.out 8).mono ?_
        rintro e w ⟨rfl, hx⟩
        clear HX
        have HX := Lib.hid hx
        clear hx
        simp only [ResS.cells, failS, noSt]
        go_wp2_with (first | (refine sWL ?_; simp only [Act.put, k_a, k_b, k_c, k_d, k_e, k_f, k_g, k_h, NodeS.cells, OpS.cells, ResS.cells]) | (refine sWM ?_; simp only [Act.put, k_a, k_b, k_c]) | ((first | refine sWS ?_ | refine sWT ?_); clear HX; intro w HX; simp only [Act.put, k_a, k_b, k_c, setMany, Nat.reduceAdd, NodeS.cells, OpS.cells, ResS.cells] at HX ⊢) | (refine sWA ?_; clear HX; (first | (have hq := b3; clear hq; intro w b4 HX) | (have hq := b2; clear hq; intro w b3 HX) | (have hq := b; clear hq; intro w b2 HX) | intro w b HX); simp only [Act.put, k_a, k_b, k_c]) | ((first | (refine sWN ?_; clear HX; intro w mm HX) | (refine sWP ?_; clear HX; intro w av nv cv HX)); simp only [Act.put, k_a, k_b, k_c]))
        refine sx_ret HX rfl rfl (by (repeat (first | (with_reducible exact k_s) | (with_reducible apply k_m)))) (by kernel_rfl) ?_
        refine rres_nil (r := failS 8) rfl ?_
        exact HX.out.pm 4 [0, 1] rfl rfl
      | false =>
        have HPL0 := Lib.hid (place_under (S := S) (o := o) (by rw [HO.out]; exact HPA.out) HK1.out.2 (by simpa using hzo))
        have hl2 := row_fld (P := Tryz.prog) (ty := 3) (i := k) (f := 9) hE2 (by kernel_rfl) (hp2 8 _ rfl)
        clear hp2 hE2
        cases zsq with
        | false =>
          have HPL := Lib.hid (show placeT S o = endT S path.data.toList by rw [HPL0.out, HOF.out.1, HSE.out.1, HO.out]; exact if_neg (by decide))
          have HPQ := HPA
          clear HPL0
          go_wp2_with (first | (refine sWL ?_; simp only [Act.put, k_a, k_b, k_c, k_d, k_e, k_f, k_g, k_h, NodeS.cells, OpS.cells, ResS.cells]) | (refine sWM ?_; simp only [Act.put, k_a, k_b, k_c]) | ((first | refine sWS ?_ | refine sWT ?_); clear HX; intro w HX; simp only [Act.put, k_a, k_b, k_c, setMany, Nat.reduceAdd, NodeS.cells, OpS.cells, ResS.cells] at HX ⊢) | (refine sWA ?_; clear HX; (first | (have hq := b3; clear hq; intro w b4 HX) | (have hq := b2; clear hq; intro w b3 HX) | (have hq := b; clear hq; intro w b2 HX) | intro w b HX); simp only [Act.put, k_a, k_b, k_c]) | ((first | (refine sWN ?_; clear HX; intro w mm HX) | (refine sWP ?_; clear HX; intro w av nv cv HX)); simp only [Act.put, k_a, k_b, k_c]) | ((with_reducible apply sx_loadAt hl); (· rfl); (· rfl); simp only [Act.put, k_a, k_b, k_c]) | ((with_reducible apply sx_loadAt hl2); (· rfl); (· rfl); simp only [Act.put, k_a, k_b, k_c]))
          have h9 := rt_shut HX.out HE.out.1
          clear HX hl hl2 HE
          have HX := Lib.hid h9.up1
          clear h9
          go_wp2_with (first | (refine sWL ?_; simp only [Act.put, k_a, k_b, k_c, k_d, k_e, k_f, k_g, k_h, NodeS.cells, OpS.cells, ResS.cells]) | (refine sWM ?_; simp only [Act.put, k_a, k_b, k_c]) | ((first | refine sWS ?_ | refine sWT ?_); clear HX; intro w HX; simp only [Act.put, k_a, k_b, k_c, setMany, Nat.reduceAdd, NodeS.cells, OpS.cells, ResS.cells] at HX ⊢) | (refine sWA ?_; clear HX; (first | (have hq := b3; clear hq; intro w b4 HX) | (have hq := b2; clear hq; intro w b3 HX) | (have hq := b; clear hq; intro w b2 HX) | intro w b HX); simp only [Act.put, k_a, k_b, k_c]) | ((first | (refine sWN ?_; clear HX; intro w mm HX) | (refine sWP ?_; clear HX; intro w av nv cv HX)); simp only [Act.put, k_a, k_b, k_c]))
          refine (at10_any HX.out.up1 path hn).mono ?_
          unfold AtPost
          obtain ⟨hb2, hhb2⟩ : ∃ hb2, hasS (keysT S) (path).data.toList = hb2 := ⟨_, rfl⟩
          obtain ⟨kp, hkp⟩ : ∃ kp, placeS (keysT S) (path).data.toList = kp := ⟨_, rfl⟩
          rw [hhb2, hkp]
          rintro e w ⟨rfl, hx⟩
          clear HX hkp
          have HX := Lib.hid hx
          clear hx
          cases hb2 with
          | true =>
            obtain rfl : cr = (failS 5, S) := by
              rw [← HCR.out]
              exact create_bad (by rw [HPL.out, end_is HR.out.1 hhb2]) (by decide)
            clear HPL hhb2
            go_wp2_with (first | (refine sWL ?_; simp only [Act.put, k_a, k_b, k_c, k_d, k_e, k_f, k_g, k_h, NodeS.cells, OpS.cells, ResS.cells]) | (refine sWM ?_; simp only [Act.put, k_a, k_b, k_c]) | ((first | refine sWS ?_ | refine sWT ?_); clear HX; intro w HX; simp only [Act.put, k_a, k_b, k_c, setMany, Nat.reduceAdd, NodeS.cells, OpS.cells, ResS.cells] at HX ⊢) | (refine sWA ?_; clear HX; (first | (have hq := b3; clear hq; intro w b4 HX) | (have hq := b2; clear hq; intro w b3 HX) | (have hq := b; clear hq; intro w b2 HX) | intro w b HX); simp only [Act.put, k_a, k_b, k_c]) | ((first | (refine sWN ?_; clear HX; intro w mm HX) | (refine sWP ?_; clear HX; intro w av nv cv HX)); simp only [Act.put, k_a, k_b, k_c]))
            refine (fail10_any HX.out 5).mono ?_
            rintro e w ⟨rfl, hx⟩
            clear HX
            have HX := Lib.hid hx
            clear hx
            simp only [ResS.cells, failS, noSt]
            go_wp2_with (first | (refine sWL ?_; simp only [Act.put, k_a, k_b, k_c, k_d, k_e, k_f, k_g, k_h, NodeS.cells, OpS.cells, ResS.cells]) | (refine sWM ?_; simp only [Act.put, k_a, k_b, k_c]) | ((first | refine sWS ?_ | refine sWT ?_); clear HX; intro w HX; simp only [Act.put, k_a, k_b, k_c, setMany, Nat.reduceAdd, NodeS.cells, OpS.cells, ResS.cells] at HX ⊢) | (refine sWA ?_; clear HX; (first | (have hq := b3; clear hq; intro w b4 HX) | (have hq := b2; clear hq; intro w b3 HX) | (have hq := b; clear hq; intro w b2 HX) | intro w b HX); simp only [Act.put, k_a, k_b, k_c]) | ((first | (refine sWN ?_; clear HX; intro w mm HX) | (refine sWP ?_; clear HX; intro w av nv cv HX)); simp only [Act.put, k_a, k_b, k_c]))
            refine sx_ret HX rfl rfl (by (repeat (first | (with_reducible exact k_s) | (with_reducible apply k_m)))) (by kernel_rfl) ?_
            refine rres_nil (r := failS 5) rfl ?_
            exact HX.out.pm 4 [1, 0] rfl rfl
          | false =>
            have HH2 := Lib.hid (show hasS (S.l.map (·.1)) (path).data.toList = false from hhb2)
            clear hhb2
            obtain ⟨g, off, c, xs, na, nn, nc, he, hnv, hp2, hS⟩ := rt_openAt HX.out HK.out
            rw [HK1.out.1] at hnv hp2
            dsimp only at hnv hp2
            have HN1 := Lib.hid (show _ ∧ _ ∧ _ from ⟨hnv, hp2, HK2.out⟩)
            clear HX
            have HX := Lib.hid hS
            have HE := Lib.hid (show _ ∧ True from ⟨he, trivial⟩)
            clear hS he hnv hp2
            by_cases hroom : S.room ≤ S.l.length
            · have q7 : decide (S.room ≤ (S.l.length : Int)) = true := decide_eq_true hroom
              obtain rfl : cr = (failS 9, S) := by
                rw [← HCR.out]
                exact create_bad (by rw [HPL.out, end_full HR.out.1 HH2.out hroom]) (by decide)
              clear HPL hroom
              go_wp2_with (first | (refine sWL ?_; simp only [Act.put, k_a, k_b, k_c, k_d, k_e, k_f, k_g, k_h, NodeS.cells, OpS.cells, ResS.cells]) | (refine sWM ?_; simp only [Act.put, k_a, k_b, k_c]) | ((first | refine sWS ?_ | refine sWT ?_); clear HX; intro w HX; simp only [Act.put, k_a, k_b, k_c, setMany, Nat.reduceAdd, NodeS.cells, OpS.cells, ResS.cells] at HX ⊢) | (refine sWA ?_; clear HX; (first | (have hq := b3; clear hq; intro w b4 HX) | (have hq := b2; clear hq; intro w b3 HX) | (have hq := b; clear hq; intro w b2 HX) | intro w b HX); simp only [Act.put, k_a, k_b, k_c]) | ((first | (refine sWN ?_; clear HX; intro w mm HX) | (refine sWP ?_; clear HX; intro w av nv cv HX)); simp only [Act.put, k_a, k_b, k_c]))
              refine wp_region_M (fun W => W = w.drew) 10 (by kernel_rfl) ?_
              replace HX := Lib.hid HX.out.drew
              generalize w.drew = w at HX ⊢
              refine wpAnyM_take (by kernel_rfl) (by intro c a d v w h; cases d <;> exact h) [(0, false), (1, false), (2, false), (3, true), (4, false), (5, false), (6, false), (7, false), (8, true), (9, false)] (fuel := 0) (by kernel_rfl) ?_
              apply Exists.intro; refine ⟨?_, rfl, ?_⟩
              · iterate 10 (refine yD ?_)
                exact rfl
              refine wpAnyM_done (by kernel_rfl) ?_ _
              go_wp2_with (first | (refine sWL ?_; simp only [Act.put, k_a, k_b, k_c, k_d, k_e, k_f, k_g, k_h, NodeS.cells, OpS.cells, ResS.cells]) | (refine sWM ?_; simp only [Act.put, k_a, k_b, k_c]) | ((first | refine sWS ?_ | refine sWT ?_); clear HX; intro w HX; simp only [Act.put, k_a, k_b, k_c, setMany, Nat.reduceAdd, NodeS.cells, OpS.cells, ResS.cells] at HX ⊢) | (refine sWA ?_; clear HX; (first | (have hq := b3; clear hq; intro w b4 HX) | (have hq := b2; clear hq; intro w b3 HX) | (have hq := b; clear hq; intro w b2 HX) | intro w b HX); simp only [Act.put, k_a, k_b, k_c]) | ((first | (refine sWN ?_; clear HX; intro w mm HX) | (refine sWP ?_; clear HX; intro w av nv cv HX)); simp only [Act.put, k_a, k_b, k_c]))
              have h9 := (rt_shut HX.out HE.out.1).up1
              clear HX
              have HX := Lib.hid h9
              clear h9
              go_wp2_with (first | (refine sWL ?_; simp only [Act.put, k_a, k_b, k_c, k_d, k_e, k_f, k_g, k_h, NodeS.cells, OpS.cells, ResS.cells]) | (refine sWM ?_; simp only [Act.put, k_a, k_b, k_c]) | ((first | refine sWS ?_ | refine sWT ?_); clear HX; intro w HX; simp only [Act.put, k_a, k_b, k_c, setMany, Nat.reduceAdd, NodeS.cells, OpS.cells, ResS.cells] at HX ⊢) | (refine sWA ?_; clear HX; (first | (have hq := b3; clear hq; intro w b4 HX) | (have hq := b2; clear hq; intro w b3 HX) | (have hq := b; clear hq; intro w b2 HX) | intro w b HX); simp only [Act.put, k_a, k_b, k_c]) | ((first | (refine sWN ?_; clear HX; intro w mm HX) | (refine sWP ?_; clear HX; intro w av nv cv HX)); simp only [Act.put, k_a, k_b, k_c]))
              refine (fail10_any HX.out 9).mono ?_
              rintro e w ⟨rfl, hx⟩
              clear HX
              have HX := Lib.hid hx
              clear hx
              simp only [ResS.cells, failS, noSt]
              go_wp2_with (first | (refine sWL ?_; simp only [Act.put, k_a, k_b, k_c, k_d, k_e, k_f, k_g, k_h, NodeS.cells, OpS.cells, ResS.cells]) | (refine sWM ?_; simp only [Act.put, k_a, k_b, k_c]) | ((first | refine sWS ?_ | refine sWT ?_); clear HX; intro w HX; simp only [Act.put, k_a, k_b, k_c, setMany, Nat.reduceAdd, NodeS.cells, OpS.cells, ResS.cells] at HX ⊢) | (refine sWA ?_; clear HX; (first | (have hq := b3; clear hq; intro w b4 HX) | (have hq := b2; clear hq; intro w b3 HX) | (have hq := b; clear hq; intro w b2 HX) | intro w b HX); simp only [Act.put, k_a, k_b, k_c]) | ((first | (refine sWN ?_; clear HX; intro w mm HX) | (refine sWP ?_; clear HX; intro w av nv cv HX)); simp only [Act.put, k_a, k_b, k_c]))
              refine sx_ret HX rfl rfl (by (repeat (first | (with_reducible exact k_s) | (with_reducible apply k_m)))) (by kernel_rfl) ?_
              refine rres_nil (r := failS 9) rfl ?_
              exact HX.out.pm 4 [0, 1] rfl rfl
            · have q7 : decide (S.room ≤ (S.l.length : Int)) = false := decide_eq_false hroom
              have HCR2 := Lib.hid (show cr = (⟨0, ⟨(path).data.toList.toArray⟩, ⟨#[]⟩, [], (createN o sess zxid).st⟩, { S with l := layT (path).data.toList (createN o sess zxid) S.l }) by
                rw [← HCR.out]
                exact create_good (by rw [HPL.out, end_ok HR.out.1 HH2.out hroom]))
              clear HPL hroom
              go_wp2_with (first | (refine sWL ?_; simp only [Act.put, k_a, k_b, k_c, k_d, k_e, k_f, k_g, k_h, NodeS.cells, OpS.cells, ResS.cells]) | (refine sWM ?_; simp only [Act.put, k_a, k_b, k_c]) | ((first | refine sWS ?_ | refine sWT ?_); clear HX; intro w HX; simp only [Act.put, k_a, k_b, k_c, setMany, Nat.reduceAdd, NodeS.cells, OpS.cells, ResS.cells] at HX ⊢) | (refine sWA ?_; clear HX; (first | (have hq := b3; clear hq; intro w b4 HX) | (have hq := b2; clear hq; intro w b3 HX) | (have hq := b; clear hq; intro w b2 HX) | intro w b HX); simp only [Act.put, k_a, k_b, k_c]) | ((first | (refine sWN ?_; clear HX; intro w mm HX) | (refine sWP ?_; clear HX; intro w av nv cv HX)); simp only [Act.put, k_a, k_b, k_c]))
              refine wp_region_M (fun W => W = w.drew) 10 (by kernel_rfl) ?_
              replace HX := Lib.hid HX.out.drew
              generalize w.drew = w at HX ⊢
              refine wpAnyM_take (by kernel_rfl) (by intro c a d v w h; cases d <;> exact h) [(0, false), (1, false), (2, false), (3, true), (4, false), (5, false), (6, false), (7, false), (8, true), (9, false)] (fuel := 0) (by kernel_rfl) ?_
              apply Exists.intro; refine ⟨?_, rfl, ?_⟩
              · iterate 10 (refine yD ?_)
                exact rfl
              refine wpAnyM_done (by kernel_rfl) ?_ _
              cases zeb with
              | true =>
                have HCN := Lib.hid (show createN o sess zxid = newS zxid sess data by unfold createN; rw [HOF.out.1, HOF.out.2, HSE.out.2]; rfl)
                go_wp2_with (first | (refine sWL ?_; simp only [Act.put, k_a, k_b, k_c, k_d, k_e, k_f, k_g, k_h, NodeS.cells, OpS.cells, ResS.cells]) | (refine sWM ?_; simp only [Act.put, k_a, k_b, k_c]) | ((first | refine sWS ?_ | refine sWT ?_); clear HX; intro w HX; simp only [Act.put, k_a, k_b, k_c, setMany, Nat.reduceAdd, NodeS.cells, OpS.cells, ResS.cells] at HX ⊢) | (refine sWA ?_; clear HX; (first | (have hq := b3; clear hq; intro w b4 HX) | (have hq := b2; clear hq; intro w b3 HX) | (have hq := b; clear hq; intro w b2 HX) | intro w b HX); simp only [Act.put, k_a, k_b, k_c]) | ((first | (refine sWN ?_; clear HX; intro w mm HX) | (refine sWP ?_; clear HX; intro w av nv cv HX)); simp only [Act.put, k_a, k_b, k_c]))
                refine wp_region_M (fun W => Sep w0 W (ThCell b (.cells #[.int .i64 S.room, .slice (some ⟨g, off, none⟩) S.l.length c] 69 (0, 0)) :: ThRow 11 (.slice (some ⟨g, off, none⟩) S.l.length c) xs :: ThPool w0 P :: ThCell b3 (.cells #[.int .i64 0, .string ⟨#[]⟩, .string ⟨#[]⟩, .slice none 0 0, .int .i64 0, .int .i64 0, .int .i64 0, .int .i64 0, .int .i64 0, .int .i64 0, .int .i64 0] 33 (0, 0)) :: ThCell b2 (.cells #[.int .i64 o.kind, .string path, .string data, .int .i64 o.ver, .int .i64 flags] 36 (0, 0)) :: R) rows) 19 (by kernel_rfl) ?_
                have KEEPX : ∀ W, Sep w0 W (ThCell b (.cells #[.int .i64 S.room, .slice (some ⟨g, off, none⟩) S.l.length c] 69 (0, 0)) :: ThRow 11 (.slice (some ⟨g, off, none⟩) S.l.length c) xs :: ThPool w0 P :: ThCell b3 (.cells #[.int .i64 0, .string ⟨#[]⟩, .string ⟨#[]⟩, .slice none 0 0, .int .i64 0, .int .i64 0, .int .i64 0, .int .i64 0, .int .i64 0, .int .i64 0, .int .i64 0] 33 (0, 0)) :: ThCell b2 (.cells #[.int .i64 o.kind, .string path, .string data, .int .i64 o.ver, .int .i64 flags] 36 (0, 0)) :: R) rows → Sep w0 W (ThCell b (.cells #[.int .i64 S.room, .slice (some ⟨g, off, none⟩) S.l.length c] 69 (0, 0)) :: ThRow 11 (.slice (some ⟨g, off, none⟩) S.l.length c) xs :: ThPool w0 P :: ThCell b3 (.cells #[.int .i64 0, .string ⟨#[]⟩, .string ⟨#[]⟩, .slice none 0 0, .int .i64 0, .int .i64 0, .int .i64 0, .int .i64 0, .int .i64 0, .int .i64 0, .int .i64 0] 33 (0, 0)) :: ThCell b2 (.cells #[.int .i64 o.kind, .string path, .string data, .int .i64 o.ver, .int .i64 flags] 36 (0, 0)) :: R) rows := fun _ h => h
                have hl : ∀ V, Sep w0 V (ThCell b (.cells #[.int .i64 S.room, .slice (some ⟨g, off, none⟩) S.l.length c] 69 (0, 0)) :: ThRow 11 (.slice (some ⟨g, off, none⟩) S.l.length c) xs :: ThPool w0 P :: ThCell b3 (.cells #[.int .i64 0, .string ⟨#[]⟩, .string ⟨#[]⟩, .slice none 0 0, .int .i64 0, .int .i64 0, .int .i64 0, .int .i64 0, .int .i64 0, .int .i64 0, .int .i64 0] 33 (0, 0)) :: ThCell b2 (.cells #[.int .i64 o.kind, .string path, .string data, .int .i64 o.ver, .int .i64 flags] 36 (0, 0)) :: R) rows → (Instr.loadAt 84 (.pointer (some ⟨g, off + k * 11 + 1, none⟩))).run Tryz.prog V = .ok (.agg (nd.cells (.slice na nn nc))) V := fun V hV => by
                  obtain ⟨E, hE⟩ := own_read (Sep.up1 hV)
                  exact row_part hE sn_rnode rfl (by simp [NodeS.cells]) HN1.out.2.1
                replace HX := Lib.hid HX.out.drew
                refine wpAnyM_take (by kernel_rfl) (by intro c a d v w h; cases d <;> exact h) [(0, false), (1, false), (2, false), (3, true), (4, false), (5, false), (6, false), (7, false), (8, true), (9, false), (10, false), (11, false), (12, true), (13, false)] (fuel := 8) (by kernel_rfl) ?_
                apply Exists.intro; refine ⟨?_, HX.out, ?_⟩
                · iterate 14 (first | refine yE ?_ | ((first | apply yieldP | apply yieldL); (· (simp only [k_i, k_j, k_k]; try rfl)); (· rfl); (· (intros; go_simp; (try simp only [hkl, ↓reduceIte, and_self, Int.toNat_natCast]); try with_reducible rfl)); (· (simp only [Act.put, k_a, k_b, k_c, k_d, k_e, k_f, k_g, k_h, NodeS.cells, OpS.cells, ResS.cells]; try rfl))))
                  exact rfl
                clear hl
                refine wpAnyM_one (fuel := 7) (i := 14) (by kernel_rfl) (by (simp only [k_i, k_j, k_k]; try rfl)) (fun K hK => ?_)
                go_wp2_with fail
                refine (name1_any (path) _ (by unfold maxLen; omega)).mono ?_
                rintro e w1 ⟨rfl, hu⟩
                replace HX := Lib.hid (HX.out.keep hu)
                clear hu
                go_wp2_with fail
                refine hK _ _ HX.out ?_
                clear hK
                refine wpAnyM_one (fuel := 6) (i := 15) (by kernel_rfl) (by (simp only [k_i, k_j, k_k]; try rfl)) (fun K hK => ?_)
                unfold sv
                go_wp2_with fail
                have hrm := add10_any HX.out.up2 nd (.slice na nn nc) ⟨(nameP (path).data.toList).toArray⟩ HN1.out.1 HN1.out.2.2
                refine hrm.mono ?_
                clear hrm
                have e2 : (⟨(nameP (path).data.toList).toArray⟩ : ByteArray).data.toList = nameP (path).data.toList := rfl
                unfold NodPost
                rw [e2]
                rintro e w2 ⟨nv2, P2, rfl, hP2, hnv2, hx⟩
                clear HX e2
                have HX := Lib.hid hx
                have HN := Lib.hid (show _ ∧ _ from ⟨hP2, hnv2⟩)
                have hsub : Sep w0 w2 (ThCell b (.cells #[.int .i64 S.room, .slice (some ⟨g, off, none⟩) S.l.length c] 69 (0, 0)) :: ThRow 11 (.slice (some ⟨g, off, none⟩) S.l.length c) xs :: ThPool w0 P :: ThCell b3 (.cells #[.int .i64 0, .string ⟨#[]⟩, .string ⟨#[]⟩, .slice none 0 0, .int .i64 0, .int .i64 0, .int .i64 0, .int .i64 0, .int .i64 0, .int .i64 0, .int .i64 0] 33 (0, 0)) :: ThCell b2 (.cells #[.int .i64 o.kind, .string path, .string data, .int .i64 o.ver, .int .i64 flags] 36 (0, 0)) :: R) rows := (hx.poolSub hP2).pm 3 [1, 2, 0] rfl rfl
                have HSU := Lib.hid hsub
                clear hx hP2 hnv2 hsub
                go_wp2_with fail
                refine hK _ _ HSU.out ?_
                clear hK
                refine wpAnyM_take (by kernel_rfl) (by intro c a d v w h; cases d <;> exact h) [(16, false), (17, false), (18, false)] (fuel := 3) (by kernel_rfl) ?_
                apply Exists.intro; refine ⟨?_, HSU.out, ?_⟩
                · iterate 3 (first | refine yE ?_ | ((first | apply yieldP | apply yieldL); (· (simp only [k_i, k_j, k_k]; try rfl)); (· rfl); (· (intros; go_simp; (try simp only [hkl, ↓reduceIte, and_self, Int.toNat_natCast]); try with_reducible rfl)); (· (simp only [Act.put, k_a, k_b, k_c, k_d, k_e, k_f, k_g, k_h, NodeS.cells, OpS.cells, ResS.cells]; try rfl))))
                  exact rfl
                refine wpAnyM_of_any _ _ _ _ (by decide) ?_
                refine wpAny_list [19, 20, 21] (fuel := 0) (by kernel_rfl) ?_
                simp only [List.filterMap_cons, List.filterMap_nil, k_i, k_j, k_k]
                have h3 := HX.out.up2
                clear HX HSU
                have HX := Lib.hid h3
                clear h3
                obtain ⟨na2, nn2, nc2, rfl, hone⟩ : ∃ na2 nn2 nc2, nv2 = .slice na2 nn2 nc2 ∧ ∀ u ∈ ((addS nd (nameP (path).data.toList)).cells nv2).toList, u.oneCell' = true := by
                  obtain ⟨E, hE⟩ := Sep.poolGet HX.out.up1 HN.out.2
                  obtain ⟨a3, n3, c3, h4, -⟩ := ReadRow.some hE
                  have h4 : nv2 = .slice a3 n3 c3 := h4
                  refine ⟨a3, n3, c3, h4, fun u hu => ?_⟩
                  rw [h4] at hu
                  simp only [NodeS.cells, List.mem_cons, List.not_mem_nil, or_false] at hu
                  rcases hu with rfl | rfl | rfl | rfl | rfl | rfl | rfl | rfl | rfl | rfl <;> rfl
                go_step
                first
                  | with_reducible apply sx_rowPut (i := k * 11 + 1) (vs := ((addS nd (nameP (path).data.toList)).cells (.slice na2 nn2 nc2)).toList) HX
                  | (go_step; with_reducible apply sx_rowPut (i := k * 11 + 1) (vs := ((addS nd (nameP (path).data.toList)).cells (.slice na2 nn2 nc2)).toList) HX)
                  | (go_step; go_step; with_reducible apply sx_rowPut (i := k * 11 + 1) (vs := ((addS nd (nameP (path).data.toList)).cells (.slice na2 nn2 nc2)).toList) HX)
                  | (go_step; go_step; go_step; with_reducible apply sx_rowPut (i := k * 11 + 1) (vs := ((addS nd (nameP (path).data.toList)).cells (.slice na2 nn2 nc2)).toList) HX)
                · rfl
                · omega
                · show Value.agg _ = Value.agg _
                  exact congrArg Value.agg Array.toArray_toList.symm
                · rfl
                · kernel_rfl
                · exact hone
                · show k * 11 + 1 + 10 ≤ S.l.length * 11
                  have := HK.out
                  omega
                clear HX
                intro w HX
                simp only [Act.put, k_a, k_b, k_c] at HX ⊢
                have h5 := HX.out.up2
                rw [← show (S.l.set k (up, addS nd (nameP (path).data.toList))).length = S.l.length from List.length_set ..] at h5
                have hset : S.l.set k (up, addS nd (nameP (path).data.toList)) = S.l.set k (S.l[k]'HK.out |>.1, addS nd (nameP (path).data.toList)) := by rw [HK1.out.1]
                have h6 := (rt_shut (S := { S with l := S.l.set k (up, addS nd (nameP (path).data.toList)) }) h5 (by
                  rw [hset]
                  exact (HE.out.1.mono HN.out.1).setN HK.out HN.out.2)).up1
                have HP2 := Lib.hid HN.out.1
                have HL2 := Lib.hid (show (∀ n, layT (path).data.toList n S.l = insT (path).data.toList n (S.l.set k (up, addS nd (nameP (path).data.toList)))) ∧ (S.l.set k (up, addS nd (nameP (path).data.toList))).length = S.l.length from ⟨fun n => by
                  rw [lay_under HR.out.1 HPQ.out HK1.out.2 (has_none HR.out.1 HH2.out), hset, set_setT (rise_nodup HR.out.1) HK.out, HK1.out.1], List.length_set ..⟩)
                clear HX h5 hset hone
                have HX := Lib.hid h6
                clear h6
                go_wp2_with (first | (refine sWL ?_; simp only [Act.put, k_a, k_b, k_c, k_d, k_e, k_f, k_g, k_h, NodeS.cells, OpS.cells, ResS.cells]) | (refine sWM ?_; simp only [Act.put, k_a, k_b, k_c]) | ((first | refine sWS ?_ | refine sWT ?_); clear HX; intro w HX; simp only [Act.put, k_a, k_b, k_c, setMany, Nat.reduceAdd, NodeS.cells, OpS.cells, ResS.cells] at HX ⊢) | (refine sWA ?_; clear HX; (first | (have hq := b3; clear hq; intro w b4 HX) | (have hq := b2; clear hq; intro w b3 HX) | (have hq := b; clear hq; intro w b2 HX) | intro w b HX); simp only [Act.put, k_a, k_b, k_c]) | ((first | (refine sWN ?_; clear HX; intro w mm HX) | (refine sWP ?_; clear HX; intro w av nv cv HX)); simp only [Act.put, k_a, k_b, k_c]))
                refine (new10_any HX.out zxid sess data).mono ?_
                rintro e w ⟨rfl, hx⟩
                clear HX
                have HX := Lib.hid hx
                clear hx
                unfold NodeS.val NodeS.cells
                go_wp2_with (first | (refine sWL ?_; simp only [Act.put, k_a, k_b, k_c, k_d, k_e, k_f, k_g, k_h, NodeS.cells, OpS.cells, ResS.cells]) | (refine sWM ?_; simp only [Act.put, k_a, k_b, k_c]) | ((first | refine sWS ?_ | refine sWT ?_); clear HX; intro w HX; simp only [Act.put, k_a, k_b, k_c, setMany, Nat.reduceAdd, NodeS.cells, OpS.cells, ResS.cells] at HX ⊢) | (refine sWA ?_; clear HX; (first | (have hq := b3; clear hq; intro w b4 HX) | (have hq := b2; clear hq; intro w b3 HX) | (have hq := b; clear hq; intro w b2 HX) | intro w b HX); simp only [Act.put, k_a, k_b, k_c]) | ((first | (refine sWN ?_; clear HX; intro w mm HX) | (refine sWP ?_; clear HX; intro w av nv cv HX)); simp only [Act.put, k_a, k_b, k_c]))
                have HX2 := HX.out.up2.up2
                have HXP := HX2.poolNil 1
                have HX3 := Sep.up1 (rt_mono HXP.up1 (P' := (1, .slice none 0 0, []) :: P2) (fun q hq => k_n _ hq))
                clear HX HX2 HXP
                have HX := Lib.hid HX3
                clear HX3
                refine (rtlay_any HX.out (path) (newS zxid sess data) none 0 0 k_s (by first | exact hn | exact Nat.le_trans (Nat.le_of_eq HL2.out.2) hn)).mono ?_
                rintro e w ⟨rfl, P3, hP3, hx⟩
                clear HX
                have HX := Lib.hid hx
                have HP3 := Lib.hid hP3
                clear hx hP3
                go_wp2_with (first | (refine sWL ?_; simp only [Act.put, k_a, k_b, k_c, k_d, k_e, k_f, k_g, k_h, NodeS.cells, OpS.cells, ResS.cells]) | (refine sWM ?_; simp only [Act.put, k_a, k_b, k_c]) | ((first | refine sWS ?_ | refine sWT ?_); clear HX; intro w HX; simp only [Act.put, k_a, k_b, k_c, setMany, Nat.reduceAdd, NodeS.cells, OpS.cells, ResS.cells] at HX ⊢) | (refine sWA ?_; clear HX; (first | (have hq := b3; clear hq; intro w b4 HX) | (have hq := b2; clear hq; intro w b3 HX) | (have hq := b; clear hq; intro w b2 HX) | intro w b HX); simp only [Act.put, k_a, k_b, k_c]) | ((first | (refine sWN ?_; clear HX; intro w mm HX) | (refine sWP ?_; clear HX; intro w av nv cv HX)); simp only [Act.put, k_a, k_b, k_c]))
                refine sx_ret HX rfl rfl (by (repeat (first | (with_reducible exact k_s) | (with_reducible apply k_m)))) (by kernel_rfl) ?_
                obtain rfl := HCR2.out
                refine ⟨.slice none 0 0, P3, ?_, fun q hq => HP3.out q (k_n _ (HP2.out q hq)), HP3.out _ k_s, ?_⟩
                · rw [HCN.out]
                  rfl
                · rw [HCN.out, HL2.out.1, ← lay_ins]
                  exact HX.out.pm 5 [0, 1] rfl rfl
              | false =>
                have HCN := Lib.hid (show createN o sess zxid = newS zxid 0 data by unfold createN; rw [HOF.out.1, HOF.out.2, HSE.out.2]; rfl)
                go_wp2_with (first | (refine sWL ?_; simp only [Act.put, k_a, k_b, k_c, k_d, k_e, k_f, k_g, k_h, NodeS.cells, OpS.cells, ResS.cells]) | (refine sWM ?_; simp only [Act.put, k_a, k_b, k_c]) | ((first | refine sWS ?_ | refine sWT ?_); clear HX; intro w HX; simp only [Act.put, k_a, k_b, k_c, setMany, Nat.reduceAdd, NodeS.cells, OpS.cells, ResS.cells] at HX ⊢) | (refine sWA ?_; clear HX; (first | (have hq := b3; clear hq; intro w b4 HX) | (have hq := b2; clear hq; intro w b3 HX) | (have hq := b; clear hq; intro w b2 HX) | intro w b HX); simp only [Act.put, k_a, k_b, k_c]) | ((first | (refine sWN ?_; clear HX; intro w mm HX) | (refine sWP ?_; clear HX; intro w av nv cv HX)); simp only [Act.put, k_a, k_b, k_c]))
                refine wp_region_M (fun W => Sep w0 W (ThCell b (.cells #[.int .i64 S.room, .slice (some ⟨g, off, none⟩) S.l.length c] 69 (0, 0)) :: ThRow 11 (.slice (some ⟨g, off, none⟩) S.l.length c) xs :: ThPool w0 P :: ThCell b3 (.cells #[.int .i64 0, .string ⟨#[]⟩, .string ⟨#[]⟩, .slice none 0 0, .int .i64 0, .int .i64 0, .int .i64 0, .int .i64 0, .int .i64 0, .int .i64 0, .int .i64 0] 33 (0, 0)) :: ThCell b2 (.cells #[.int .i64 o.kind, .string path, .string data, .int .i64 o.ver, .int .i64 flags] 36 (0, 0)) :: R) rows) 19 (by kernel_rfl) ?_
                have KEEPX : ∀ W, Sep w0 W (ThCell b (.cells #[.int .i64 S.room, .slice (some ⟨g, off, none⟩) S.l.length c] 69 (0, 0)) :: ThRow 11 (.slice (some ⟨g, off, none⟩) S.l.length c) xs :: ThPool w0 P :: ThCell b3 (.cells #[.int .i64 0, .string ⟨#[]⟩, .string ⟨#[]⟩, .slice none 0 0, .int .i64 0, .int .i64 0, .int .i64 0, .int .i64 0, .int .i64 0, .int .i64 0, .int .i64 0] 33 (0, 0)) :: ThCell b2 (.cells #[.int .i64 o.kind, .string path, .string data, .int .i64 o.ver, .int .i64 flags] 36 (0, 0)) :: R) rows → Sep w0 W (ThCell b (.cells #[.int .i64 S.room, .slice (some ⟨g, off, none⟩) S.l.length c] 69 (0, 0)) :: ThRow 11 (.slice (some ⟨g, off, none⟩) S.l.length c) xs :: ThPool w0 P :: ThCell b3 (.cells #[.int .i64 0, .string ⟨#[]⟩, .string ⟨#[]⟩, .slice none 0 0, .int .i64 0, .int .i64 0, .int .i64 0, .int .i64 0, .int .i64 0, .int .i64 0, .int .i64 0] 33 (0, 0)) :: ThCell b2 (.cells #[.int .i64 o.kind, .string path, .string data, .int .i64 o.ver, .int .i64 flags] 36 (0, 0)) :: R) rows := fun _ h => h
                have hl : ∀ V, Sep w0 V (ThCell b (.cells #[.int .i64 S.room, .slice (some ⟨g, off, none⟩) S.l.length c] 69 (0, 0)) :: ThRow 11 (.slice (some ⟨g, off, none⟩) S.l.length c) xs :: ThPool w0 P :: ThCell b3 (.cells #[.int .i64 0, .string ⟨#[]⟩, .string ⟨#[]⟩, .slice none 0 0, .int .i64 0, .int .i64 0, .int .i64 0, .int .i64 0, .int .i64 0, .int .i64 0, .int .i64 0] 33 (0, 0)) :: ThCell b2 (.cells #[.int .i64 o.kind, .string path, .string data, .int .i64 o.ver, .int .i64 flags] 36 (0, 0)) :: R) rows → (Instr.loadAt 84 (.pointer (some ⟨g, off + k * 11 + 1, none⟩))).run Tryz.prog V = .ok (.agg (nd.cells (.slice na nn nc))) V := fun V hV => by
                  obtain ⟨E, hE⟩ := own_read (Sep.up1 hV)
                  exact row_part hE sn_rnode rfl (by simp [NodeS.cells]) HN1.out.2.1
                replace HX := Lib.hid HX.out.drew
                refine wpAnyM_take (by kernel_rfl) (by intro c a d v w h; cases d <;> exact h) [(0, false), (1, false), (2, false), (3, true), (4, false), (5, false), (6, false), (7, false), (8, true), (9, false), (10, false), (11, false), (12, true), (13, false)] (fuel := 8) (by kernel_rfl) ?_
                apply Exists.intro; refine ⟨?_, HX.out, ?_⟩
                · iterate 14 (first | refine yE ?_ | ((first | apply yieldP | apply yieldL); (· (simp only [k_i, k_j, k_k]; try rfl)); (· rfl); (· (intros; go_simp; (try simp only [hkl, ↓reduceIte, and_self, Int.toNat_natCast]); try with_reducible rfl)); (· (simp only [Act.put, k_a, k_b, k_c, k_d, k_e, k_f, k_g, k_h, NodeS.cells, OpS.cells, ResS.cells]; try rfl))))
                  exact rfl
                clear hl
                refine wpAnyM_one (fuel := 7) (i := 14) (by kernel_rfl) (by (simp only [k_i, k_j, k_k]; try rfl)) (fun K hK => ?_)
                go_wp2_with fail
                refine (name1_any (path) _ (by unfold maxLen; omega)).mono ?_
                rintro e w1 ⟨rfl, hu⟩
                replace HX := Lib.hid (HX.out.keep hu)
                clear hu
                go_wp2_with fail
                refine hK _ _ HX.out ?_
                clear hK
                refine wpAnyM_one (fuel := 6) (i := 15) (by kernel_rfl) (by (simp only [k_i, k_j, k_k]; try rfl)) (fun K hK => ?_)
                unfold sv
                go_wp2_with fail
                have hrm := add10_any HX.out.up2 nd (.slice na nn nc) ⟨(nameP (path).data.toList).toArray⟩ HN1.out.1 HN1.out.2.2
                refine hrm.mono ?_
                clear hrm
                have e2 : (⟨(nameP (path).data.toList).toArray⟩ : ByteArray).data.toList = nameP (path).data.toList := rfl
                unfold NodPost
                rw [e2]
                rintro e w2 ⟨nv2, P2, rfl, hP2, hnv2, hx⟩
                clear HX e2
                have HX := Lib.hid hx
                have HN := Lib.hid (show _ ∧ _ from ⟨hP2, hnv2⟩)
                have hsub : Sep w0 w2 (ThCell b (.cells #[.int .i64 S.room, .slice (some ⟨g, off, none⟩) S.l.length c] 69 (0, 0)) :: ThRow 11 (.slice (some ⟨g, off, none⟩) S.l.length c) xs :: ThPool w0 P :: ThCell b3 (.cells #[.int .i64 0, .string ⟨#[]⟩, .string ⟨#[]⟩, .slice none 0 0, .int .i64 0, .int .i64 0, .int .i64 0, .int .i64 0, .int .i64 0, .int .i64 0, .int .i64 0] 33 (0, 0)) :: ThCell b2 (.cells #[.int .i64 o.kind, .string path, .string data, .int .i64 o.ver, .int .i64 flags] 36 (0, 0)) :: R) rows := (hx.poolSub hP2).pm 3 [1, 2, 0] rfl rfl
                have HSU := Lib.hid hsub
                clear hx hP2 hnv2 hsub
                go_wp2_with fail
                refine hK _ _ HSU.out ?_
                clear hK
                refine wpAnyM_take (by kernel_rfl) (by intro c a d v w h; cases d <;> exact h) [(16, false), (17, false), (18, false)] (fuel := 3) (by kernel_rfl) ?_
                apply Exists.intro; refine ⟨?_, HSU.out, ?_⟩
                · iterate 3 (first | refine yE ?_ | ((first | apply yieldP | apply yieldL); (· (simp only [k_i, k_j, k_k]; try rfl)); (· rfl); (· (intros; go_simp; (try simp only [hkl, ↓reduceIte, and_self, Int.toNat_natCast]); try with_reducible rfl)); (· (simp only [Act.put, k_a, k_b, k_c, k_d, k_e, k_f, k_g, k_h, NodeS.cells, OpS.cells, ResS.cells]; try rfl))))
                  exact rfl
                refine wpAnyM_of_any _ _ _ _ (by decide) ?_
                refine wpAny_list [19, 20, 21] (fuel := 0) (by kernel_rfl) ?_
                simp only [List.filterMap_cons, List.filterMap_nil, k_i, k_j, k_k]
                have h3 := HX.out.up2
                clear HX HSU
                have HX := Lib.hid h3
                clear h3
                obtain ⟨na2, nn2, nc2, rfl, hone⟩ : ∃ na2 nn2 nc2, nv2 = .slice na2 nn2 nc2 ∧ ∀ u ∈ ((addS nd (nameP (path).data.toList)).cells nv2).toList, u.oneCell' = true := by
                  obtain ⟨E, hE⟩ := Sep.poolGet HX.out.up1 HN.out.2
                  obtain ⟨a3, n3, c3, h4, -⟩ := ReadRow.some hE
                  have h4 : nv2 = .slice a3 n3 c3 := h4
                  refine ⟨a3, n3, c3, h4, fun u hu => ?_⟩
                  rw [h4] at hu
                  simp only [NodeS.cells, List.mem_cons, List.not_mem_nil, or_false] at hu
                  rcases hu with rfl | rfl | rfl | rfl | rfl | rfl | rfl | rfl | rfl | rfl <;> rfl
                go_step
                first
                  | with_reducible apply sx_rowPut (i := k * 11 + 1) (vs := ((addS nd (nameP (path).data.toList)).cells (.slice na2 nn2 nc2)).toList) HX
                  | (go_step; with_reducible apply sx_rowPut (i := k * 11 + 1) (vs := ((addS nd (nameP (path).data.toList)).cells (.slice na2 nn2 nc2)).toList) HX)
                  | (go_step; go_step; with_reducible apply sx_rowPut (i := k * 11 + 1) (vs := ((addS nd (nameP (path).data.toList)).cells (.slice na2 nn2 nc2)).toList) HX)
                  | (go_step; go_step; go_step; with_reducible apply sx_rowPut (i := k * 11 + 1) (vs := ((addS nd (nameP (path).data.toList)).cells (.slice na2 nn2 nc2)).toList) HX)
                · rfl
                · omega
                · show Value.agg _ = Value.agg _
                  exact congrArg Value.agg Array.toArray_toList.symm
                · rfl
                · kernel_rfl
                · exact hone
                · show k * 11 + 1 + 10 ≤ S.l.length * 11
                  have := HK.out
                  omega
                clear HX
                intro w HX
                simp only [Act.put, k_a, k_b, k_c] at HX ⊢
                have h5 := HX.out.up2
                rw [← show (S.l.set k (up, addS nd (nameP (path).data.toList))).length = S.l.length from List.length_set ..] at h5
                have hset : S.l.set k (up, addS nd (nameP (path).data.toList)) = S.l.set k (S.l[k]'HK.out |>.1, addS nd (nameP (path).data.toList)) := by rw [HK1.out.1]
                have h6 := (rt_shut (S := { S with l := S.l.set k (up, addS nd (nameP (path).data.toList)) }) h5 (by
                  rw [hset]
                  exact (HE.out.1.mono HN.out.1).setN HK.out HN.out.2)).up1
                have HP2 := Lib.hid HN.out.1
                have HL2 := Lib.hid (show (∀ n, layT (path).data.toList n S.l = insT (path).data.toList n (S.l.set k (up, addS nd (nameP (path).data.toList)))) ∧ (S.l.set k (up, addS nd (nameP (path).data.toList))).length = S.l.length from ⟨fun n => by
                  rw [lay_under HR.out.1 HPQ.out HK1.out.2 (has_none HR.out.1 HH2.out), hset, set_setT (rise_nodup HR.out.1) HK.out, HK1.out.1], List.length_set ..⟩)
                clear HX h5 hset hone
                have HX := Lib.hid h6
                clear h6
                go_wp2_with (first | (refine sWL ?_; simp only [Act.put, k_a, k_b, k_c, k_d, k_e, k_f, k_g, k_h, NodeS.cells, OpS.cells, ResS.cells]) | (refine sWM ?_; simp only [Act.put, k_a, k_b, k_c]) | ((first | refine sWS ?_ | refine sWT ?_); clear HX; intro w HX; simp only [Act.put, k_a, k_b, k_c, setMany, Nat.reduceAdd, NodeS.cells, OpS.cells, ResS.cells] at HX ⊢) | (refine sWA ?_; clear HX; (first | (have hq := b3; clear hq; intro w b4 HX) | (have hq := b2; clear hq; intro w b3 HX) | (have hq := b; clear hq; intro w b2 HX) | intro w b HX); simp only [Act.put, k_a, k_b, k_c]) | ((first | (refine sWN ?_; clear HX; intro w mm HX) | (refine sWP ?_; clear HX; intro w av nv cv HX)); simp only [Act.put, k_a, k_b, k_c]))
                refine (new10_any HX.out zxid 0 data).mono ?_
                rintro e w ⟨rfl, hx⟩
                clear HX
                have HX := Lib.hid hx
                clear hx
                unfold NodeS.val NodeS.cells
                go_wp2_with (first | (refine sWL ?_; simp only [Act.put, k_a, k_b, k_c, k_d, k_e, k_f, k_g, k_h, NodeS.cells, OpS.cells, ResS.cells]) | (refine sWM ?_; simp only [Act.put, k_a, k_b, k_c]) | ((first | refine sWS ?_ | refine sWT ?_); clear HX; intro w HX; simp only [Act.put, k_a, k_b, k_c, setMany, Nat.reduceAdd, NodeS.cells, OpS.cells, ResS.cells] at HX ⊢) | (refine sWA ?_; clear HX; (first | (have hq := b3; clear hq; intro w b4 HX) | (have hq := b2; clear hq; intro w b3 HX) | (have hq := b; clear hq; intro w b2 HX) | intro w b HX); simp only [Act.put, k_a, k_b, k_c]) | ((first | (refine sWN ?_; clear HX; intro w mm HX) | (refine sWP ?_; clear HX; intro w av nv cv HX)); simp only [Act.put, k_a, k_b, k_c]))
                have HX2 := HX.out.up2.up2
                have HXP := HX2.poolNil 1
                have HX3 := Sep.up1 (rt_mono HXP.up1 (P' := (1, .slice none 0 0, []) :: P2) (fun q hq => k_n _ hq))
                clear HX HX2 HXP
                have HX := Lib.hid HX3
                clear HX3
                refine (rtlay_any HX.out (path) (newS zxid 0 data) none 0 0 k_s (by first | exact hn | exact Nat.le_trans (Nat.le_of_eq HL2.out.2) hn)).mono ?_
                rintro e w ⟨rfl, P3, hP3, hx⟩
                clear HX
                have HX := Lib.hid hx
                have HP3 := Lib.hid hP3
                clear hx hP3
                go_wp2_with (first | (refine sWL ?_; simp only [Act.put, k_a, k_b, k_c, k_d, k_e, k_f, k_g, k_h, NodeS.cells, OpS.cells, ResS.cells]) | (refine sWM ?_; simp only [Act.put, k_a, k_b, k_c]) | ((first | refine sWS ?_ | refine sWT ?_); clear HX; intro w HX; simp only [Act.put, k_a, k_b, k_c, setMany, Nat.reduceAdd, NodeS.cells, OpS.cells, ResS.cells] at HX ⊢) | (refine sWA ?_; clear HX; (first | (have hq := b3; clear hq; intro w b4 HX) | (have hq := b2; clear hq; intro w b3 HX) | (have hq := b; clear hq; intro w b2 HX) | intro w b HX); simp only [Act.put, k_a, k_b, k_c]) | ((first | (refine sWN ?_; clear HX; intro w mm HX) | (refine sWP ?_; clear HX; intro w av nv cv HX)); simp only [Act.put, k_a, k_b, k_c]))
                refine sx_ret HX rfl rfl (by (repeat (first | (with_reducible exact k_s) | (with_reducible apply k_m)))) (by kernel_rfl) ?_
                obtain rfl := HCR2.out
                refine ⟨.slice none 0 0, P3, ?_, fun q hq => HP3.out q (k_n _ (HP2.out q hq)), HP3.out _ k_s, ?_⟩
                · rw [HCN.out]
                  rfl
                · rw [HCN.out, HL2.out.1, ← lay_ins]
                  exact HX.out.pm 5 [0, 1] rfl rfl
        | true =>
          have HNX := Lib.hid (HK2.out.next)
          go_wp2_with (first | (refine sWL ?_; simp only [Act.put, k_a, k_b, k_c, k_d, k_e, k_f, k_g, k_h, NodeS.cells, OpS.cells, ResS.cells]) | (refine sWM ?_; simp only [Act.put, k_a, k_b, k_c]) | ((first | refine sWS ?_ | refine sWT ?_); clear HX; intro w HX; simp only [Act.put, k_a, k_b, k_c, setMany, Nat.reduceAdd, NodeS.cells, OpS.cells, ResS.cells] at HX ⊢) | (refine sWA ?_; clear HX; (first | (have hq := b3; clear hq; intro w b4 HX) | (have hq := b2; clear hq; intro w b3 HX) | (have hq := b; clear hq; intro w b2 HX) | intro w b HX); simp only [Act.put, k_a, k_b, k_c]) | ((first | (refine sWN ?_; clear HX; intro w mm HX) | (refine sWP ?_; clear HX; intro w av nv cv HX)); simp only [Act.put, k_a, k_b, k_c]) | ((with_reducible apply sx_loadAt hl); (· rfl); (· rfl); simp only [Act.put, k_a, k_b, k_c]) | ((with_reducible apply sx_loadAt hl2); (· rfl); (· rfl); simp only [Act.put, k_a, k_b, k_c]))
          refine (number1_any path nd.next _ (by omega) (by have := HNX.out; omega) (by have := HNX.out; omega)).mono ?_
          have h9 := rt_shut HX.out HE.out.1
          clear HX hl hl2 HE
          have HX := Lib.hid h9.up1
          clear h9
          cases hnm : numberP path.data.toList nd.next with
          | none =>
            rintro e w1 ⟨rfl, hu⟩
            replace HX := Lib.hid (HX.out.keep hu)
            obtain rfl : cr = (failS 1, S) := by
              rw [← HCR.out]
              exact create_bad (by rw [HPL0.out, HOF.out.1, HSE.out.1, HO.out, hnm]; rfl) (by decide)
            clear hu hnm HPL0
            dsimp only [Option.isSome, Option.getD]
            unfold sv
            go_wp2_with (first | (refine sWL ?_; simp only [Act.put, k_a, k_b, k_c, k_d, k_e, k_f, k_g, k_h, NodeS.cells, OpS.cells, ResS.cells]) | (refine sWM ?_; simp only [Act.put, k_a, k_b, k_c]) | ((first | refine sWS ?_ | refine sWT ?_); clear HX; intro w HX; simp only [Act.put, k_a, k_b, k_c, setMany, Nat.reduceAdd, NodeS.cells, OpS.cells, ResS.cells] at HX ⊢) | (refine sWA ?_; clear HX; (first | (have hq := b3; clear hq; intro w b4 HX) | (have hq := b2; clear hq; intro w b3 HX) | (have hq := b; clear hq; intro w b2 HX) | intro w b HX); simp only [Act.put, k_a, k_b, k_c]) | ((first | (refine sWN ?_; clear HX; intro w mm HX) | (refine sWP ?_; clear HX; intro w av nv cv HX)); simp only [Act.put, k_a, k_b, k_c]))
            refine (fail10_any HX.out 1).mono ?_
            rintro e w ⟨rfl, hx⟩
            clear HX
            have HX := Lib.hid hx
            clear hx
            simp only [ResS.cells, failS, noSt]
            go_wp2_with (first | (refine sWL ?_; simp only [Act.put, k_a, k_b, k_c, k_d, k_e, k_f, k_g, k_h, NodeS.cells, OpS.cells, ResS.cells]) | (refine sWM ?_; simp only [Act.put, k_a, k_b, k_c]) | ((first | refine sWS ?_ | refine sWT ?_); clear HX; intro w HX; simp only [Act.put, k_a, k_b, k_c, setMany, Nat.reduceAdd, NodeS.cells, OpS.cells, ResS.cells] at HX ⊢) | (refine sWA ?_; clear HX; (first | (have hq := b3; clear hq; intro w b4 HX) | (have hq := b2; clear hq; intro w b3 HX) | (have hq := b; clear hq; intro w b2 HX) | intro w b HX); simp only [Act.put, k_a, k_b, k_c]) | ((first | (refine sWN ?_; clear HX; intro w mm HX) | (refine sWP ?_; clear HX; intro w av nv cv HX)); simp only [Act.put, k_a, k_b, k_c]))
            refine sx_ret HX rfl rfl (by (repeat (first | (with_reducible exact k_s) | (with_reducible apply k_m)))) (by kernel_rfl) ?_
            refine rres_nil (r := failS 1) rfl ?_
            exact HX.out.pm 4 [0, 1] rfl rfl
          | some q =>
            rintro e w1 ⟨rfl, hu⟩
            replace HX := Lib.hid (HX.out.keep hu)
            have HPL := Lib.hid (show placeT S o = endT S (⟨q.toArray⟩ : ByteArray).data.toList by rw [HPL0.out, HOF.out.1, HSE.out.1, HO.out, hnm]; rfl)
            have HPQ := Lib.hid (show parentP (⟨q.toArray⟩ : ByteArray).data.toList = some up from (number_parent hnm).1.trans HPA.out)
            have HQZ := Lib.hid (number_len hnm)
            clear hu hnm HPL0
            dsimp only [Option.isSome, Option.getD]
            unfold sv
            have hqz : (⟨q.toArray⟩ : ByteArray).size ≤ 100000 := by have := HQZ.out; simp [ByteArray.size]; omega
            go_wp2_with (first | (refine sWL ?_; simp only [Act.put, k_a, k_b, k_c, k_d, k_e, k_f, k_g, k_h, NodeS.cells, OpS.cells, ResS.cells]) | (refine sWM ?_; simp only [Act.put, k_a, k_b, k_c]) | ((first | refine sWS ?_ | refine sWT ?_); clear HX; intro w HX; simp only [Act.put, k_a, k_b, k_c, setMany, Nat.reduceAdd, NodeS.cells, OpS.cells, ResS.cells] at HX ⊢) | (refine sWA ?_; clear HX; (first | (have hq := b3; clear hq; intro w b4 HX) | (have hq := b2; clear hq; intro w b3 HX) | (have hq := b; clear hq; intro w b2 HX) | intro w b HX); simp only [Act.put, k_a, k_b, k_c]) | ((first | (refine sWN ?_; clear HX; intro w mm HX) | (refine sWP ?_; clear HX; intro w av nv cv HX)); simp only [Act.put, k_a, k_b, k_c]))
            refine (at10_any HX.out.up1 (⟨q.toArray⟩ : ByteArray) hn).mono ?_
            unfold AtPost
            obtain ⟨hb2, hhb2⟩ : ∃ hb2, hasS (keysT S) ((⟨q.toArray⟩ : ByteArray)).data.toList = hb2 := ⟨_, rfl⟩
            obtain ⟨kp, hkp⟩ : ∃ kp, placeS (keysT S) ((⟨q.toArray⟩ : ByteArray)).data.toList = kp := ⟨_, rfl⟩
            rw [hhb2, hkp]
            rintro e w ⟨rfl, hx⟩
            clear HX hkp
            have HX := Lib.hid hx
            clear hx
            cases hb2 with
            | true =>
              obtain rfl : cr = (failS 5, S) := by
                rw [← HCR.out]
                exact create_bad (by rw [HPL.out, end_is HR.out.1 hhb2]) (by decide)
              clear HPL hhb2
              go_wp2_with (first | (refine sWL ?_; simp only [Act.put, k_a, k_b, k_c, k_d, k_e, k_f, k_g, k_h, NodeS.cells, OpS.cells, ResS.cells]) | (refine sWM ?_; simp only [Act.put, k_a, k_b, k_c]) | ((first | refine sWS ?_ | refine sWT ?_); clear HX; intro w HX; simp only [Act.put, k_a, k_b, k_c, setMany, Nat.reduceAdd, NodeS.cells, OpS.cells, ResS.cells] at HX ⊢) | (refine sWA ?_; clear HX; (first | (have hq := b3; clear hq; intro w b4 HX) | (have hq := b2; clear hq; intro w b3 HX) | (have hq := b; clear hq; intro w b2 HX) | intro w b HX); simp only [Act.put, k_a, k_b, k_c]) | ((first | (refine sWN ?_; clear HX; intro w mm HX) | (refine sWP ?_; clear HX; intro w av nv cv HX)); simp only [Act.put, k_a, k_b, k_c]))
              refine (fail10_any HX.out 5).mono ?_
              rintro e w ⟨rfl, hx⟩
              clear HX
              have HX := Lib.hid hx
              clear hx
              simp only [ResS.cells, failS, noSt]
              go_wp2_with (first | (refine sWL ?_; simp only [Act.put, k_a, k_b, k_c, k_d, k_e, k_f, k_g, k_h, NodeS.cells, OpS.cells, ResS.cells]) | (refine sWM ?_; simp only [Act.put, k_a, k_b, k_c]) | ((first | refine sWS ?_ | refine sWT ?_); clear HX; intro w HX; simp only [Act.put, k_a, k_b, k_c, setMany, Nat.reduceAdd, NodeS.cells, OpS.cells, ResS.cells] at HX ⊢) | (refine sWA ?_; clear HX; (first | (have hq := b3; clear hq; intro w b4 HX) | (have hq := b2; clear hq; intro w b3 HX) | (have hq := b; clear hq; intro w b2 HX) | intro w b HX); simp only [Act.put, k_a, k_b, k_c]) | ((first | (refine sWN ?_; clear HX; intro w mm HX) | (refine sWP ?_; clear HX; intro w av nv cv HX)); simp only [Act.put, k_a, k_b, k_c]))
              refine sx_ret HX rfl rfl (by (repeat (first | (with_reducible exact k_s) | (with_reducible apply k_m)))) (by kernel_rfl) ?_
              refine rres_nil (r := failS 5) rfl ?_
              exact HX.out.pm 4 [1, 0] rfl rfl
            | false =>
              have HH2 := Lib.hid (show hasS (S.l.map (·.1)) ((⟨q.toArray⟩ : ByteArray)).data.toList = false from hhb2)
              clear hhb2
              obtain ⟨g, off, c, xs, na, nn, nc, he, hnv, hp2, hS⟩ := rt_openAt HX.out HK.out
              rw [HK1.out.1] at hnv hp2
              dsimp only at hnv hp2
              have HN1 := Lib.hid (show _ ∧ _ ∧ _ from ⟨hnv, hp2, HK2.out⟩)
              clear HX
              have HX := Lib.hid hS
              have HE := Lib.hid (show _ ∧ True from ⟨he, trivial⟩)
              clear hS he hnv hp2
              by_cases hroom : S.room ≤ S.l.length
              · have q7 : decide (S.room ≤ (S.l.length : Int)) = true := decide_eq_true hroom
                obtain rfl : cr = (failS 9, S) := by
                  rw [← HCR.out]
                  exact create_bad (by rw [HPL.out, end_full HR.out.1 HH2.out hroom]) (by decide)
                clear HPL hroom
                go_wp2_with (first | (refine sWL ?_; simp only [Act.put, k_a, k_b, k_c, k_d, k_e, k_f, k_g, k_h, NodeS.cells, OpS.cells, ResS.cells]) | (refine sWM ?_; simp only [Act.put, k_a, k_b, k_c]) | ((first | refine sWS ?_ | refine sWT ?_); clear HX; intro w HX; simp only [Act.put, k_a, k_b, k_c, setMany, Nat.reduceAdd, NodeS.cells, OpS.cells, ResS.cells] at HX ⊢) | (refine sWA ?_; clear HX; (first | (have hq := b3; clear hq; intro w b4 HX) | (have hq := b2; clear hq; intro w b3 HX) | (have hq := b; clear hq; intro w b2 HX) | intro w b HX); simp only [Act.put, k_a, k_b, k_c]) | ((first | (refine sWN ?_; clear HX; intro w mm HX) | (refine sWP ?_; clear HX; intro w av nv cv HX)); simp only [Act.put, k_a, k_b, k_c]))
                refine wp_region_M (fun W => W = w.drew) 10 (by kernel_rfl) ?_
                replace HX := Lib.hid HX.out.drew
                generalize w.drew = w at HX ⊢
                refine wpAnyM_take (by kernel_rfl) (by intro c a d v w h; cases d <;> exact h) [(0, false), (1, false), (2, false), (3, true), (4, false), (5, false), (6, false), (7, false), (8, true), (9, false)] (fuel := 0) (by kernel_rfl) ?_
                apply Exists.intro; refine ⟨?_, rfl, ?_⟩
                · iterate 10 (first | refine yD ?_ | ((first | apply yieldP | apply yieldL); (· (simp only [k_i, k_j, k_k]; try rfl)); (· rfl); (· (intros; go_simp; (try simp only [hkl, ↓reduceIte, and_self, Int.toNat_natCast]); try with_reducible rfl)); (· (simp only [Act.put, k_a, k_b, k_c, k_d, k_e, k_f, k_g, k_h, NodeS.cells, OpS.cells, ResS.cells]; try rfl))))
                  exact rfl
                refine wpAnyM_done (by kernel_rfl) ?_ _
                go_wp2_with (first | (refine sWL ?_; simp only [Act.put, k_a, k_b, k_c, k_d, k_e, k_f, k_g, k_h, NodeS.cells, OpS.cells, ResS.cells]) | (refine sWM ?_; simp only [Act.put, k_a, k_b, k_c]) | ((first | refine sWS ?_ | refine sWT ?_); clear HX; intro w HX; simp only [Act.put, k_a, k_b, k_c, setMany, Nat.reduceAdd, NodeS.cells, OpS.cells, ResS.cells] at HX ⊢) | (refine sWA ?_; clear HX; (first | (have hq := b3; clear hq; intro w b4 HX) | (have hq := b2; clear hq; intro w b3 HX) | (have hq := b; clear hq; intro w b2 HX) | intro w b HX); simp only [Act.put, k_a, k_b, k_c]) | ((first | (refine sWN ?_; clear HX; intro w mm HX) | (refine sWP ?_; clear HX; intro w av nv cv HX)); simp only [Act.put, k_a, k_b, k_c]))
                have h9 := (rt_shut HX.out HE.out.1).up1
                clear HX
                have HX := Lib.hid h9
                clear h9
                go_wp2_with (first | (refine sWL ?_; simp only [Act.put, k_a, k_b, k_c, k_d, k_e, k_f, k_g, k_h, NodeS.cells, OpS.cells, ResS.cells]) | (refine sWM ?_; simp only [Act.put, k_a, k_b, k_c]) | ((first | refine sWS ?_ | refine sWT ?_); clear HX; intro w HX; simp only [Act.put, k_a, k_b, k_c, setMany, Nat.reduceAdd, NodeS.cells, OpS.cells, ResS.cells] at HX ⊢) | (refine sWA ?_; clear HX; (first | (have hq := b3; clear hq; intro w b4 HX) | (have hq := b2; clear hq; intro w b3 HX) | (have hq := b; clear hq; intro w b2 HX) | intro w b HX); simp only [Act.put, k_a, k_b, k_c]) | ((first | (refine sWN ?_; clear HX; intro w mm HX) | (refine sWP ?_; clear HX; intro w av nv cv HX)); simp only [Act.put, k_a, k_b, k_c]))
                refine (fail10_any HX.out 9).mono ?_
                rintro e w ⟨rfl, hx⟩
                clear HX
                have HX := Lib.hid hx
                clear hx
                simp only [ResS.cells, failS, noSt]
                go_wp2_with (first | (refine sWL ?_; simp only [Act.put, k_a, k_b, k_c, k_d, k_e, k_f, k_g, k_h, NodeS.cells, OpS.cells, ResS.cells]) | (refine sWM ?_; simp only [Act.put, k_a, k_b, k_c]) | ((first | refine sWS ?_ | refine sWT ?_); clear HX; intro w HX; simp only [Act.put, k_a, k_b, k_c, setMany, Nat.reduceAdd, NodeS.cells, OpS.cells, ResS.cells] at HX ⊢) | (refine sWA ?_; clear HX; (first | (have hq := b3; clear hq; intro w b4 HX) | (have hq := b2; clear hq; intro w b3 HX) | (have hq := b; clear hq; intro w b2 HX) | intro w b HX); simp only [Act.put, k_a, k_b, k_c]) | ((first | (refine sWN ?_; clear HX; intro w mm HX) | (refine sWP ?_; clear HX; intro w av nv cv HX)); simp only [Act.put, k_a, k_b, k_c]))
                refine sx_ret HX rfl rfl (by (repeat (first | (with_reducible exact k_s) | (with_reducible apply k_m)))) (by kernel_rfl) ?_
                refine rres_nil (r := failS 9) rfl ?_
                exact HX.out.pm 4 [0, 1] rfl rfl
              · have q7 : decide (S.room ≤ (S.l.length : Int)) = false := decide_eq_false hroom
                have HCR2 := Lib.hid (show cr = (⟨0, ⟨((⟨q.toArray⟩ : ByteArray)).data.toList.toArray⟩, ⟨#[]⟩, [], (createN o sess zxid).st⟩, { S with l := layT ((⟨q.toArray⟩ : ByteArray)).data.toList (createN o sess zxid) S.l }) by
                  rw [← HCR.out]
                  exact create_good (by rw [HPL.out, end_ok HR.out.1 HH2.out hroom]))
                clear HPL hroom
                go_wp2_with (first | (refine sWL ?_; simp only [Act.put, k_a, k_b, k_c, k_d, k_e, k_f, k_g, k_h, NodeS.cells, OpS.cells, ResS.cells]) | (refine sWM ?_; simp only [Act.put, k_a, k_b, k_c]) | ((first | refine sWS ?_ | refine sWT ?_); clear HX; intro w HX; simp only [Act.put, k_a, k_b, k_c, setMany, Nat.reduceAdd, NodeS.cells, OpS.cells, ResS.cells] at HX ⊢) | (refine sWA ?_; clear HX; (first | (have hq := b3; clear hq; intro w b4 HX) | (have hq := b2; clear hq; intro w b3 HX) | (have hq := b; clear hq; intro w b2 HX) | intro w b HX); simp only [Act.put, k_a, k_b, k_c]) | ((first | (refine sWN ?_; clear HX; intro w mm HX) | (refine sWP ?_; clear HX; intro w av nv cv HX)); simp only [Act.put, k_a, k_b, k_c]))
                refine wp_region_M (fun W => W = w.drew) 10 (by kernel_rfl) ?_
                replace HX := Lib.hid HX.out.drew
                generalize w.drew = w at HX ⊢
                refine wpAnyM_take (by kernel_rfl) (by intro c a d v w h; cases d <;> exact h) [(0, false), (1, false), (2, false), (3, true), (4, false), (5, false), (6, false), (7, false), (8, true), (9, false)] (fuel := 0) (by kernel_rfl) ?_
                apply Exists.intro; refine ⟨?_, rfl, ?_⟩
                · iterate 10 (first | refine yD ?_ | ((first | apply yieldP | apply yieldL); (· (simp only [k_i, k_j, k_k]; try rfl)); (· rfl); (· (intros; go_simp; (try simp only [hkl, ↓reduceIte, and_self, Int.toNat_natCast]); try with_reducible rfl)); (· (simp only [Act.put, k_a, k_b, k_c, k_d, k_e, k_f, k_g, k_h, NodeS.cells, OpS.cells, ResS.cells]; try rfl))))
                  exact rfl
                refine wpAnyM_done (by kernel_rfl) ?_ _
                cases zeb with
                | true =>
                  have HCN := Lib.hid (show createN o sess zxid = newS zxid sess data by unfold createN; rw [HOF.out.1, HOF.out.2, HSE.out.2]; rfl)
                  go_wp2_with (first | (refine sWL ?_; simp only [Act.put, k_a, k_b, k_c, k_d, k_e, k_f, k_g, k_h, NodeS.cells, OpS.cells, ResS.cells]) | (refine sWM ?_; simp only [Act.put, k_a, k_b, k_c]) | ((first | refine sWS ?_ | refine sWT ?_); clear HX; intro w HX; simp only [Act.put, k_a, k_b, k_c, setMany, Nat.reduceAdd, NodeS.cells, OpS.cells, ResS.cells] at HX ⊢) | (refine sWA ?_; clear HX; (first | (have hq := b3; clear hq; intro w b4 HX) | (have hq := b2; clear hq; intro w b3 HX) | (have hq := b; clear hq; intro w b2 HX) | intro w b HX); simp only [Act.put, k_a, k_b, k_c]) | ((first | (refine sWN ?_; clear HX; intro w mm HX) | (refine sWP ?_; clear HX; intro w av nv cv HX)); simp only [Act.put, k_a, k_b, k_c]))
                  refine wp_region_M (fun W => Sep w0 W (ThCell b (.cells #[.int .i64 S.room, .slice (some ⟨g, off, none⟩) S.l.length c] 69 (0, 0)) :: ThRow 11 (.slice (some ⟨g, off, none⟩) S.l.length c) xs :: ThPool w0 P :: ThCell b3 (.cells #[.int .i64 0, .string ⟨#[]⟩, .string ⟨#[]⟩, .slice none 0 0, .int .i64 0, .int .i64 0, .int .i64 0, .int .i64 0, .int .i64 0, .int .i64 0, .int .i64 0] 33 (0, 0)) :: ThCell b2 (.cells #[.int .i64 o.kind, .string path, .string data, .int .i64 o.ver, .int .i64 flags] 36 (0, 0)) :: R) rows) 19 (by kernel_rfl) ?_
                  have KEEPX : ∀ W, Sep w0 W (ThCell b (.cells #[.int .i64 S.room, .slice (some ⟨g, off, none⟩) S.l.length c] 69 (0, 0)) :: ThRow 11 (.slice (some ⟨g, off, none⟩) S.l.length c) xs :: ThPool w0 P :: ThCell b3 (.cells #[.int .i64 0, .string ⟨#[]⟩, .string ⟨#[]⟩, .slice none 0 0, .int .i64 0, .int .i64 0, .int .i64 0, .int .i64 0, .int .i64 0, .int .i64 0, .int .i64 0] 33 (0, 0)) :: ThCell b2 (.cells #[.int .i64 o.kind, .string path, .string data, .int .i64 o.ver, .int .i64 flags] 36 (0, 0)) :: R) rows → Sep w0 W (ThCell b (.cells #[.int .i64 S.room, .slice (some ⟨g, off, none⟩) S.l.length c] 69 (0, 0)) :: ThRow 11 (.slice (some ⟨g, off, none⟩) S.l.length c) xs :: ThPool w0 P :: ThCell b3 (.cells #[.int .i64 0, .string ⟨#[]⟩, .string ⟨#[]⟩, .slice none 0 0, .int .i64 0, .int .i64 0, .int .i64 0, .int .i64 0, .int .i64 0, .int .i64 0, .int .i64 0] 33 (0, 0)) :: ThCell b2 (.cells #[.int .i64 o.kind, .string path, .string data, .int .i64 o.ver, .int .i64 flags] 36 (0, 0)) :: R) rows := fun _ h => h
                  have hl : ∀ V, Sep w0 V (ThCell b (.cells #[.int .i64 S.room, .slice (some ⟨g, off, none⟩) S.l.length c] 69 (0, 0)) :: ThRow 11 (.slice (some ⟨g, off, none⟩) S.l.length c) xs :: ThPool w0 P :: ThCell b3 (.cells #[.int .i64 0, .string ⟨#[]⟩, .string ⟨#[]⟩, .slice none 0 0, .int .i64 0, .int .i64 0, .int .i64 0, .int .i64 0, .int .i64 0, .int .i64 0, .int .i64 0] 33 (0, 0)) :: ThCell b2 (.cells #[.int .i64 o.kind, .string path, .string data, .int .i64 o.ver, .int .i64 flags] 36 (0, 0)) :: R) rows → (Instr.loadAt 84 (.pointer (some ⟨g, off + k * 11 + 1, none⟩))).run Tryz.prog V = .ok (.agg (nd.cells (.slice na nn nc))) V := fun V hV => by
                    obtain ⟨E, hE⟩ := own_read (Sep.up1 hV)
                    exact row_part hE sn_rnode rfl (by simp [NodeS.cells]) HN1.out.2.1
                  replace HX := Lib.hid HX.out.drew
                  refine wpAnyM_take (by kernel_rfl) (by intro c a d v w h; cases d <;> exact h) [(0, false), (1, false), (2, false), (3, true), (4, false), (5, false), (6, false), (7, false), (8, true), (9, false), (10, false), (11, false), (12, true), (13, false)] (fuel := 8) (by kernel_rfl) ?_
                  apply Exists.intro; refine ⟨?_, HX.out, ?_⟩
                  · iterate 14 (first | refine yE ?_ | ((first | apply yieldP | apply yieldL); (· (simp only [k_i, k_j, k_k]; try rfl)); (· rfl); (· (intros; go_simp; (try simp only [hkl, ↓reduceIte, and_self, Int.toNat_natCast]); try with_reducible rfl)); (· (simp only [Act.put, k_a, k_b, k_c, k_d, k_e, k_f, k_g, k_h, NodeS.cells, OpS.cells, ResS.cells]; try rfl))))
                    exact rfl
                  clear hl
                  refine wpAnyM_one (fuel := 7) (i := 14) (by kernel_rfl) (by (simp only [k_i, k_j, k_k]; try rfl)) (fun K hK => ?_)
                  go_wp2_with fail
                  refine (name1_any ((⟨q.toArray⟩ : ByteArray)) _ (by unfold maxLen; omega)).mono ?_
                  rintro e w1 ⟨rfl, hu⟩
                  replace HX := Lib.hid (HX.out.keep hu)
                  clear hu
                  go_wp2_with fail
                  refine hK _ _ HX.out ?_
                  clear hK
                  refine wpAnyM_one (fuel := 6) (i := 15) (by kernel_rfl) (by (simp only [k_i, k_j, k_k]; try rfl)) (fun K hK => ?_)
                  unfold sv
                  go_wp2_with fail
                  have hrm := add10_any HX.out.up2 nd (.slice na nn nc) ⟨(nameP ((⟨q.toArray⟩ : ByteArray)).data.toList).toArray⟩ HN1.out.1 HN1.out.2.2
                  refine hrm.mono ?_
                  clear hrm
                  have e2 : (⟨(nameP ((⟨q.toArray⟩ : ByteArray)).data.toList).toArray⟩ : ByteArray).data.toList = nameP ((⟨q.toArray⟩ : ByteArray)).data.toList := rfl
                  unfold NodPost
                  rw [e2]
                  rintro e w2 ⟨nv2, P2, rfl, hP2, hnv2, hx⟩
                  clear HX e2
                  have HX := Lib.hid hx
                  have HN := Lib.hid (show _ ∧ _ from ⟨hP2, hnv2⟩)
                  have hsub : Sep w0 w2 (ThCell b (.cells #[.int .i64 S.room, .slice (some ⟨g, off, none⟩) S.l.length c] 69 (0, 0)) :: ThRow 11 (.slice (some ⟨g, off, none⟩) S.l.length c) xs :: ThPool w0 P :: ThCell b3 (.cells #[.int .i64 0, .string ⟨#[]⟩, .string ⟨#[]⟩, .slice none 0 0, .int .i64 0, .int .i64 0, .int .i64 0, .int .i64 0, .int .i64 0, .int .i64 0, .int .i64 0] 33 (0, 0)) :: ThCell b2 (.cells #[.int .i64 o.kind, .string path, .string data, .int .i64 o.ver, .int .i64 flags] 36 (0, 0)) :: R) rows := (hx.poolSub hP2).pm 3 [1, 2, 0] rfl rfl
                  have HSU := Lib.hid hsub
                  clear hx hP2 hnv2 hsub
                  go_wp2_with fail
                  refine hK _ _ HSU.out ?_
                  clear hK
                  refine wpAnyM_take (by kernel_rfl) (by intro c a d v w h; cases d <;> exact h) [(16, false), (17, false), (18, false)] (fuel := 3) (by kernel_rfl) ?_
                  apply Exists.intro; refine ⟨?_, HSU.out, ?_⟩
                  · iterate 3 (first | refine yE ?_ | ((first | apply yieldP | apply yieldL); (· (simp only [k_i, k_j, k_k]; try rfl)); (· rfl); (· (intros; go_simp; (try simp only [hkl, ↓reduceIte, and_self, Int.toNat_natCast]); try with_reducible rfl)); (· (simp only [Act.put, k_a, k_b, k_c, k_d, k_e, k_f, k_g, k_h, NodeS.cells, OpS.cells, ResS.cells]; try rfl))))
                    exact rfl
                  refine wpAnyM_of_any _ _ _ _ (by decide) ?_
                  refine wpAny_list [19, 20, 21] (fuel := 0) (by kernel_rfl) ?_
                  simp only [List.filterMap_cons, List.filterMap_nil, k_i, k_j, k_k]
                  have h3 := HX.out.up2
                  clear HX HSU
                  have HX := Lib.hid h3
                  clear h3
                  obtain ⟨na2, nn2, nc2, rfl, hone⟩ : ∃ na2 nn2 nc2, nv2 = .slice na2 nn2 nc2 ∧ ∀ u ∈ ((addS nd (nameP ((⟨q.toArray⟩ : ByteArray)).data.toList)).cells nv2).toList, u.oneCell' = true := by
                    obtain ⟨E, hE⟩ := Sep.poolGet HX.out.up1 HN.out.2
                    obtain ⟨a3, n3, c3, h4, -⟩ := ReadRow.some hE
                    have h4 : nv2 = .slice a3 n3 c3 := h4
                    refine ⟨a3, n3, c3, h4, fun u hu => ?_⟩
                    rw [h4] at hu
                    simp only [NodeS.cells, List.mem_cons, List.not_mem_nil, or_false] at hu
                    rcases hu with rfl | rfl | rfl | rfl | rfl | rfl | rfl | rfl | rfl | rfl <;> rfl
                  go_step
                  first
                    | with_reducible apply sx_rowPut (i := k * 11 + 1) (vs := ((addS nd (nameP ((⟨q.toArray⟩ : ByteArray)).data.toList)).cells (.slice na2 nn2 nc2)).toList) HX
                    | (go_step; with_reducible apply sx_rowPut (i := k * 11 + 1) (vs := ((addS nd (nameP ((⟨q.toArray⟩ : ByteArray)).data.toList)).cells (.slice na2 nn2 nc2)).toList) HX)
                    | (go_step; go_step; with_reducible apply sx_rowPut (i := k * 11 + 1) (vs := ((addS nd (nameP ((⟨q.toArray⟩ : ByteArray)).data.toList)).cells (.slice na2 nn2 nc2)).toList) HX)
                    | (go_step; go_step; go_step; with_reducible apply sx_rowPut (i := k * 11 + 1) (vs := ((addS nd (nameP ((⟨q.toArray⟩ : ByteArray)).data.toList)).cells (.slice na2 nn2 nc2)).toList) HX)
                  · rfl
                  · omega
                  · show Value.agg _ = Value.agg _
                    exact congrArg Value.agg Array.toArray_toList.symm
                  · rfl
                  · kernel_rfl
                  · exact hone
                  · show k * 11 + 1 + 10 ≤ S.l.length * 11
                    have := HK.out
                    omega
                  clear HX
                  intro w HX
                  simp only [Act.put, k_a, k_b, k_c] at HX ⊢
                  have h5 := HX.out.up2
                  rw [← show (S.l.set k (up, addS nd (nameP ((⟨q.toArray⟩ : ByteArray)).data.toList))).length = S.l.length from List.length_set ..] at h5
                  have hset : S.l.set k (up, addS nd (nameP ((⟨q.toArray⟩ : ByteArray)).data.toList)) = S.l.set k (S.l[k]'HK.out |>.1, addS nd (nameP ((⟨q.toArray⟩ : ByteArray)).data.toList)) := by rw [HK1.out.1]
                  have h6 := (rt_shut (S := { S with l := S.l.set k (up, addS nd (nameP ((⟨q.toArray⟩ : ByteArray)).data.toList)) }) h5 (by
                    rw [hset]
                    exact (HE.out.1.mono HN.out.1).setN HK.out HN.out.2)).up1
                  have HP2 := Lib.hid HN.out.1
                  have HL2 := Lib.hid (show (∀ n, layT ((⟨q.toArray⟩ : ByteArray)).data.toList n S.l = insT ((⟨q.toArray⟩ : ByteArray)).data.toList n (S.l.set k (up, addS nd (nameP ((⟨q.toArray⟩ : ByteArray)).data.toList)))) ∧ (S.l.set k (up, addS nd (nameP ((⟨q.toArray⟩ : ByteArray)).data.toList))).length = S.l.length from ⟨fun n => by
                    rw [lay_under HR.out.1 HPQ.out HK1.out.2 (has_none HR.out.1 HH2.out), hset, set_setT (rise_nodup HR.out.1) HK.out, HK1.out.1], List.length_set ..⟩)
                  clear HX h5 hset hone
                  have HX := Lib.hid h6
                  clear h6
                  go_wp2_with (first | (refine sWL ?_; simp only [Act.put, k_a, k_b, k_c, k_d, k_e, k_f, k_g, k_h, NodeS.cells, OpS.cells, ResS.cells]) | (refine sWM ?_; simp only [Act.put, k_a, k_b, k_c]) | ((first | refine sWS ?_ | refine sWT ?_); clear HX; intro w HX; simp only [Act.put, k_a, k_b, k_c, setMany, Nat.reduceAdd, NodeS.cells, OpS.cells, ResS.cells] at HX ⊢) | (refine sWA ?_; clear HX; (first | (have hq := b3; clear hq; intro w b4 HX) | (have hq := b2; clear hq; intro w b3 HX) | (have hq := b; clear hq; intro w b2 HX) | intro w b HX); simp only [Act.put, k_a, k_b, k_c]) | ((first | (refine sWN ?_; clear HX; intro w mm HX) | (refine sWP ?_; clear HX; intro w av nv cv HX)); simp only [Act.put, k_a, k_b, k_c]))
                  refine (new10_any HX.out zxid sess data).mono ?_
                  rintro e w ⟨rfl, hx⟩
                  clear HX
                  have HX := Lib.hid hx
                  clear hx
                  unfold NodeS.val NodeS.cells
                  go_wp2_with (first | (refine sWL ?_; simp only [Act.put, k_a, k_b, k_c, k_d, k_e, k_f, k_g, k_h, NodeS.cells, OpS.cells, ResS.cells]) | (refine sWM ?_; simp only [Act.put, k_a, k_b, k_c]) | ((first | refine sWS ?_ | refine sWT ?_); clear HX; intro w HX; simp only [Act.put, k_a, k_b, k_c, setMany, Nat.reduceAdd, NodeS.cells, OpS.cells, ResS.cells] at HX ⊢) | (refine sWA ?_; clear HX; (first | (have hq := b3; clear hq; intro w b4 HX) | (have hq := b2; clear hq; intro w b3 HX) | (have hq := b; clear hq; intro w b2 HX) | intro w b HX); simp only [Act.put, k_a, k_b, k_c]) | ((first | (refine sWN ?_; clear HX; intro w mm HX) | (refine sWP ?_; clear HX; intro w av nv cv HX)); simp only [Act.put, k_a, k_b, k_c]))
                  have HX2 := HX.out.up2.up2
                  have HXP := HX2.poolNil 1
                  have HX3 := Sep.up1 (rt_mono HXP.up1 (P' := (1, .slice none 0 0, []) :: P2) (fun q hq => k_n _ hq))
                  clear HX HX2 HXP
                  have HX := Lib.hid HX3
                  clear HX3
                  refine (rtlay_any HX.out ((⟨q.toArray⟩ : ByteArray)) (newS zxid sess data) none 0 0 k_s (by first | exact hn | exact Nat.le_trans (Nat.le_of_eq HL2.out.2) hn)).mono ?_
                  rintro e w ⟨rfl, P3, hP3, hx⟩
                  clear HX
                  have HX := Lib.hid hx
                  have HP3 := Lib.hid hP3
                  clear hx hP3
                  go_wp2_with (first | (refine sWL ?_; simp only [Act.put, k_a, k_b, k_c, k_d, k_e, k_f, k_g, k_h, NodeS.cells, OpS.cells, ResS.cells]) | (refine sWM ?_; simp only [Act.put, k_a, k_b, k_c]) | ((first | refine sWS ?_ | refine sWT ?_); clear HX; intro w HX; simp only [Act.put, k_a, k_b, k_c, setMany, Nat.reduceAdd, NodeS.cells, OpS.cells, ResS.cells] at HX ⊢) | (refine sWA ?_; clear HX; (first | (have hq := b3; clear hq; intro w b4 HX) | (have hq := b2; clear hq; intro w b3 HX) | (have hq := b; clear hq; intro w b2 HX) | intro w b HX); simp only [Act.put, k_a, k_b, k_c]) | ((first | (refine sWN ?_; clear HX; intro w mm HX) | (refine sWP ?_; clear HX; intro w av nv cv HX)); simp only [Act.put, k_a, k_b, k_c]))
                  refine sx_ret HX rfl rfl (by (repeat (first | (with_reducible exact k_s) | (with_reducible apply k_m)))) (by kernel_rfl) ?_
                  obtain rfl := HCR2.out
                  refine ⟨.slice none 0 0, P3, ?_, fun q hq => HP3.out q (k_n _ (HP2.out q hq)), HP3.out _ k_s, ?_⟩
                  · rw [HCN.out]
                    rfl
                  · rw [HCN.out, HL2.out.1, ← lay_ins]
                    exact HX.out.pm 5 [0, 1] rfl rfl
                | false =>
                  have HCN := Lib.hid (show createN o sess zxid = newS zxid 0 data by unfold createN; rw [HOF.out.1, HOF.out.2, HSE.out.2]; rfl)
                  go_wp2_with (first | (refine sWL ?_; simp only [Act.put, k_a, k_b, k_c, k_d, k_e, k_f, k_g, k_h, NodeS.cells, OpS.cells, ResS.cells]) | (refine sWM ?_; simp only [Act.put, k_a, k_b, k_c]) | ((first | refine sWS ?_ | refine sWT ?_); clear HX; intro w HX; simp only [Act.put, k_a, k_b, k_c, setMany, Nat.reduceAdd, NodeS.cells, OpS.cells, ResS.cells] at HX ⊢) | (refine sWA ?_; clear HX; (first | (have hq := b3; clear hq; intro w b4 HX) | (have hq := b2; clear hq; intro w b3 HX) | (have hq := b; clear hq; intro w b2 HX) | intro w b HX); simp only [Act.put, k_a, k_b, k_c]) | ((first | (refine sWN ?_; clear HX; intro w mm HX) | (refine sWP ?_; clear HX; intro w av nv cv HX)); simp only [Act.put, k_a, k_b, k_c]))
                  refine wp_region_M (fun W => Sep w0 W (ThCell b (.cells #[.int .i64 S.room, .slice (some ⟨g, off, none⟩) S.l.length c] 69 (0, 0)) :: ThRow 11 (.slice (some ⟨g, off, none⟩) S.l.length c) xs :: ThPool w0 P :: ThCell b3 (.cells #[.int .i64 0, .string ⟨#[]⟩, .string ⟨#[]⟩, .slice none 0 0, .int .i64 0, .int .i64 0, .int .i64 0, .int .i64 0, .int .i64 0, .int .i64 0, .int .i64 0] 33 (0, 0)) :: ThCell b2 (.cells #[.int .i64 o.kind, .string path, .string data, .int .i64 o.ver, .int .i64 flags] 36 (0, 0)) :: R) rows) 19 (by kernel_rfl) ?_
                  have KEEPX : ∀ W, Sep w0 W (ThCell b (.cells #[.int .i64 S.room, .slice (some ⟨g, off, none⟩) S.l.length c] 69 (0, 0)) :: ThRow 11 (.slice (some ⟨g, off, none⟩) S.l.length c) xs :: ThPool w0 P :: ThCell b3 (.cells #[.int .i64 0, .string ⟨#[]⟩, .string ⟨#[]⟩, .slice none 0 0, .int .i64 0, .int .i64 0, .int .i64 0, .int .i64 0, .int .i64 0, .int .i64 0, .int .i64 0] 33 (0, 0)) :: ThCell b2 (.cells #[.int .i64 o.kind, .string path, .string data, .int .i64 o.ver, .int .i64 flags] 36 (0, 0)) :: R) rows → Sep w0 W (ThCell b (.cells #[.int .i64 S.room, .slice (some ⟨g, off, none⟩) S.l.length c] 69 (0, 0)) :: ThRow 11 (.slice (some ⟨g, off, none⟩) S.l.length c) xs :: ThPool w0 P :: ThCell b3 (.cells #[.int .i64 0, .string ⟨#[]⟩, .string ⟨#[]⟩, .slice none 0 0, .int .i64 0, .int .i64 0, .int .i64 0, .int .i64 0, .int .i64 0, .int .i64 0, .int .i64 0] 33 (0, 0)) :: ThCell b2 (.cells #[.int .i64 o.kind, .string path, .string data, .int .i64 o.ver, .int .i64 flags] 36 (0, 0)) :: R) rows := fun _ h => h
                  have hl : ∀ V, Sep w0 V (ThCell b (.cells #[.int .i64 S.room, .slice (some ⟨g, off, none⟩) S.l.length c] 69 (0, 0)) :: ThRow 11 (.slice (some ⟨g, off, none⟩) S.l.length c) xs :: ThPool w0 P :: ThCell b3 (.cells #[.int .i64 0, .string ⟨#[]⟩, .string ⟨#[]⟩, .slice none 0 0, .int .i64 0, .int .i64 0, .int .i64 0, .int .i64 0, .int .i64 0, .int .i64 0, .int .i64 0] 33 (0, 0)) :: ThCell b2 (.cells #[.int .i64 o.kind, .string path, .string data, .int .i64 o.ver, .int .i64 flags] 36 (0, 0)) :: R) rows → (Instr.loadAt 84 (.pointer (some ⟨g, off + k * 11 + 1, none⟩))).run Tryz.prog V = .ok (.agg (nd.cells (.slice na nn nc))) V := fun V hV => by
                    obtain ⟨E, hE⟩ := own_read (Sep.up1 hV)
                    exact row_part hE sn_rnode rfl (by simp [NodeS.cells]) HN1.out.2.1
                  replace HX := Lib.hid HX.out.drew
                  refine wpAnyM_take (by kernel_rfl) (by intro c a d v w h; cases d <;> exact h) [(0, false), (1, false), (2, false), (3, true), (4, false), (5, false), (6, false), (7, false), (8, true), (9, false), (10, false), (11, false), (12, true), (13, false)] (fuel := 8) (by kernel_rfl) ?_
                  apply Exists.intro; refine ⟨?_, HX.out, ?_⟩
                  · iterate 14 (first | refine yE ?_ | ((first | apply yieldP | apply yieldL); (· (simp only [k_i, k_j, k_k]; try rfl)); (· rfl); (· (intros; go_simp; (try simp only [hkl, ↓reduceIte, and_self, Int.toNat_natCast]); try with_reducible rfl)); (· (simp only [Act.put, k_a, k_b, k_c, k_d, k_e, k_f, k_g, k_h, NodeS.cells, OpS.cells, ResS.cells]; try rfl))))
                    exact rfl
                  clear hl
                  refine wpAnyM_one (fuel := 7) (i := 14) (by kernel_rfl) (by (simp only [k_i, k_j, k_k]; try rfl)) (fun K hK => ?_)
                  go_wp2_with fail
                  refine (name1_any ((⟨q.toArray⟩ : ByteArray)) _ (by unfold maxLen; omega)).mono ?_
                  rintro e w1 ⟨rfl, hu⟩
                  replace HX := Lib.hid (HX.out.keep hu)
                  clear hu
                  go_wp2_with fail
                  refine hK _ _ HX.out ?_
                  clear hK
                  refine wpAnyM_one (fuel := 6) (i := 15) (by kernel_rfl) (by (simp only [k_i, k_j, k_k]; try rfl)) (fun K hK => ?_)
                  unfold sv
                  go_wp2_with fail
                  have hrm := add10_any HX.out.up2 nd (.slice na nn nc) ⟨(nameP ((⟨q.toArray⟩ : ByteArray)).data.toList).toArray⟩ HN1.out.1 HN1.out.2.2
                  refine hrm.mono ?_
                  clear hrm
                  have e2 : (⟨(nameP ((⟨q.toArray⟩ : ByteArray)).data.toList).toArray⟩ : ByteArray).data.toList = nameP ((⟨q.toArray⟩ : ByteArray)).data.toList := rfl
                  unfold NodPost
                  rw [e2]
                  rintro e w2 ⟨nv2, P2, rfl, hP2, hnv2, hx⟩
                  clear HX e2
                  have HX := Lib.hid hx
                  have HN := Lib.hid (show _ ∧ _ from ⟨hP2, hnv2⟩)
                  have hsub : Sep w0 w2 (ThCell b (.cells #[.int .i64 S.room, .slice (some ⟨g, off, none⟩) S.l.length c] 69 (0, 0)) :: ThRow 11 (.slice (some ⟨g, off, none⟩) S.l.length c) xs :: ThPool w0 P :: ThCell b3 (.cells #[.int .i64 0, .string ⟨#[]⟩, .string ⟨#[]⟩, .slice none 0 0, .int .i64 0, .int .i64 0, .int .i64 0, .int .i64 0, .int .i64 0, .int .i64 0, .int .i64 0] 33 (0, 0)) :: ThCell b2 (.cells #[.int .i64 o.kind, .string path, .string data, .int .i64 o.ver, .int .i64 flags] 36 (0, 0)) :: R) rows := (hx.poolSub hP2).pm 3 [1, 2, 0] rfl rfl
                  have HSU := Lib.hid hsub
                  clear hx hP2 hnv2 hsub
                  go_wp2_with fail
                  refine hK _ _ HSU.out ?_
                  clear hK
                  refine wpAnyM_take (by kernel_rfl) (by intro c a d v w h; cases d <;> exact h) [(16, false), (17, false), (18, false)] (fuel := 3) (by kernel_rfl) ?_
                  apply Exists.intro; refine ⟨?_, HSU.out, ?_⟩
                  · iterate 3 (first | refine yE ?_ | ((first | apply yieldP | apply yieldL); (· (simp only [k_i, k_j, k_k]; try rfl)); (· rfl); (· (intros; go_simp; (try simp only [hkl, ↓reduceIte, and_self, Int.toNat_natCast]); try with_reducible rfl)); (· (simp only [Act.put, k_a, k_b, k_c, k_d, k_e, k_f, k_g, k_h, NodeS.cells, OpS.cells, ResS.cells]; try rfl))))
                    exact rfl
                  refine wpAnyM_of_any _ _ _ _ (by decide) ?_
                  refine wpAny_list [19, 20, 21] (fuel := 0) (by kernel_rfl) ?_
                  simp only [List.filterMap_cons, List.filterMap_nil, k_i, k_j, k_k]
                  have h3 := HX.out.up2
                  clear HX HSU
                  have HX := Lib.hid h3
                  clear h3
                  obtain ⟨na2, nn2, nc2, rfl, hone⟩ : ∃ na2 nn2 nc2, nv2 = .slice na2 nn2 nc2 ∧ ∀ u ∈ ((addS nd (nameP ((⟨q.toArray⟩ : ByteArray)).data.toList)).cells nv2).toList, u.oneCell' = true := by
                    obtain ⟨E, hE⟩ := Sep.poolGet HX.out.up1 HN.out.2
                    obtain ⟨a3, n3, c3, h4, -⟩ := ReadRow.some hE
                    have h4 : nv2 = .slice a3 n3 c3 := h4
                    refine ⟨a3, n3, c3, h4, fun u hu => ?_⟩
                    rw [h4] at hu
                    simp only [NodeS.cells, List.mem_cons, List.not_mem_nil, or_false] at hu
                    rcases hu with rfl | rfl | rfl | rfl | rfl | rfl | rfl | rfl | rfl | rfl <;> rfl
                  go_step
                  first
                    | with_reducible apply sx_rowPut (i := k * 11 + 1) (vs := ((addS nd (nameP ((⟨q.toArray⟩ : ByteArray)).data.toList)).cells (.slice na2 nn2 nc2)).toList) HX
                    | (go_step; with_reducible apply sx_rowPut (i := k * 11 + 1) (vs := ((addS nd (nameP ((⟨q.toArray⟩ : ByteArray)).data.toList)).cells (.slice na2 nn2 nc2)).toList) HX)
                    | (go_step; go_step; with_reducible apply sx_rowPut (i := k * 11 + 1) (vs := ((addS nd (nameP ((⟨q.toArray⟩ : ByteArray)).data.toList)).cells (.slice na2 nn2 nc2)).toList) HX)
                    | (go_step; go_step; go_step; with_reducible apply sx_rowPut (i := k * 11 + 1) (vs := ((addS nd (nameP ((⟨q.toArray⟩ : ByteArray)).data.toList)).cells (.slice na2 nn2 nc2)).toList) HX)
                  · rfl
                  · omega
                  · show Value.agg _ = Value.agg _
                    exact congrArg Value.agg Array.toArray_toList.symm
                  · rfl
                  · kernel_rfl
                  · exact hone
                  · show k * 11 + 1 + 10 ≤ S.l.length * 11
                    have := HK.out
                    omega
                  clear HX
                  intro w HX
                  simp only [Act.put, k_a, k_b, k_c] at HX ⊢
                  have h5 := HX.out.up2
                  rw [← show (S.l.set k (up, addS nd (nameP ((⟨q.toArray⟩ : ByteArray)).data.toList))).length = S.l.length from List.length_set ..] at h5
                  have hset : S.l.set k (up, addS nd (nameP ((⟨q.toArray⟩ : ByteArray)).data.toList)) = S.l.set k (S.l[k]'HK.out |>.1, addS nd (nameP ((⟨q.toArray⟩ : ByteArray)).data.toList)) := by rw [HK1.out.1]
                  have h6 := (rt_shut (S := { S with l := S.l.set k (up, addS nd (nameP ((⟨q.toArray⟩ : ByteArray)).data.toList)) }) h5 (by
                    rw [hset]
                    exact (HE.out.1.mono HN.out.1).setN HK.out HN.out.2)).up1
                  have HP2 := Lib.hid HN.out.1
                  have HL2 := Lib.hid (show (∀ n, layT ((⟨q.toArray⟩ : ByteArray)).data.toList n S.l = insT ((⟨q.toArray⟩ : ByteArray)).data.toList n (S.l.set k (up, addS nd (nameP ((⟨q.toArray⟩ : ByteArray)).data.toList)))) ∧ (S.l.set k (up, addS nd (nameP ((⟨q.toArray⟩ : ByteArray)).data.toList))).length = S.l.length from ⟨fun n => by
                    rw [lay_under HR.out.1 HPQ.out HK1.out.2 (has_none HR.out.1 HH2.out), hset, set_setT (rise_nodup HR.out.1) HK.out, HK1.out.1], List.length_set ..⟩)
                  clear HX h5 hset hone
                  have HX := Lib.hid h6
                  clear h6
                  go_wp2_with (first | (refine sWL ?_; simp only [Act.put, k_a, k_b, k_c, k_d, k_e, k_f, k_g, k_h, NodeS.cells, OpS.cells, ResS.cells]) | (refine sWM ?_; simp only [Act.put, k_a, k_b, k_c]) | ((first | refine sWS ?_ | refine sWT ?_); clear HX; intro w HX; simp only [Act.put, k_a, k_b, k_c, setMany, Nat.reduceAdd, NodeS.cells, OpS.cells, ResS.cells] at HX ⊢) | (refine sWA ?_; clear HX; (first | (have hq := b3; clear hq; intro w b4 HX) | (have hq := b2; clear hq; intro w b3 HX) | (have hq := b; clear hq; intro w b2 HX) | intro w b HX); simp only [Act.put, k_a, k_b, k_c]) | ((first | (refine sWN ?_; clear HX; intro w mm HX) | (refine sWP ?_; clear HX; intro w av nv cv HX)); simp only [Act.put, k_a, k_b, k_c]))
                  refine (new10_any HX.out zxid 0 data).mono ?_
                  rintro e w ⟨rfl, hx⟩
                  clear HX
                  have HX := Lib.hid hx
                  clear hx
                  unfold NodeS.val NodeS.cells
                  go_wp2_with (first | (refine sWL ?_; simp only [Act.put, k_a, k_b, k_c, k_d, k_e, k_f, k_g, k_h, NodeS.cells, OpS.cells, ResS.cells]) | (refine sWM ?_; simp only [Act.put, k_a, k_b, k_c]) | ((first | refine sWS ?_ | refine sWT ?_); clear HX; intro w HX; simp only [Act.put, k_a, k_b, k_c, setMany, Nat.reduceAdd, NodeS.cells, OpS.cells, ResS.cells] at HX ⊢) | (refine sWA ?_; clear HX; (first | (have hq := b3; clear hq; intro w b4 HX) | (have hq := b2; clear hq; intro w b3 HX) | (have hq := b; clear hq; intro w b2 HX) | intro w b HX); simp only [Act.put, k_a, k_b, k_c]) | ((first | (refine sWN ?_; clear HX; intro w mm HX) | (refine sWP ?_; clear HX; intro w av nv cv HX)); simp only [Act.put, k_a, k_b, k_c]))
                  have HX2 := HX.out.up2.up2
                  have HXP := HX2.poolNil 1
                  have HX3 := Sep.up1 (rt_mono HXP.up1 (P' := (1, .slice none 0 0, []) :: P2) (fun q hq => k_n _ hq))
                  clear HX HX2 HXP
                  have HX := Lib.hid HX3
                  clear HX3
                  refine (rtlay_any HX.out ((⟨q.toArray⟩ : ByteArray)) (newS zxid 0 data) none 0 0 k_s (by first | exact hn | exact Nat.le_trans (Nat.le_of_eq HL2.out.2) hn)).mono ?_
                  rintro e w ⟨rfl, P3, hP3, hx⟩
                  clear HX
                  have HX := Lib.hid hx
                  have HP3 := Lib.hid hP3
                  clear hx hP3
                  go_wp2_with (first | (refine sWL ?_; simp only [Act.put, k_a, k_b, k_c, k_d, k_e, k_f, k_g, k_h, NodeS.cells, OpS.cells, ResS.cells]) | (refine sWM ?_; simp only [Act.put, k_a, k_b, k_c]) | ((first | refine sWS ?_ | refine sWT ?_); clear HX; intro w HX; simp only [Act.put, k_a, k_b, k_c, setMany, Nat.reduceAdd, NodeS.cells, OpS.cells, ResS.cells] at HX ⊢) | (refine sWA ?_; clear HX; (first | (have hq := b3; clear hq; intro w b4 HX) | (have hq := b2; clear hq; intro w b3 HX) | (have hq := b; clear hq; intro w b2 HX) | intro w b HX); simp only [Act.put, k_a, k_b, k_c]) | ((first | (refine sWN ?_; clear HX; intro w mm HX) | (refine sWP ?_; clear HX; intro w av nv cv HX)); simp only [Act.put, k_a, k_b, k_c]))
                  refine sx_ret HX rfl rfl (by (repeat (first | (with_reducible exact k_s) | (with_reducible apply k_m)))) (by kernel_rfl) ?_
                  obtain rfl := HCR2.out
                  refine ⟨.slice none 0 0, P3, ?_, fun q hq => HP3.out q (k_n _ (HP2.out q hq)), HP3.out _ k_s, ?_⟩
                  · rw [HCN.out]
                    rfl
                  · rw [HCN.out, HL2.out.1, ← lay_ins]
                    exact HX.out.pm 5 [0, 1] rfl rfl
end
end Go.Proofs.YtjeaoopamebgjaaGreatDoor
