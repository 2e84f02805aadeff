/-
  Texts of this claim, laid together.
-/
import Derived.Test.YtjeaoopamebgjaaGreatDoorMg6
import Derived.Deep.DeepCutAuto
set_option linter.unusedVariables false
set_option linter.unusedSimpArgs false

namespace Go.Proofs.YtjeaoopamebgjaaGreatDoor
open Go.RowKit Go.Av
theorem num_one {o : OpS} : (decide (1 < (partsP o.p).length) && (numberP o.p 0).isSome) = !((partsP o.p).length == 1 || !(numberP o.p 0).isSome) := by
  cases hn : numberP o.p 0 with
  | none => simp
  | some q =>
    have hg : goodP o.p = true := by
      unfold numberP at hn
      split at hn
      · cases hn
      · rename_i h
        cases hg : goodP o.p with
        | true => rfl
        | false => exact absurd (Or.inl hg) h
    have : 1 ≤ (partsP o.p).length := by
      unfold partsP
      rw [if_pos hg, cutS_len]
      omega
    simp only [Option.isSome_some, Bool.and_true, Bool.not_true, Bool.or_false]
    by_cases h1 : (partsP o.p).length = 1
    · simp [h1]
    · rw [decide_eq_true (by omega)]
      simp [h1]
set_option maxRecDepth 100000 in
set_option maxHeartbeats 4000000 in
theorem op1_any (o : OpS) (w : World) (hp : o.path.size ≤ 100000) : Calls Tryz.prog 73 #[o.val] w fun e w' => e = .returned (.int .i64 (goodE o)) ∧ Upd w w' [] [] := by
  have HGD := Lib.hid (fun w => good1_any o.path w (by unfold maxLen; omega))
  have HNU := Lib.hid (fun w => number1_any o.path 0 w hp (by omega) (by omega))
  have HPA := Lib.hid (fun w => parts1_any o.path w (by unfold maxLen; omega))
  have hu0 : Upd w (w.alloc (.cells #[.int .i64 o.kind, .string o.path, .string o.data, .int .i64 o.ver, .int .i64 o.flags] 36)) [] [] := Upd.alloc0 _ _ _
  have HA := Lib.hid (show ∀ w' : World, Upd (w.alloc (.cells #[.int .i64 o.kind, .string o.path, .string o.data, .int .i64 o.ver, .int .i64 o.flags] 36)) w' [] [] → OpAt w' w.heap.size o from fun w' hu => opAt_new w o hu)
  obtain ⟨g, hg⟩ : ∃ g, goodE o = g := ⟨_, rfl⟩
  have HG := Lib.hid hg
  unfold goodE at HG
  obtain ⟨fo, h1⟩ : ∃ z, formedS o = z := ⟨_, rfl⟩
  obtain ⟨ow, h2⟩ : ∃ z, ownS o = z := ⟨_, rfl⟩
  obtain ⟨nu, h3⟩ : ∃ z, numS o = z := ⟨_, rfl⟩
  have HFF := Lib.hid (show fo = true → 0 ≤ o.flags ∧ o.flags ≤ 3 from fun h => formed_flags (h1.trans h))
  rw [hg]
  rw [h1, h2, h3] at HG
  have HF := Lib.hid h1
  have HO := Lib.hid h2
  have HN := Lib.hid h3
  unfold numS at HN
  rw [num_one] at HN
  unfold formedS at HF
  unfold ownS at HO
  unfold OpS.p at HF HN
  obtain ⟨kind, path, data, ver, flags⟩ := o
  unfold OpS.val
  dsimp only at HF HO HN HG HA hu0 HFF hp HGD HNU HPA ⊢
  unfold OpAt at HA
  dsimp only at HA
  have HU0 := Lib.hid hu0
  clear hg h1 h2 h3 hp hu0
  obtain ⟨po, hpo⟩ : ∃ z, numberP path.data.toList 0 = z := ⟨_, rfl⟩
  obtain ⟨ps, hps⟩ : ∃ z, partsP path.data.toList = z := ⟨_, rfl⟩
  obtain ⟨gp, hgp⟩ : ∃ z, goodP path.data.toList = z := ⟨_, rfl⟩
  rw [hpo] at HNU HN
  rw [hps] at HPA HN
  rw [hgp] at HGD HF
  clear hpo hps hgp
  go_enter Tryz.func73, Tryz.ntmps73
  go_upto_region 1 with fail
  obtain ⟨wA, hwA⟩ : ∃ z, z = w.alloc (.cells #[.int .i64 kind, .string path, .string data, .int .i64 ver, .int .i64 flags] 36) := ⟨_, rfl⟩
  rw [← hwA] at HA HU0 ⊢
  clear hwA
  obtain ⟨bx, hbx⟩ : ∃ z, z = w.heap.size := ⟨_, rfl⟩
  rw [← hbx] at HA ⊢
  clear hbx
  obtain ⟨c0, c1, c2, c3, c4⟩ := HA.out wA (Upd.refl _ _)
  go_cut [33] (fun b W => b = .bool (!fo) ∧ Upd wA W [] [])
  case first =>
    obtain ⟨b1, h1⟩ : ∃ z, decide (kind < 1) = z := ⟨_, rfl⟩
    obtain ⟨b2, h2⟩ : ∃ z, decide (7 < kind) = z := ⟨_, rfl⟩
    obtain ⟨b4, h4⟩ : ∃ z, decide (ver < -1) = z := ⟨_, rfl⟩
    obtain ⟨b5, h5⟩ : ∃ z, decide (flags < 0) = z := ⟨_, rfl⟩
    obtain ⟨b6, h6⟩ : ∃ z, decide (3 < flags) = z := ⟨_, rfl⟩
    have HH := Lib.hid (show (!b1 && (!b2 && (gp && (!b4 && (!b5 && !b6))))) = fo by
      rw [← HF.out, ← h1, ← h2, ← h4, ← h5, ← h6]
      rw [← decide_not, ← decide_not, ← decide_not, ← decide_not, ← decide_not]
      simp only [Int.not_lt])
    clear HF
    go_wp2_with (go_at_call 103; refine (HGD.out _).mono ?_; rintro e w1 ⟨rfl, hu1⟩; obtain ⟨c0, c1, c2, c3, c4⟩ := HA.out _ hu1; have HU := Lib.hid hu1; clear hu1)
    all_goals
      go_meet
      rw [← HH.out]
      refine ⟨by first | rfl | (simp [*]; done), by first | exact HU.out | exact Upd.refl _ _⟩
  case rest =>
    obtain ⟨rfl, hu1⟩ := hcut
    clear c0 c1 c2 c3 c4
    obtain ⟨c0, c1, c2, c3, c4⟩ := HA.out _ hu1
    have HU1 := Lib.hid hu1
    clear hu1 HF
    cases fo with
    | false =>
      have HE := Lib.hid (show g = 1 by rw [← HG.out]; rfl)
      clear HG HN HO HFF
      go_wp2_with fail
      go_ret
      rw [HE.out]
      exact ⟨rfl, HU0.out.trans HU1.out⟩
    | true =>
    by_cases hl : 1000 < data.size
    · have HE := Lib.hid (show g = 2 by have := HG.out; rw [if_neg (by decide), if_pos hl] at this; exact this.symm)
      have hl2 : decide (1000 < (data.size : Int)) = true := decide_eq_true (by omega)
      clear HG HN HO HFF
      go_wp2_with fail
      go_ret
      rw [HE.out]
      exact ⟨rfl, HU0.out.trans HU1.out⟩
    have hl2 : decide (1000 < (data.size : Int)) = false := decide_eq_false (by omega)
    have HG2 := Lib.hid (show (if ow = false ∨ nu = false then 1 else 0) = g by have := HG.out; rw [if_neg (by decide), if_neg hl] at this; exact this)
    obtain ⟨hf0, hf3⟩ := HFF.out rfl
    clear HG hl HFF
    go_upto_region 5 with fail
    go_cut [80] (fun b W => b = .bool (!ow) ∧ W = wc)
    case first =>
      obtain ⟨de, h1⟩ : ∃ z, (data.toList == []) = z := ⟨_, rfl⟩
      obtain ⟨k1, h2⟩ : ∃ z, (kind == 1) = z := ⟨_, rfl⟩
      obtain ⟨k2, h3⟩ : ∃ z, (kind == 2) = z := ⟨_, rfl⟩
      obtain ⟨k3, h4⟩ : ∃ z, (kind == 3) = z := ⟨_, rfl⟩
      obtain ⟨k4, h5⟩ : ∃ z, (kind == 4) = z := ⟨_, rfl⟩
      obtain ⟨v0, h6⟩ : ∃ z, (ver == 0) = z := ⟨_, rfl⟩
      obtain ⟨f0, h7⟩ : ∃ z, (flags == 0) = z := ⟨_, rfl⟩
      have HH := Lib.hid HO.out
      unfold versS at HH
      rw [h1, h2, h3, h4, h5, h6, h7] at HH
      have h2 : (kind != 1) = !k1 := by rw [← h2]; rfl
      have h3 : (kind != 2) = !k2 := by rw [← h3]; rfl
      have h4 : (kind != 3) = !k3 := by rw [← h4]; rfl
      have h5 : (kind != 4) = !k4 := by rw [← h5]; rfl
      have h6 : (ver != 0) = !v0 := by rw [← h6]; rfl
      have h7 : (flags != 0) = !f0 := by rw [← h7]; rfl
      clear HO
      go_wp2_with fail
      all_goals
        go_meet
        rw [← HH.out]
        refine ⟨by first | rfl | (simp [*]; done), rfl⟩
    case rest =>
      obtain ⟨rfl, hW⟩ := hcut
      subst hW
      cases ow with
      | false =>
        have HE := Lib.hid (show g = 1 by rw [← HG2.out]; rfl)
        clear HG2 HN HO
        go_wp2_with fail
        go_ret
        rw [HE.out]
        exact ⟨rfl, HU0.out.trans HU1.out⟩
      | true =>
      have HG3 := Lib.hid (show (if nu = false then 1 else 0) = g by rw [← HG2.out]; cases nu <;> simp)
      have hsb := seq_bit hf0 hf3
      have hsb2 : (bits .and .i64 flags 2 != 0) = seqF flags := by
        rw [show (bits .and .i64 flags 2 != 0) = !(bits .and .i64 flags 2 == 0) from rfl, hsb, Bool.not_not]
      -- a number behind it is asked of a create alone
      have hk1 : seqF flags = true → (kind == 1) = true := fun hs => by
        have h := HO.out
        simp only [Bool.and_eq_true, Bool.or_eq_true] at h
        rcases h.2.2 with h | h
        · exfalso
          simp only [beq_iff_eq] at h
          subst h
          exact absurd hs (by decide)
        · exact h
      clear HG2 HO hsb
      cases hs : seqF flags with
      | false =>
        have HE := Lib.hid (show g = 0 by
          have := HN.out
          rw [hs] at this
          rw [← HG3.out, ← this]
          rfl)
        rw [hs] at hsb2
        clear HG3 HN hs hk1
        obtain ⟨k1, hk⟩ : ∃ z, (kind == 1) = z := ⟨_, rfl⟩
        cases k1
        all_goals
          go_wp2_with fail
          go_ret
          rw [HE.out]
          exact ⟨rfl, HU0.out.trans HU1.out⟩
      | true =>
        have hk := hk1 hs
        rw [hs] at hsb2
        have HN2 := Lib.hid (show (!(ps.length == 1 || !po.isSome)) = nu by
          have := HN.out
          rw [hs] at this
          simpa using this)
        obtain ⟨pi, hpi⟩ : ∃ z, po.isSome = z := ⟨_, rfl⟩
        rw [hpi] at HNU HN2
        clear HN hs hk1 hpi
        go_wp2_with fail
        refine (HNU.out _).mono ?_
        rintro e w1 ⟨rfl, hu2⟩
        obtain ⟨d0, d1, d2, d3, d4⟩ := HA.out _ (HU1.out.trans hu2)
        have HU2 := Lib.hid (HU1.out.trans hu2)
        clear hu2 HNU c0 c1 c2 c3 c4
        go_wp2_with fail
        refine (HPA.out _).mono ?_
        rintro e w2 ⟨v, D, rfl, ho, hu⟩
        obtain ⟨a, n, c, rfl, hl, hn, hc, -⟩ := id ho
        rw [List.length_map, Nat.mul_one] at hl
        subst hl
        have HU := Lib.hid (HU2.out.trans (hu.mono (fun _ h => h) (fun b hb => by cases hb) : Upd w1 w2 [] []))
        obtain ⟨z, hz⟩ : ∃ z, (ps.length == 1) = z := ⟨_, rfl⟩
        have hz2 : ((ps.length : Int) == 1) = z := by
          rw [← hz]
          by_cases h1 : ps.length = 1
          · simp [h1]
          · rw [beq_eq_false_iff_ne.2 h1, beq_eq_false_iff_ne]; omega
        rw [hz] at HN2
        have HE := Lib.hid (show g = if (z || !pi) = true then 1 else 0 by
          rw [← HG3.out, ← HN2.out]
          cases z <;> cases pi <;> rfl)
        clear ho hu hz HN2 HG3 HPA
        cases z <;> cases pi
        all_goals
          go_wp2_with fail
          go_ret
          rw [HE.out]
          exact ⟨rfl, HU0.out.trans HU.out⟩
end Go.Proofs.YtjeaoopamebgjaaGreatDoor

namespace Go.Av
theorem do_bad {S : TreeS} {o : OpS} {sess zxid : Int} (h : goodE o ≠ 0) : doT S o sess zxid = (failS (goodE o), S) := by unfold doT; rw [if_pos h]
theorem do_arg {S : TreeS} {o : OpS} {sess zxid : Int} (h : goodE o = 0) (h1 : sess < 1 ∨ zxid < 0) : doT S o sess zxid = (failS 1, S) := by unfold doT; rw [if_neg (fun hh => hh h), if_pos h1]
theorem do_create {S : TreeS} {o : OpS} {sess zxid : Int} (h : goodE o = 0) (h1 : ¬ (sess < 1 ∨ zxid < 0)) (hk : o.kind = 1) : doT S o sess zxid = createT S o sess zxid := by unfold doT; rw [if_neg (fun hh => hh h), if_neg h1, if_pos hk]
theorem do_change {S : TreeS} {o : OpS} {sess zxid : Int} (h : goodE o = 0) (h1 : ¬ (sess < 1 ∨ zxid < 0)) (hk : o.kind = 2 ∨ o.kind = 3 ∨ o.kind = 4) : doT S o sess zxid = changeT S o zxid := by unfold doT; rw [if_neg (fun hh => hh h), if_neg h1, if_neg (by omega), if_pos hk]
theorem do_read {S : TreeS} {o : OpS} {sess zxid : Int} (h : goodE o = 0) (h1 : ¬ (sess < 1 ∨ zxid < 0)) (hk : 5 ≤ o.kind) : doT S o sess zxid = (readT S o, S) := by unfold doT; rw [if_neg (fun hh => hh h), if_neg h1, if_neg (by omega), if_neg (by omega)]
theorem do_none {S : TreeS} {o : OpS} {sess zxid : Int} (h : goodE o = 0) (h1 : ¬ (sess < 1 ∨ zxid < 0)) (hk : 2 ≤ o.kind) (hl : lookT o.p S.l = none) : doT S o sess zxid = (failS 4, S) := by
  by_cases h2 : 5 ≤ o.kind
  · rw [do_read h h1 h2]; unfold readT; rw [hl]
  · rw [do_change h h1 (by omega)]; unfold changeT; rw [hl]
theorem change_some {S : TreeS} {o : OpS} {zxid : Int} {n : NodeS} (hl : lookT o.p S.l = some n) : changeT S o zxid = if wrongS o n = true then (failS 6, S)
    else if o.kind = 2 ∧ 0 < n.names.length then (failS 7, S)
    else if o.kind = 2 then (⟨0, o.path, ⟨#[]⟩, [], noSt⟩, { S with l := remT o.p S.l })
    else if o.kind = 3 then (⟨0, o.path, ⟨#[]⟩, [], (writeS n zxid o.data).st⟩, { S with l := setT o.p (writeS n zxid o.data) S.l })
    else (⟨0, o.path, ⟨#[]⟩, [], noSt⟩, S) := by unfold changeT; rw [hl]
theorem del_ok {l : NoL} {p : Bs} (h : ∀ e ∈ l, NodeOk e.2) : ∀ e ∈ delT p l, NodeOk e.2 := fun e he => h e (mem_del he)
end Go.Av
namespace Go.Proofs.YtjeaoopamebgjaaGreatDoor
open Go.RowKit Go.Av
section
variable {w0 w : World} {b : Nat} {S : TreeS} {P P' : List PRow} {R : List Thing} {rows : List (Value × Bs)}
theorem rres_mono {S' : TreeS} {r : ResS} {e : Ending} (hP : ∀ q ∈ P, q ∈ P') (h : RResPost w0 b S' P' R rows r e w) : RResPost w0 b S' P R rows r e w := by
  obtain ⟨nv, P2, h1, h2, h3, h4⟩ := h
  exact ⟨nv, P2, h1, fun q hq => h2 q (hP q hq), h3, h4⟩
set_option maxRecDepth 100000 in
set_option maxHeartbeats 8000000 in
theorem rtdo_any (h : Sep w0 w (ThPool w0 P :: ThRt b S P :: R) rows) (o : OpS) (hp : o.path.size ≤ 100000) (sess zxid : Int) (hr : RiseT S.l) (hok : ∀ e ∈ S.l, NodeOk e.2) (hn : S.l.length ≤ 100000) :
    Calls Tryz.prog 46 #[.pointer (some ⟨b, 0, none⟩), o.val, .int .i64 sess, .int .i64 zxid] w (RResPost w0 b (doT S o sess zxid).2 P R rows (doT S o sess zxid).1) := by
  have HX := Lib.hid h
  have HR := Lib.hid (show _ ∧ _ from ⟨hr, hok⟩)
  obtain ⟨dr, hdr⟩ : ∃ dr, doT S o sess zxid = dr := ⟨_, rfl⟩
  rw [hdr]
  have HDO := Lib.hid hdr
  obtain ⟨ge, hge⟩ : ∃ ge, goodE o = ge := ⟨_, rfl⟩
  have HGE := Lib.hid hge
  have HOP := Lib.hid (fun w => op1_any o w hp)
  rw [hge] at HOP
  clear h hr hok hdr hge
  obtain ⟨kind, path, data, ver, flags⟩ := o
  unfold OpS.val at HOP ⊢
  dsimp only at hp HOP ⊢
  go_enter Tryz.func46, Tryz.ntmps46
  go_wp2_with (first | go_skip | (refine sWL ?_; simp only [Act.put, k_a, k_b, k_c, k_d, k_e, k_f, k_g, k_h, NodeS.cells, OpS.cells, ResS.cells]) | (refine sWM ?_; simp only [Act.put, k_a, k_b, k_c]) | ((first | refine sWS ?_ | refine sWT ?_); clear HX; intro w HX; simp only [Act.put, k_a, k_b, k_c, setMany, Nat.reduceAdd, NodeS.cells, OpS.cells, ResS.cells] at HX ⊢) | (refine sWA ?_; clear HX; (first | (have hq := b; clear hq; intro w b2 HX) | intro w b HX); simp only [Act.put, k_a, k_b, k_c]) | ((first | (refine sWN ?_; clear HX; intro w mm HX) | (refine sWP ?_; clear HX; intro w av nv cv HX)); simp only [Act.put, k_a, k_b, k_c]))
  refine (HOP.out _).mono ?_
  rintro e w1 ⟨rfl, hu⟩
  replace HX := Lib.hid (HX.out.keep hu)
  clear hu HOP
  by_cases h0 : ge ≠ 0
  · have q1 : (ge != 0) = true := by rw [bne_iff_ne]; exact h0
    obtain rfl : dr = (failS ge, S) := by rw [← HDO.out, do_bad (by rw [HGE.out]; exact h0), HGE.out]
    go_wp2_with (first | go_skip | (refine sWL ?_; simp only [Act.put, k_a, k_b, k_c, k_d, k_e, k_f, k_g, k_h, NodeS.cells, OpS.cells, ResS.cells]) | (refine sWM ?_; simp only [Act.put, k_a, k_b, k_c]) | ((first | refine sWS ?_ | refine sWT ?_); clear HX; intro w HX; simp only [Act.put, k_a, k_b, k_c, setMany, Nat.reduceAdd, NodeS.cells, OpS.cells, ResS.cells] at HX ⊢) | (refine sWA ?_; clear HX; (first | (have hq := b; clear hq; intro w b2 HX) | intro w b HX); simp only [Act.put, k_a, k_b, k_c]) | ((first | (refine sWN ?_; clear HX; intro w mm HX) | (refine sWP ?_; clear HX; intro w av nv cv HX)); simp only [Act.put, k_a, k_b, k_c]))
    refine (fail10_any HX.out ge).mono ?_
    rintro e w ⟨rfl, hx⟩
    clear HX
    have HX := Lib.hid hx
    clear hx
    simp only [ResS.cells, failS, noSt]
    go_wp2_with (first | go_skip | (refine sWL ?_; simp only [Act.put, k_a, k_b, k_c, k_d, k_e, k_f, k_g, k_h, NodeS.cells, OpS.cells, ResS.cells]) | (refine sWM ?_; simp only [Act.put, k_a, k_b, k_c]) | ((first | refine sWS ?_ | refine sWT ?_); clear HX; intro w HX; simp only [Act.put, k_a, k_b, k_c, setMany, Nat.reduceAdd, NodeS.cells, OpS.cells, ResS.cells] at HX ⊢) | (refine sWA ?_; clear HX; (first | (have hq := b; clear hq; intro w b2 HX) | intro w b HX); simp only [Act.put, k_a, k_b, k_c]) | ((first | (refine sWN ?_; clear HX; intro w mm HX) | (refine sWP ?_; clear HX; intro w av nv cv HX)); simp only [Act.put, k_a, k_b, k_c]))
    refine sx_ret HX rfl rfl (by (repeat (first | (with_reducible exact k_s) | (with_reducible apply k_m)))) (by kernel_rfl) ?_
    refine rres_nil (r := failS ge) rfl ?_
    exact HX.out.pm 4 [2, 3] rfl rfl
  obtain rfl : ge = 0 := by omega
  clear h0
  by_cases h1 : sess < 1 ∨ zxid < 0
  · obtain rfl : dr = (failS 1, S) := by rw [← HDO.out, do_arg HGE.out h1]
    by_cases h2 : sess < 1
    · have q1 : decide (sess < 1) = true := decide_eq_true h2
      go_wp2_with (first | go_skip | (refine sWL ?_; simp only [Act.put, k_a, k_b, k_c, k_d, k_e, k_f, k_g, k_h, NodeS.cells, OpS.cells, ResS.cells]) | (refine sWM ?_; simp only [Act.put, k_a, k_b, k_c]) | ((first | refine sWS ?_ | refine sWT ?_); clear HX; intro w HX; simp only [Act.put, k_a, k_b, k_c, setMany, Nat.reduceAdd, NodeS.cells, OpS.cells, ResS.cells] at HX ⊢) | (refine sWA ?_; clear HX; (first | (have hq := b; clear hq; intro w b2 HX) | intro w b HX); simp only [Act.put, k_a, k_b, k_c]) | ((first | (refine sWN ?_; clear HX; intro w mm HX) | (refine sWP ?_; clear HX; intro w av nv cv HX)); simp only [Act.put, k_a, k_b, k_c]))
      refine (fail10_any HX.out 1).mono ?_
      rintro e w ⟨rfl, hx⟩
      clear HX
      have HX := Lib.hid hx
      clear hx
      simp only [ResS.cells, failS, noSt]
      go_wp2_with (first | go_skip | (refine sWL ?_; simp only [Act.put, k_a, k_b, k_c, k_d, k_e, k_f, k_g, k_h, NodeS.cells, OpS.cells, ResS.cells]) | (refine sWM ?_; simp only [Act.put, k_a, k_b, k_c]) | ((first | refine sWS ?_ | refine sWT ?_); clear HX; intro w HX; simp only [Act.put, k_a, k_b, k_c, setMany, Nat.reduceAdd, NodeS.cells, OpS.cells, ResS.cells] at HX ⊢) | (refine sWA ?_; clear HX; (first | (have hq := b; clear hq; intro w b2 HX) | intro w b HX); simp only [Act.put, k_a, k_b, k_c]) | ((first | (refine sWN ?_; clear HX; intro w mm HX) | (refine sWP ?_; clear HX; intro w av nv cv HX)); simp only [Act.put, k_a, k_b, k_c]))
      refine sx_ret HX rfl rfl (by (repeat (first | (with_reducible exact k_s) | (with_reducible apply k_m)))) (by kernel_rfl) ?_
      refine rres_nil (r := failS 1) rfl ?_
      exact HX.out.pm 4 [2, 3] rfl rfl
    · have q1 : decide (sess < 1) = false := decide_eq_false h2
      have q2 : decide (zxid < 0) = true := decide_eq_true (by omega)
      go_wp2_with (first | go_skip | (refine sWL ?_; simp only [Act.put, k_a, k_b, k_c, k_d, k_e, k_f, k_g, k_h, NodeS.cells, OpS.cells, ResS.cells]) | (refine sWM ?_; simp only [Act.put, k_a, k_b, k_c]) | ((first | refine sWS ?_ | refine sWT ?_); clear HX; intro w HX; simp only [Act.put, k_a, k_b, k_c, setMany, Nat.reduceAdd, NodeS.cells, OpS.cells, ResS.cells] at HX ⊢) | (refine sWA ?_; clear HX; (first | (have hq := b; clear hq; intro w b2 HX) | intro w b HX); simp only [Act.put, k_a, k_b, k_c]) | ((first | (refine sWN ?_; clear HX; intro w mm HX) | (refine sWP ?_; clear HX; intro w av nv cv HX)); simp only [Act.put, k_a, k_b, k_c]))
      refine (fail10_any HX.out 1).mono ?_
      rintro e w ⟨rfl, hx⟩
      clear HX
      have HX := Lib.hid hx
      clear hx
      simp only [ResS.cells, failS, noSt]
      go_wp2_with (first | go_skip | (refine sWL ?_; simp only [Act.put, k_a, k_b, k_c, k_d, k_e, k_f, k_g, k_h, NodeS.cells, OpS.cells, ResS.cells]) | (refine sWM ?_; simp only [Act.put, k_a, k_b, k_c]) | ((first | refine sWS ?_ | refine sWT ?_); clear HX; intro w HX; simp only [Act.put, k_a, k_b, k_c, setMany, Nat.reduceAdd, NodeS.cells, OpS.cells, ResS.cells] at HX ⊢) | (refine sWA ?_; clear HX; (first | (have hq := b; clear hq; intro w b2 HX) | intro w b HX); simp only [Act.put, k_a, k_b, k_c]) | ((first | (refine sWN ?_; clear HX; intro w mm HX) | (refine sWP ?_; clear HX; intro w av nv cv HX)); simp only [Act.put, k_a, k_b, k_c]))
      refine sx_ret HX rfl rfl (by (repeat (first | (with_reducible exact k_s) | (with_reducible apply k_m)))) (by kernel_rfl) ?_
      refine rres_nil (r := failS 1) rfl ?_
      exact HX.out.pm 4 [2, 3] rfl rfl
  have q1 : decide (sess < 1) = false := decide_eq_false (by omega)
  have q2 : decide (zxid < 0) = false := decide_eq_false (by omega)
  obtain ⟨hk1, hk7, -⟩ := formed_ok (goodE_ok HGE.out).1
  dsimp only at hk1 hk7
  have HH1 := Lib.hid h1
  clear h1
  by_cases hk : kind = 1
  · subst hk
    have HCR := Lib.hid (rtcreate_any (w := w) (P := P) (R := R) (w0 := w0) (b := b) (rows := rows) (S := S))
    obtain rfl : createT S ⟨1, path, data, ver, flags⟩ sess zxid = dr := by rw [← HDO.out, do_create HGE.out HH1.out rfl]
    clear HCR
    go_wp2_with (first | go_skip | (refine sWL ?_; simp only [Act.put, k_a, k_b, k_c, k_d, k_e, k_f, k_g, k_h, NodeS.cells, OpS.cells, ResS.cells]) | (refine sWM ?_; simp only [Act.put, k_a, k_b, k_c]) | ((first | refine sWS ?_ | refine sWT ?_); clear HX; intro w HX; simp only [Act.put, k_a, k_b, k_c, setMany, Nat.reduceAdd, NodeS.cells, OpS.cells, ResS.cells] at HX ⊢) | (refine sWA ?_; clear HX; (first | (have hq := b; clear hq; intro w b2 HX) | intro w b HX); simp only [Act.put, k_a, k_b, k_c]) | ((first | (refine sWN ?_; clear HX; intro w mm HX) | (refine sWP ?_; clear HX; intro w av nv cv HX)); simp only [Act.put, k_a, k_b, k_c]))
    have hy := HX.out.up3.up3
    refine (rtcreate_any hy ⟨1, path, data, ver, flags⟩ hp HGE.out sess zxid HR.out.1 HR.out.2 hn).mono ?_
    clear hy
    rintro e w ⟨nv, P2, rfl, hP2, hnv, hx⟩
    obtain ⟨E, hE⟩ := Sep.poolGet hx hnv
    obtain ⟨na, nn, nc, rfl, -⟩ := id hE
    obtain ⟨r, hr⟩ : ∃ r, (createT S ⟨1, path, data, ver, flags⟩ sess zxid).1 = r := ⟨_, rfl⟩
    rw [hr] at hnv ⊢
    clear HX hE
    have HX := Lib.hid hx
    have HP2 := Lib.hid (show _ ∧ _ from ⟨hP2, hnv⟩)
    have HRR := Lib.hid hr
    clear hx hP2 hnv hr
    simp only [ResS.cells]
    go_wp2_with (first | go_skip | (refine sWL ?_; simp only [Act.put, k_a, k_b, k_c, k_d, k_e, k_f, k_g, k_h, NodeS.cells, OpS.cells, ResS.cells]) | (refine sWM ?_; simp only [Act.put, k_a, k_b, k_c]) | ((first | refine sWS ?_ | refine sWT ?_); clear HX; intro w HX; simp only [Act.put, k_a, k_b, k_c, setMany, Nat.reduceAdd, NodeS.cells, OpS.cells, ResS.cells] at HX ⊢) | (refine sWA ?_; clear HX; (first | (have hq := b; clear hq; intro w b2 HX) | intro w b HX); simp only [Act.put, k_a, k_b, k_c]) | ((first | (refine sWN ?_; clear HX; intro w mm HX) | (refine sWP ?_; clear HX; intro w av nv cv HX)); simp only [Act.put, k_a, k_b, k_c]))
    refine sx_ret HX rfl rfl (by (repeat (first | (with_reducible exact k_s) | (with_reducible apply k_m)))) (by kernel_rfl) ?_
    refine ⟨.slice na nn nc, P2, ?_, HP2.out.1, ?_, HX.out.pm 4 [0, 1] rfl rfl⟩
    · rw [HRR.out]; rfl
    · rw [HRR.out]; exact HP2.out.2
  have q3 : (kind == 1) = false := by rw [beq_eq_false_iff_ne]; exact hk
  go_wp2_with (first | go_skip | (refine sWL ?_; simp only [Act.put, k_a, k_b, k_c, k_d, k_e, k_f, k_g, k_h, NodeS.cells, OpS.cells, ResS.cells]) | (refine sWM ?_; simp only [Act.put, k_a, k_b, k_c]) | ((first | refine sWS ?_ | refine sWT ?_); clear HX; intro w HX; simp only [Act.put, k_a, k_b, k_c, setMany, Nat.reduceAdd, NodeS.cells, OpS.cells, ResS.cells] at HX ⊢) | (refine sWA ?_; clear HX; (first | (have hq := b; clear hq; intro w b2 HX) | intro w b HX); simp only [Act.put, k_a, k_b, k_c]) | ((first | (refine sWN ?_; clear HX; intro w mm HX) | (refine sWP ?_; clear HX; intro w av nv cv HX)); simp only [Act.put, k_a, k_b, k_c]))
  refine (at10_any HX.out.up3 path hn).mono ?_
  unfold AtPost
  obtain ⟨hb, hhb⟩ : ∃ hb, hasS (keysT S) path.data.toList = hb := ⟨_, rfl⟩
  rw [hhb]
  rintro e w ⟨rfl, hx⟩
  clear HX
  have HX := Lib.hid hx.up3
  clear hx
  cases hb with
  | false =>
    obtain rfl : dr = (failS 4, S) := by
      rw [← HDO.out]
      exact do_none HGE.out HH1.out (show 2 ≤ kind by omega) (has_none HR.out.1 hhb)
    clear hhb
    go_wp2_with (first | go_skip | (refine sWL ?_; simp only [Act.put, k_a, k_b, k_c, k_d, k_e, k_f, k_g, k_h, NodeS.cells, OpS.cells, ResS.cells]) | (refine sWM ?_; simp only [Act.put, k_a, k_b, k_c]) | ((first | refine sWS ?_ | refine sWT ?_); clear HX; intro w HX; simp only [Act.put, k_a, k_b, k_c, setMany, Nat.reduceAdd, NodeS.cells, OpS.cells, ResS.cells] at HX ⊢) | (refine sWA ?_; clear HX; (first | (have hq := b; clear hq; intro w b2 HX) | intro w b HX); simp only [Act.put, k_a, k_b, k_c]) | ((first | (refine sWN ?_; clear HX; intro w mm HX) | (refine sWP ?_; clear HX; intro w av nv cv HX)); simp only [Act.put, k_a, k_b, k_c]))
    refine (fail10_any HX.out 4).mono ?_
    rintro e w ⟨rfl, hx⟩
    clear HX
    have HX := Lib.hid hx
    clear hx
    simp only [ResS.cells, failS, noSt]
    go_wp2_with (first | go_skip | (refine sWL ?_; simp only [Act.put, k_a, k_b, k_c, k_d, k_e, k_f, k_g, k_h, NodeS.cells, OpS.cells, ResS.cells]) | (refine sWM ?_; simp only [Act.put, k_a, k_b, k_c]) | ((first | refine sWS ?_ | refine sWT ?_); clear HX; intro w HX; simp only [Act.put, k_a, k_b, k_c, setMany, Nat.reduceAdd, NodeS.cells, OpS.cells, ResS.cells] at HX ⊢) | (refine sWA ?_; clear HX; (first | (have hq := b; clear hq; intro w b2 HX) | intro w b HX); simp only [Act.put, k_a, k_b, k_c]) | ((first | (refine sWN ?_; clear HX; intro w mm HX) | (refine sWP ?_; clear HX; intro w av nv cv HX)); simp only [Act.put, k_a, k_b, k_c]))
    refine sx_ret HX rfl rfl (by (repeat (first | (with_reducible exact k_s) | (with_reducible apply k_m)))) (by kernel_rfl) ?_
    refine rres_nil (r := failS 4) rfl ?_
    exact HX.out.pm 4 [0, 1] rfl rfl
  | true =>
    obtain ⟨hk', h1, h2⟩ := has_look (rise_nodup HR.out.1) hhb
    have hps : placeS (keysT S) path.data.toList = placeS (S.l.map (·.1)) path.data.toList := rfl
    rw [hps]
    obtain ⟨k, hkk⟩ : ∃ k, placeS (S.l.map (·.1)) path.data.toList = k := ⟨_, rfl⟩
    rw [hkk]
    have hk2 : k < S.l.length := by rw [← hkk]; exact hk'
    have h1' : S.l[k].1 = path.data.toList := by simp only [← hkk]; exact h1
    have h2' : lookT path.data.toList S.l = some S.l[k].2 := by simp only [← hkk]; exact h2
    have hno := HR.out.2 S.l[k] (List.getElem_mem hk2)
    obtain ⟨nd, hnd⟩ : ∃ nd, S.l[k].2 = nd := ⟨_, rfl⟩
    rw [hnd] at h2' hno
    have HK := Lib.hid hk2
    have HK1 := Lib.hid (show S.l[k]'HK.out = (path.data.toList, nd) ∧ lookT path.data.toList S.l = some nd from ⟨get_of _ h1' hnd, h2'⟩)
    have HK2 := Lib.hid hno
    have hkc : k ≤ 100000 := by omega
    have hkl : (k < S.l.length) = True := eq_true hk2
    have q0 : decide (k < S.l.length) = true := decide_eq_true hk2
    clear hk' h1 h2 hps hkk hhb h1' h2' hno hnd hk2
    obtain ⟨g, off, c, xs, na, nn, nc, he, hnv, hp2, hS⟩ := rt_openAt HX.out.up1 HK.out
    rw [HK1.out.1] at hnv hp2
    dsimp only at hnv hp2
    obtain ⟨E2, hE2⟩ := own_read hS.up1
    have hl : (Instr.loadAt 84 (.pointer (some ⟨g, off + k * 11 + 1, none⟩))).run Tryz.prog w = .ok (.agg (nd.cells (.slice na nn nc))) w := row_part hE2 sn_rnode rfl (by simp [NodeS.cells]) hp2
    obtain ⟨E3, hE3⟩ := hS.up2.poolGet hnv
    obtain ⟨_, _, _, e, hnl, -⟩ := ReadRow.some hE3
    simp only [Value.slice.injEq] at e
    obtain ⟨rfl, rfl, rfl⟩ := e
    rw [List.length_map, Nat.mul_one] at hnl
    subst hnl
    clear HX
    have HX := Lib.hid hS
    have HE := Lib.hid (show _ ∧ True from ⟨he, trivial⟩)
    have HN1 := Lib.hid hnv
    clear hS he hnv hE2 hE3 hp2
    simp only [NodeS.cells] at hl
    have hkk : kind = 2 ∨ kind = 3 ∨ kind = 4 ∨ kind = 5 ∨ kind = 6 ∨ kind = 7 := by omega
    clear hk1 hk7 hk q3
    rcases hkk with rfl | rfl | rfl | rfl | rfl | rfl
    · have HCH := Lib.hid (show dr = _ from ((HDO.out.symm).trans (do_change HGE.out HH1.out (by dsimp only; omega))).trans (change_some HK1.out.2))
      obtain ⟨z1, hz1⟩ : ∃ z, (ver != -1) = z := ⟨_, rfl⟩
      obtain ⟨z2, hz2⟩ : ∃ z, (ver != nd.ver) = z := ⟨_, rfl⟩
      cases z1 with
      | false =>
        have HWR := Lib.hid (show ¬ wrongS ⟨2, path, data, ver, flags⟩ nd = true by unfold wrongS; rw [hz1]; exact Bool.false_ne_true)
        clear hz2
        by_cases hl7 : 0 < nd.names.length
        · have q7 : decide (0 < ((nd.names.length : Nat) : Int)) = true := decide_eq_true (by omega)
          have q7' : decide (0 < nd.names.length) = true := decide_eq_true hl7
          obtain rfl : dr = (failS 7, S) := by rw [HCH.out]; exact (if_neg HWR.out).trans (if_pos ⟨rfl, hl7⟩)
          go_wp2_with (first | go_skip | (refine sWL ?_; simp only [Act.put, k_a, k_b, k_c, k_d, k_e, k_f, k_g, k_h, NodeS.cells, OpS.cells, ResS.cells]) | (refine sWM ?_; simp only [Act.put, k_a, k_b, k_c]) | ((first | refine sWS ?_ | refine sWT ?_); clear HX; intro w HX; simp only [Act.put, k_a, k_b, k_c, setMany, Nat.reduceAdd, NodeS.cells, OpS.cells, ResS.cells] at HX ⊢) | (refine sWA ?_; clear HX; (first | (have hq := b; clear hq; intro w b2 HX) | intro w b HX); simp only [Act.put, k_a, k_b, k_c]) | ((first | (refine sWN ?_; clear HX; intro w mm HX) | (refine sWP ?_; clear HX; intro w av nv cv HX)); simp only [Act.put, k_a, k_b, k_c]) | ((with_reducible apply sx_loadAt hl); (· rfl); (· rfl); simp only [Act.put, k_a, k_b, k_c]))
          have h9 := (rt_shut HX.out.up3.up3 HE.out.1).up3
          clear HX hl
          have HX := Lib.hid h9
          clear h9
          go_wp2_with (first | go_skip | (refine sWL ?_; simp only [Act.put, k_a, k_b, k_c, k_d, k_e, k_f, k_g, k_h, NodeS.cells, OpS.cells, ResS.cells]) | (refine sWM ?_; simp only [Act.put, k_a, k_b, k_c]) | ((first | refine sWS ?_ | refine sWT ?_); clear HX; intro w HX; simp only [Act.put, k_a, k_b, k_c, setMany, Nat.reduceAdd, NodeS.cells, OpS.cells, ResS.cells] at HX ⊢) | (refine sWA ?_; clear HX; (first | (have hq := b; clear hq; intro w b2 HX) | intro w b HX); simp only [Act.put, k_a, k_b, k_c]) | ((first | (refine sWN ?_; clear HX; intro w mm HX) | (refine sWP ?_; clear HX; intro w av nv cv HX)); simp only [Act.put, k_a, k_b, k_c]))
          refine (fail10_any HX.out 7).mono ?_
          rintro e w ⟨rfl, hx⟩
          clear HX
          have HX := Lib.hid hx
          clear hx
          simp only [ResS.cells, failS, noSt]
          go_wp2_with (first | go_skip | (refine sWL ?_; simp only [Act.put, k_a, k_b, k_c, k_d, k_e, k_f, k_g, k_h, NodeS.cells, OpS.cells, ResS.cells]) | (refine sWM ?_; simp only [Act.put, k_a, k_b, k_c]) | ((first | refine sWS ?_ | refine sWT ?_); clear HX; intro w HX; simp only [Act.put, k_a, k_b, k_c, setMany, Nat.reduceAdd, NodeS.cells, OpS.cells, ResS.cells] at HX ⊢) | (refine sWA ?_; clear HX; (first | (have hq := b; clear hq; intro w b2 HX) | intro w b HX); simp only [Act.put, k_a, k_b, k_c]) | ((first | (refine sWN ?_; clear HX; intro w mm HX) | (refine sWP ?_; clear HX; intro w av nv cv HX)); simp only [Act.put, k_a, k_b, k_c]))
          refine sx_ret HX rfl rfl (by (repeat (first | (with_reducible exact k_s) | (with_reducible apply k_m)))) (by kernel_rfl) ?_
          refine rres_nil (r := failS 7) rfl ?_
          exact HX.out.pm 6 [0, 1] rfl rfl
        · have q7 : decide (0 < ((nd.names.length : Nat) : Int)) = false := decide_eq_false (by omega)
          have q7' : decide (0 < nd.names.length) = false := decide_eq_false hl7
          obtain rfl : dr = (⟨0, path, ⟨#[]⟩, [], noSt⟩, { S with l := remT path.data.toList S.l }) := by rw [HCH.out]; exact (if_neg HWR.out).trans ((if_neg (fun h => hl7 h.2)).trans (if_pos rfl))
          clear hl7
          go_wp2_with (first | go_skip | (refine sWL ?_; simp only [Act.put, k_a, k_b, k_c, k_d, k_e, k_f, k_g, k_h, NodeS.cells, OpS.cells, ResS.cells]) | (refine sWM ?_; simp only [Act.put, k_a, k_b, k_c]) | ((first | refine sWS ?_ | refine sWT ?_); clear HX; intro w HX; simp only [Act.put, k_a, k_b, k_c, setMany, Nat.reduceAdd, NodeS.cells, OpS.cells, ResS.cells] at HX ⊢) | (refine sWA ?_; clear HX; (first | (have hq := b; clear hq; intro w b2 HX) | intro w b HX); simp only [Act.put, k_a, k_b, k_c]) | ((first | (refine sWN ?_; clear HX; intro w mm HX) | (refine sWP ?_; clear HX; intro w av nv cv HX)); simp only [Act.put, k_a, k_b, k_c]) | ((with_reducible apply sx_loadAt hl); (· rfl); (· rfl); simp only [Act.put, k_a, k_b, k_c]))
          have h9 := (rt_shut HX.out.up3.up3 HE.out.1).up3
          clear HX hl
          have HX := Lib.hid h9
          clear h9
          refine (rtremove_any HX.out k HK.out hn).mono ?_
          rintro e w ⟨rfl, P2, hP2, hx⟩
          rw [rem_del (rise_nodup HR.out.1) HK.out, HK1.out.1] at hx
          clear HX
          have HX := Lib.hid hx
          have HP2 := Lib.hid hP2
          clear hx hP2
          go_wp2_with (first | go_skip | (refine sWL ?_; simp only [Act.put, k_a, k_b, k_c, k_d, k_e, k_f, k_g, k_h, NodeS.cells, OpS.cells, ResS.cells]) | (refine sWM ?_; simp only [Act.put, k_a, k_b, k_c]) | ((first | refine sWS ?_ | refine sWT ?_); clear HX; intro w HX; simp only [Act.put, k_a, k_b, k_c, setMany, Nat.reduceAdd, NodeS.cells, OpS.cells, ResS.cells] at HX ⊢) | (refine sWA ?_; clear HX; (first | (have hq := b; clear hq; intro w b2 HX) | intro w b HX); simp only [Act.put, k_a, k_b, k_c]) | ((first | (refine sWN ?_; clear HX; intro w mm HX) | (refine sWP ?_; clear HX; intro w av nv cv HX)); simp only [Act.put, k_a, k_b, k_c]))
          refine (orphan_any HX.out path hp (delT_rise HR.out.1) (del_ok HR.out.2) (Nat.le_trans (List.length_filter_le _ _) hn)).mono ?_
          rintro e w ⟨rfl, P3, hP3, hx⟩
          clear HX
          have HX := Lib.hid hx
          have HP3 := Lib.hid hP3
          clear hx hP3
          go_wp2_with (first | go_skip | (refine sWL ?_; simp only [Act.put, k_a, k_b, k_c, k_d, k_e, k_f, k_g, k_h, NodeS.cells, OpS.cells, ResS.cells]) | (refine sWM ?_; simp only [Act.put, k_a, k_b, k_c]) | ((first | refine sWS ?_ | refine sWT ?_); clear HX; intro w HX; simp only [Act.put, k_a, k_b, k_c, setMany, Nat.reduceAdd, NodeS.cells, OpS.cells, ResS.cells] at HX ⊢) | (refine sWA ?_; clear HX; (first | (have hq := b; clear hq; intro w b2 HX) | intro w b HX); simp only [Act.put, k_a, k_b, k_c]) | ((first | (refine sWN ?_; clear HX; intro w mm HX) | (refine sWP ?_; clear HX; intro w av nv cv HX)); simp only [Act.put, k_a, k_b, k_c]))
          refine sx_ret HX rfl rfl (by (repeat (first | (with_reducible exact k_s) | (with_reducible apply k_m)))) (by kernel_rfl) ?_
          exact rres_mono (fun q hq => HP3.out q (HP2.out q hq)) (rres_nil (r := ⟨0, path, ⟨#[]⟩, [], noSt⟩) rfl (HX.out.pm 6 [0, 1] rfl rfl))
      | true =>
        cases z2 with
        | true =>
          obtain rfl : dr = (failS 6, S) := by rw [HCH.out]; exact if_pos (by unfold wrongS; rw [hz1, hz2]; rfl)
          go_wp2_with (first | go_skip | (refine sWL ?_; simp only [Act.put, k_a, k_b, k_c, k_d, k_e, k_f, k_g, k_h, NodeS.cells, OpS.cells, ResS.cells]) | (refine sWM ?_; simp only [Act.put, k_a, k_b, k_c]) | ((first | refine sWS ?_ | refine sWT ?_); clear HX; intro w HX; simp only [Act.put, k_a, k_b, k_c, setMany, Nat.reduceAdd, NodeS.cells, OpS.cells, ResS.cells] at HX ⊢) | (refine sWA ?_; clear HX; (first | (have hq := b; clear hq; intro w b2 HX) | intro w b HX); simp only [Act.put, k_a, k_b, k_c]) | ((first | (refine sWN ?_; clear HX; intro w mm HX) | (refine sWP ?_; clear HX; intro w av nv cv HX)); simp only [Act.put, k_a, k_b, k_c]) | ((with_reducible apply sx_loadAt hl); (· rfl); (· rfl); simp only [Act.put, k_a, k_b, k_c]))
          have h9 := (rt_shut HX.out.up2.up2 HE.out.1).up2
          clear HX hl
          have HX := Lib.hid h9
          clear h9
          go_wp2_with (first | go_skip | (refine sWL ?_; simp only [Act.put, k_a, k_b, k_c, k_d, k_e, k_f, k_g, k_h, NodeS.cells, OpS.cells, ResS.cells]) | (refine sWM ?_; simp only [Act.put, k_a, k_b, k_c]) | ((first | refine sWS ?_ | refine sWT ?_); clear HX; intro w HX; simp only [Act.put, k_a, k_b, k_c, setMany, Nat.reduceAdd, NodeS.cells, OpS.cells, ResS.cells] at HX ⊢) | (refine sWA ?_; clear HX; (first | (have hq := b; clear hq; intro w b2 HX) | intro w b HX); simp only [Act.put, k_a, k_b, k_c]) | ((first | (refine sWN ?_; clear HX; intro w mm HX) | (refine sWP ?_; clear HX; intro w av nv cv HX)); simp only [Act.put, k_a, k_b, k_c]))
          refine (fail10_any HX.out 6).mono ?_
          rintro e w ⟨rfl, hx⟩
          clear HX
          have HX := Lib.hid hx
          clear hx
          simp only [ResS.cells, failS, noSt]
          go_wp2_with (first | go_skip | (refine sWL ?_; simp only [Act.put, k_a, k_b, k_c, k_d, k_e, k_f, k_g, k_h, NodeS.cells, OpS.cells, ResS.cells]) | (refine sWM ?_; simp only [Act.put, k_a, k_b, k_c]) | ((first | refine sWS ?_ | refine sWT ?_); clear HX; intro w HX; simp only [Act.put, k_a, k_b, k_c, setMany, Nat.reduceAdd, NodeS.cells, OpS.cells, ResS.cells] at HX ⊢) | (refine sWA ?_; clear HX; (first | (have hq := b; clear hq; intro w b2 HX) | intro w b HX); simp only [Act.put, k_a, k_b, k_c]) | ((first | (refine sWN ?_; clear HX; intro w mm HX) | (refine sWP ?_; clear HX; intro w av nv cv HX)); simp only [Act.put, k_a, k_b, k_c]))
          refine sx_ret HX rfl rfl (by (repeat (first | (with_reducible exact k_s) | (with_reducible apply k_m)))) (by kernel_rfl) ?_
          refine rres_nil (r := failS 6) rfl ?_
          exact HX.out.pm 5 [0, 1] rfl rfl
        | false =>
          have HWR := Lib.hid (show ¬ wrongS ⟨2, path, data, ver, flags⟩ nd = true by unfold wrongS; rw [hz1, hz2]; exact Bool.false_ne_true)
          by_cases hl7 : 0 < nd.names.length
          · have q7 : decide (0 < ((nd.names.length : Nat) : Int)) = true := decide_eq_true (by omega)
            have q7' : decide (0 < nd.names.length) = true := decide_eq_true hl7
            obtain rfl : dr = (failS 7, S) := by rw [HCH.out]; exact (if_neg HWR.out).trans (if_pos ⟨rfl, hl7⟩)
            go_wp2_with (first | go_skip | (refine sWL ?_; simp only [Act.put, k_a, k_b, k_c, k_d, k_e, k_f, k_g, k_h, NodeS.cells, OpS.cells, ResS.cells]) | (refine sWM ?_; simp only [Act.put, k_a, k_b, k_c]) | ((first | refine sWS ?_ | refine sWT ?_); clear HX; intro w HX; simp only [Act.put, k_a, k_b, k_c, setMany, Nat.reduceAdd, NodeS.cells, OpS.cells, ResS.cells] at HX ⊢) | (refine sWA ?_; clear HX; (first | (have hq := b; clear hq; intro w b2 HX) | intro w b HX); simp only [Act.put, k_a, k_b, k_c]) | ((first | (refine sWN ?_; clear HX; intro w mm HX) | (refine sWP ?_; clear HX; intro w av nv cv HX)); simp only [Act.put, k_a, k_b, k_c]) | ((with_reducible apply sx_loadAt hl); (· rfl); (· rfl); simp only [Act.put, k_a, k_b, k_c]))
            have h9 := (rt_shut HX.out.up3.up3 HE.out.1).up3
            clear HX hl
            have HX := Lib.hid h9
            clear h9
            go_wp2_with (first | go_skip | (refine sWL ?_; simp only [Act.put, k_a, k_b, k_c, k_d, k_e, k_f, k_g, k_h, NodeS.cells, OpS.cells, ResS.cells]) | (refine sWM ?_; simp only [Act.put, k_a, k_b, k_c]) | ((first | refine sWS ?_ | refine sWT ?_); clear HX; intro w HX; simp only [Act.put, k_a, k_b, k_c, setMany, Nat.reduceAdd, NodeS.cells, OpS.cells, ResS.cells] at HX ⊢) | (refine sWA ?_; clear HX; (first | (have hq := b; clear hq; intro w b2 HX) | intro w b HX); simp only [Act.put, k_a, k_b, k_c]) | ((first | (refine sWN ?_; clear HX; intro w mm HX) | (refine sWP ?_; clear HX; intro w av nv cv HX)); simp only [Act.put, k_a, k_b, k_c]))
            refine (fail10_any HX.out 7).mono ?_
            rintro e w ⟨rfl, hx⟩
            clear HX
            have HX := Lib.hid hx
            clear hx
            simp only [ResS.cells, failS, noSt]
            go_wp2_with (first | go_skip | (refine sWL ?_; simp only [Act.put, k_a, k_b, k_c, k_d, k_e, k_f, k_g, k_h, NodeS.cells, OpS.cells, ResS.cells]) | (refine sWM ?_; simp only [Act.put, k_a, k_b, k_c]) | ((first | refine sWS ?_ | refine sWT ?_); clear HX; intro w HX; simp only [Act.put, k_a, k_b, k_c, setMany, Nat.reduceAdd, NodeS.cells, OpS.cells, ResS.cells] at HX ⊢) | (refine sWA ?_; clear HX; (first | (have hq := b; clear hq; intro w b2 HX) | intro w b HX); simp only [Act.put, k_a, k_b, k_c]) | ((first | (refine sWN ?_; clear HX; intro w mm HX) | (refine sWP ?_; clear HX; intro w av nv cv HX)); simp only [Act.put, k_a, k_b, k_c]))
            refine sx_ret HX rfl rfl (by (repeat (first | (with_reducible exact k_s) | (with_reducible apply k_m)))) (by kernel_rfl) ?_
            refine rres_nil (r := failS 7) rfl ?_
            exact HX.out.pm 6 [0, 1] rfl rfl
          · have q7 : decide (0 < ((nd.names.length : Nat) : Int)) = false := decide_eq_false (by omega)
            have q7' : decide (0 < nd.names.length) = false := decide_eq_false hl7
            obtain rfl : dr = (⟨0, path, ⟨#[]⟩, [], noSt⟩, { S with l := remT path.data.toList S.l }) := by rw [HCH.out]; exact (if_neg HWR.out).trans ((if_neg (fun h => hl7 h.2)).trans (if_pos rfl))
            clear hl7
            go_wp2_with (first | go_skip | (refine sWL ?_; simp only [Act.put, k_a, k_b, k_c, k_d, k_e, k_f, k_g, k_h, NodeS.cells, OpS.cells, ResS.cells]) | (refine sWM ?_; simp only [Act.put, k_a, k_b, k_c]) | ((first | refine sWS ?_ | refine sWT ?_); clear HX; intro w HX; simp only [Act.put, k_a, k_b, k_c, setMany, Nat.reduceAdd, NodeS.cells, OpS.cells, ResS.cells] at HX ⊢) | (refine sWA ?_; clear HX; (first | (have hq := b; clear hq; intro w b2 HX) | intro w b HX); simp only [Act.put, k_a, k_b, k_c]) | ((first | (refine sWN ?_; clear HX; intro w mm HX) | (refine sWP ?_; clear HX; intro w av nv cv HX)); simp only [Act.put, k_a, k_b, k_c]) | ((with_reducible apply sx_loadAt hl); (· rfl); (· rfl); simp only [Act.put, k_a, k_b, k_c]))
            have h9 := (rt_shut HX.out.up3.up3 HE.out.1).up3
            clear HX hl
            have HX := Lib.hid h9
            clear h9
            refine (rtremove_any HX.out k HK.out hn).mono ?_
            rintro e w ⟨rfl, P2, hP2, hx⟩
            rw [rem_del (rise_nodup HR.out.1) HK.out, HK1.out.1] at hx
            clear HX
            have HX := Lib.hid hx
            have HP2 := Lib.hid hP2
            clear hx hP2
            go_wp2_with (first | go_skip | (refine sWL ?_; simp only [Act.put, k_a, k_b, k_c, k_d, k_e, k_f, k_g, k_h, NodeS.cells, OpS.cells, ResS.cells]) | (refine sWM ?_; simp only [Act.put, k_a, k_b, k_c]) | ((first | refine sWS ?_ | refine sWT ?_); clear HX; intro w HX; simp only [Act.put, k_a, k_b, k_c, setMany, Nat.reduceAdd, NodeS.cells, OpS.cells, ResS.cells] at HX ⊢) | (refine sWA ?_; clear HX; (first | (have hq := b; clear hq; intro w b2 HX) | intro w b HX); simp only [Act.put, k_a, k_b, k_c]) | ((first | (refine sWN ?_; clear HX; intro w mm HX) | (refine sWP ?_; clear HX; intro w av nv cv HX)); simp only [Act.put, k_a, k_b, k_c]))
            refine (orphan_any HX.out path hp (delT_rise HR.out.1) (del_ok HR.out.2) (Nat.le_trans (List.length_filter_le _ _) hn)).mono ?_
            rintro e w ⟨rfl, P3, hP3, hx⟩
            clear HX
            have HX := Lib.hid hx
            have HP3 := Lib.hid hP3
            clear hx hP3
            go_wp2_with (first | go_skip | (refine sWL ?_; simp only [Act.put, k_a, k_b, k_c, k_d, k_e, k_f, k_g, k_h, NodeS.cells, OpS.cells, ResS.cells]) | (refine sWM ?_; simp only [Act.put, k_a, k_b, k_c]) | ((first | refine sWS ?_ | refine sWT ?_); clear HX; intro w HX; simp only [Act.put, k_a, k_b, k_c, setMany, Nat.reduceAdd, NodeS.cells, OpS.cells, ResS.cells] at HX ⊢) | (refine sWA ?_; clear HX; (first | (have hq := b; clear hq; intro w b2 HX) | intro w b HX); simp only [Act.put, k_a, k_b, k_c]) | ((first | (refine sWN ?_; clear HX; intro w mm HX) | (refine sWP ?_; clear HX; intro w av nv cv HX)); simp only [Act.put, k_a, k_b, k_c]))
            refine sx_ret HX rfl rfl (by (repeat (first | (with_reducible exact k_s) | (with_reducible apply k_m)))) (by kernel_rfl) ?_
            exact rres_mono (fun q hq => HP3.out q (HP2.out q hq)) (rres_nil (r := ⟨0, path, ⟨#[]⟩, [], noSt⟩) rfl (HX.out.pm 6 [0, 1] rfl rfl))
    · have HCH := Lib.hid (show dr = _ from ((HDO.out.symm).trans (do_change HGE.out HH1.out (by dsimp only; omega))).trans (change_some HK1.out.2))
      obtain ⟨z1, hz1⟩ : ∃ z, (ver != -1) = z := ⟨_, rfl⟩
      obtain ⟨z2, hz2⟩ : ∃ z, (ver != nd.ver) = z := ⟨_, rfl⟩
      cases z1 with
      | false =>
        have HWR := Lib.hid (show ¬ wrongS ⟨3, path, data, ver, flags⟩ nd = true by unfold wrongS; rw [hz1]; exact Bool.false_ne_true)
        clear hz2
        obtain rfl : dr = (⟨0, path, ⟨#[]⟩, [], (writeS nd zxid data).st⟩, { S with l := setT path.data.toList (writeS nd zxid data) S.l }) := by rw [HCH.out]; exact (if_neg HWR.out).trans ((if_neg (fun h => absurd h.1 (show ¬ (3 : Int) = 2 by decide))).trans ((if_neg (show ¬ (3 : Int) = 2 by decide)).trans (if_pos rfl)))
        go_wp2_with (first | go_skip | (refine sWL ?_; simp only [Act.put, k_a, k_b, k_c, k_d, k_e, k_f, k_g, k_h, NodeS.cells, OpS.cells, ResS.cells]) | (refine sWM ?_; simp only [Act.put, k_a, k_b, k_c]) | ((first | refine sWS ?_ | refine sWT ?_); clear HX; intro w HX; simp only [Act.put, k_a, k_b, k_c, setMany, Nat.reduceAdd, NodeS.cells, OpS.cells, ResS.cells] at HX ⊢) | (refine sWA ?_; clear HX; (first | (have hq := b; clear hq; intro w b2 HX) | intro w b HX); simp only [Act.put, k_a, k_b, k_c]) | ((first | (refine sWN ?_; clear HX; intro w mm HX) | (refine sWP ?_; clear HX; intro w av nv cv HX)); simp only [Act.put, k_a, k_b, k_c]) | ((with_reducible apply sx_loadAt hl); (· rfl); (· rfl); simp only [Act.put, k_a, k_b, k_c]))
        refine (write10_any HX.out nd na nd.names.length nc zxid data HK2.out.ver).mono ?_
        rintro e w ⟨rfl, hx⟩
        clear HX hl
        have HX := Lib.hid hx
        clear hx
        unfold NodeS.val NodeS.cells
        go_wp2_with (first | go_skip | (refine sWL ?_; simp only [Act.put, k_a, k_b, k_c, k_d, k_e, k_f, k_g, k_h, NodeS.cells, OpS.cells, ResS.cells]) | (refine sWM ?_; simp only [Act.put, k_a, k_b, k_c]) | ((first | refine sWS ?_ | refine sWT ?_); clear HX; intro w HX; simp only [Act.put, k_a, k_b, k_c, setMany, Nat.reduceAdd, NodeS.cells, OpS.cells, ResS.cells] at HX ⊢) | (refine sWA ?_; clear HX; (first | (have hq := b; clear hq; intro w b2 HX) | intro w b HX); simp only [Act.put, k_a, k_b, k_c]) | ((first | (refine sWN ?_; clear HX; intro w mm HX) | (refine sWP ?_; clear HX; intro w av nv cv HX)); simp only [Act.put, k_a, k_b, k_c]))
        have h9 := HX.out.up3
        clear HX
        have HX := Lib.hid h9
        clear h9
        refine wp_region_M (fun W => W = w.drew) 6 (by kernel_rfl) ?_
        replace HX := Lib.hid HX.out.drew
        generalize w.drew = w at HX ⊢
        refine wpAnyM_take (by kernel_rfl) (by intro c a d v w h; cases d <;> exact h) [(0, false), (1, false), (2, false), (3, true), (4, false), (5, true)] (fuel := 3) (by kernel_rfl) ?_
        apply Exists.intro; refine ⟨?_, rfl, ?_⟩
        · iterate 6 (refine yD ?_)
          exact rfl
        refine wpAnyM_of_any _ _ _ _ (by decide) ?_
        refine wpAny_list [6, 7, 8] (fuel := 0) (by kernel_rfl) ?_
        simp only [List.filterMap_cons, List.filterMap_nil, k_i, k_j, k_k]
        go_step
        first
          | with_reducible apply sx_rowPut (i := k * 11 + 1) (vs := ((writeS nd zxid data).cells (.slice na nd.names.length nc)).toList) HX
          | (go_step; with_reducible apply sx_rowPut (i := k * 11 + 1) (vs := ((writeS nd zxid data).cells (.slice na nd.names.length nc)).toList) HX)
          | (go_step; go_step; with_reducible apply sx_rowPut (i := k * 11 + 1) (vs := ((writeS nd zxid data).cells (.slice na nd.names.length nc)).toList) HX)
          | (go_step; go_step; go_step; with_reducible apply sx_rowPut (i := k * 11 + 1) (vs := ((writeS nd zxid data).cells (.slice na nd.names.length nc)).toList) HX)
        · rfl
        · omega
        · show Value.agg _ = Value.agg _
          exact congrArg Value.agg Array.toArray_toList.symm
        · rfl
        · kernel_rfl
        · intro u hu
          simp only [NodeS.cells, List.mem_cons, List.not_mem_nil, or_false] at hu
          rcases hu with rfl | rfl | rfl | rfl | rfl | rfl | rfl | rfl | rfl | rfl <;> rfl
        · show k * 11 + 1 + 10 ≤ S.l.length * 11
          have := HK.out
          omega
        clear HX
        intro w HX
        simp only [Act.put, k_a, k_b, k_c] at HX ⊢
        go_wp2_with (first | go_skip | (refine sWL ?_; simp only [Act.put, k_a, k_b, k_c, k_d, k_e, k_f, k_g, k_h, NodeS.cells, OpS.cells, ResS.cells]) | (refine sWM ?_; simp only [Act.put, k_a, k_b, k_c]) | ((first | refine sWS ?_ | refine sWT ?_); clear HX; intro w HX; simp only [Act.put, k_a, k_b, k_c, setMany, Nat.reduceAdd, NodeS.cells, OpS.cells, ResS.cells] at HX ⊢) | (refine sWA ?_; clear HX; (first | (have hq := b; clear hq; intro w b2 HX) | intro w b HX); simp only [Act.put, k_a, k_b, k_c]) | ((first | (refine sWN ?_; clear HX; intro w mm HX) | (refine sWP ?_; clear HX; intro w av nv cv HX)); simp only [Act.put, k_a, k_b, k_c]))
        refine sx_ret HX rfl rfl (by (repeat (first | (with_reducible exact k_s) | (with_reducible apply k_m)))) (by kernel_rfl) ?_
        refine rres_nil (r := ⟨0, path, ⟨#[]⟩, [], (writeS nd zxid data).st⟩) rfl ?_
        have hset : S.l.set k (path.data.toList, writeS nd zxid data) = S.l.set k (S.l[k]'HK.out |>.1, writeS nd zxid data) := by rw [HK1.out.1]
        have h5 := HX.out.up3
        rw [← show (S.l.set k (path.data.toList, writeS nd zxid data)).length = S.l.length from List.length_set ..] at h5
        have h6 := (rt_shut (S := { S with l := S.l.set k (path.data.toList, writeS nd zxid data) }) h5 (by
          rw [hset]
          exact HE.out.1.setN HK.out HN1.out))
        have h7 : setT path.data.toList (writeS nd zxid data) S.l = S.l.set k (path.data.toList, writeS nd zxid data) := by rw [hset, set_setT (rise_nodup HR.out.1) HK.out, HK1.out.1]
        show Sep w0 w (ThPool w0 P :: ThRt b { S with l := setT path.data.toList (writeS nd zxid data) S.l } P :: R) rows
        rw [h7]
        exact h6.pm 6 [3, 0] rfl rfl
      | true =>
        cases z2 with
        | true =>
          obtain rfl : dr = (failS 6, S) := by rw [HCH.out]; exact if_pos (by unfold wrongS; rw [hz1, hz2]; rfl)
          go_wp2_with (first | go_skip | (refine sWL ?_; simp only [Act.put, k_a, k_b, k_c, k_d, k_e, k_f, k_g, k_h, NodeS.cells, OpS.cells, ResS.cells]) | (refine sWM ?_; simp only [Act.put, k_a, k_b, k_c]) | ((first | refine sWS ?_ | refine sWT ?_); clear HX; intro w HX; simp only [Act.put, k_a, k_b, k_c, setMany, Nat.reduceAdd, NodeS.cells, OpS.cells, ResS.cells] at HX ⊢) | (refine sWA ?_; clear HX; (first | (have hq := b; clear hq; intro w b2 HX) | intro w b HX); simp only [Act.put, k_a, k_b, k_c]) | ((first | (refine sWN ?_; clear HX; intro w mm HX) | (refine sWP ?_; clear HX; intro w av nv cv HX)); simp only [Act.put, k_a, k_b, k_c]) | ((with_reducible apply sx_loadAt hl); (· rfl); (· rfl); simp only [Act.put, k_a, k_b, k_c]))
          have h9 := (rt_shut HX.out.up2.up2 HE.out.1).up2
          clear HX hl
          have HX := Lib.hid h9
          clear h9
          go_wp2_with (first | go_skip | (refine sWL ?_; simp only [Act.put, k_a, k_b, k_c, k_d, k_e, k_f, k_g, k_h, NodeS.cells, OpS.cells, ResS.cells]) | (refine sWM ?_; simp only [Act.put, k_a, k_b, k_c]) | ((first | refine sWS ?_ | refine sWT ?_); clear HX; intro w HX; simp only [Act.put, k_a, k_b, k_c, setMany, Nat.reduceAdd, NodeS.cells, OpS.cells, ResS.cells] at HX ⊢) | (refine sWA ?_; clear HX; (first | (have hq := b; clear hq; intro w b2 HX) | intro w b HX); simp only [Act.put, k_a, k_b, k_c]) | ((first | (refine sWN ?_; clear HX; intro w mm HX) | (refine sWP ?_; clear HX; intro w av nv cv HX)); simp only [Act.put, k_a, k_b, k_c]))
          refine (fail10_any HX.out 6).mono ?_
          rintro e w ⟨rfl, hx⟩
          clear HX
          have HX := Lib.hid hx
          clear hx
          simp only [ResS.cells, failS, noSt]
          go_wp2_with (first | go_skip | (refine sWL ?_; simp only [Act.put, k_a, k_b, k_c, k_d, k_e, k_f, k_g, k_h, NodeS.cells, OpS.cells, ResS.cells]) | (refine sWM ?_; simp only [Act.put, k_a, k_b, k_c]) | ((first | refine sWS ?_ | refine sWT ?_); clear HX; intro w HX; simp only [Act.put, k_a, k_b, k_c, setMany, Nat.reduceAdd, NodeS.cells, OpS.cells, ResS.cells] at HX ⊢) | (refine sWA ?_; clear HX; (first | (have hq := b; clear hq; intro w b2 HX) | intro w b HX); simp only [Act.put, k_a, k_b, k_c]) | ((first | (refine sWN ?_; clear HX; intro w mm HX) | (refine sWP ?_; clear HX; intro w av nv cv HX)); simp only [Act.put, k_a, k_b, k_c]))
          refine sx_ret HX rfl rfl (by (repeat (first | (with_reducible exact k_s) | (with_reducible apply k_m)))) (by kernel_rfl) ?_
          refine rres_nil (r := failS 6) rfl ?_
          exact HX.out.pm 5 [0, 1] rfl rfl
        | false =>
          have HWR := Lib.hid (show ¬ wrongS ⟨3, path, data, ver, flags⟩ nd = true by unfold wrongS; rw [hz1, hz2]; exact Bool.false_ne_true)
          obtain rfl : dr = (⟨0, path, ⟨#[]⟩, [], (writeS nd zxid data).st⟩, { S with l := setT path.data.toList (writeS nd zxid data) S.l }) := by rw [HCH.out]; exact (if_neg HWR.out).trans ((if_neg (fun h => absurd h.1 (show ¬ (3 : Int) = 2 by decide))).trans ((if_neg (show ¬ (3 : Int) = 2 by decide)).trans (if_pos rfl)))
          go_wp2_with (first | go_skip | (refine sWL ?_; simp only [Act.put, k_a, k_b, k_c, k_d, k_e, k_f, k_g, k_h, NodeS.cells, OpS.cells, ResS.cells]) | (refine sWM ?_; simp only [Act.put, k_a, k_b, k_c]) | ((first | refine sWS ?_ | refine sWT ?_); clear HX; intro w HX; simp only [Act.put, k_a, k_b, k_c, setMany, Nat.reduceAdd, NodeS.cells, OpS.cells, ResS.cells] at HX ⊢) | (refine sWA ?_; clear HX; (first | (have hq := b; clear hq; intro w b2 HX) | intro w b HX); simp only [Act.put, k_a, k_b, k_c]) | ((first | (refine sWN ?_; clear HX; intro w mm HX) | (refine sWP ?_; clear HX; intro w av nv cv HX)); simp only [Act.put, k_a, k_b, k_c]) | ((with_reducible apply sx_loadAt hl); (· rfl); (· rfl); simp only [Act.put, k_a, k_b, k_c]))
          refine (write10_any HX.out nd na nd.names.length nc zxid data HK2.out.ver).mono ?_
          rintro e w ⟨rfl, hx⟩
          clear HX hl
          have HX := Lib.hid hx
          clear hx
          unfold NodeS.val NodeS.cells
          go_wp2_with (first | go_skip | (refine sWL ?_; simp only [Act.put, k_a, k_b, k_c, k_d, k_e, k_f, k_g, k_h, NodeS.cells, OpS.cells, ResS.cells]) | (refine sWM ?_; simp only [Act.put, k_a, k_b, k_c]) | ((first | refine sWS ?_ | refine sWT ?_); clear HX; intro w HX; simp only [Act.put, k_a, k_b, k_c, setMany, Nat.reduceAdd, NodeS.cells, OpS.cells, ResS.cells] at HX ⊢) | (refine sWA ?_; clear HX; (first | (have hq := b; clear hq; intro w b2 HX) | intro w b HX); simp only [Act.put, k_a, k_b, k_c]) | ((first | (refine sWN ?_; clear HX; intro w mm HX) | (refine sWP ?_; clear HX; intro w av nv cv HX)); simp only [Act.put, k_a, k_b, k_c]))
          have h9 := HX.out.up3
          clear HX
          have HX := Lib.hid h9
          clear h9
          refine wp_region_M (fun W => W = w.drew) 6 (by kernel_rfl) ?_
          replace HX := Lib.hid HX.out.drew
          generalize w.drew = w at HX ⊢
          refine wpAnyM_take (by kernel_rfl) (by intro c a d v w h; cases d <;> exact h) [(0, false), (1, false), (2, false), (3, true), (4, false), (5, true)] (fuel := 3) (by kernel_rfl) ?_
          apply Exists.intro; refine ⟨?_, rfl, ?_⟩
          · iterate 6 (refine yD ?_)
            exact rfl
          refine wpAnyM_of_any _ _ _ _ (by decide) ?_
          refine wpAny_list [6, 7, 8] (fuel := 0) (by kernel_rfl) ?_
          simp only [List.filterMap_cons, List.filterMap_nil, k_i, k_j, k_k]
          go_step
          first
            | with_reducible apply sx_rowPut (i := k * 11 + 1) (vs := ((writeS nd zxid data).cells (.slice na nd.names.length nc)).toList) HX
            | (go_step; with_reducible apply sx_rowPut (i := k * 11 + 1) (vs := ((writeS nd zxid data).cells (.slice na nd.names.length nc)).toList) HX)
            | (go_step; go_step; with_reducible apply sx_rowPut (i := k * 11 + 1) (vs := ((writeS nd zxid data).cells (.slice na nd.names.length nc)).toList) HX)
            | (go_step; go_step; go_step; with_reducible apply sx_rowPut (i := k * 11 + 1) (vs := ((writeS nd zxid data).cells (.slice na nd.names.length nc)).toList) HX)
          · rfl
          · omega
          · show Value.agg _ = Value.agg _
            exact congrArg Value.agg Array.toArray_toList.symm
          · rfl
          · kernel_rfl
          · intro u hu
            simp only [NodeS.cells, List.mem_cons, List.not_mem_nil, or_false] at hu
            rcases hu with rfl | rfl | rfl | rfl | rfl | rfl | rfl | rfl | rfl | rfl <;> rfl
          · show k * 11 + 1 + 10 ≤ S.l.length * 11
            have := HK.out
            omega
          clear HX
          intro w HX
          simp only [Act.put, k_a, k_b, k_c] at HX ⊢
          go_wp2_with (first | go_skip | (refine sWL ?_; simp only [Act.put, k_a, k_b, k_c, k_d, k_e, k_f, k_g, k_h, NodeS.cells, OpS.cells, ResS.cells]) | (refine sWM ?_; simp only [Act.put, k_a, k_b, k_c]) | ((first | refine sWS ?_ | refine sWT ?_); clear HX; intro w HX; simp only [Act.put, k_a, k_b, k_c, setMany, Nat.reduceAdd, NodeS.cells, OpS.cells, ResS.cells] at HX ⊢) | (refine sWA ?_; clear HX; (first | (have hq := b; clear hq; intro w b2 HX) | intro w b HX); simp only [Act.put, k_a, k_b, k_c]) | ((first | (refine sWN ?_; clear HX; intro w mm HX) | (refine sWP ?_; clear HX; intro w av nv cv HX)); simp only [Act.put, k_a, k_b, k_c]))
          refine sx_ret HX rfl rfl (by (repeat (first | (with_reducible exact k_s) | (with_reducible apply k_m)))) (by kernel_rfl) ?_
          refine rres_nil (r := ⟨0, path, ⟨#[]⟩, [], (writeS nd zxid data).st⟩) rfl ?_
          have hset : S.l.set k (path.data.toList, writeS nd zxid data) = S.l.set k (S.l[k]'HK.out |>.1, writeS nd zxid data) := by rw [HK1.out.1]
          have h5 := HX.out.up3
          rw [← show (S.l.set k (path.data.toList, writeS nd zxid data)).length = S.l.length from List.length_set ..] at h5
          have h6 := (rt_shut (S := { S with l := S.l.set k (path.data.toList, writeS nd zxid data) }) h5 (by
            rw [hset]
            exact HE.out.1.setN HK.out HN1.out))
          have h7 : setT path.data.toList (writeS nd zxid data) S.l = S.l.set k (path.data.toList, writeS nd zxid data) := by rw [hset, set_setT (rise_nodup HR.out.1) HK.out, HK1.out.1]
          show Sep w0 w (ThPool w0 P :: ThRt b { S with l := setT path.data.toList (writeS nd zxid data) S.l } P :: R) rows
          rw [h7]
          exact h6.pm 6 [3, 0] rfl rfl
    · have HCH := Lib.hid (show dr = _ from ((HDO.out.symm).trans (do_change HGE.out HH1.out (by dsimp only; omega))).trans (change_some HK1.out.2))
      obtain ⟨z1, hz1⟩ : ∃ z, (ver != -1) = z := ⟨_, rfl⟩
      obtain ⟨z2, hz2⟩ : ∃ z, (ver != nd.ver) = z := ⟨_, rfl⟩
      cases z1 with
      | false =>
        have HWR := Lib.hid (show ¬ wrongS ⟨4, path, data, ver, flags⟩ nd = true by unfold wrongS; rw [hz1]; exact Bool.false_ne_true)
        clear hz2
        obtain rfl : dr = (⟨0, path, ⟨#[]⟩, [], noSt⟩, S) := by rw [HCH.out]; exact (if_neg HWR.out).trans ((if_neg (fun h => absurd h.1 (show ¬ (4 : Int) = 2 by decide))).trans ((if_neg (show ¬ (4 : Int) = 2 by decide)).trans (if_neg (show ¬ (4 : Int) = 3 by decide))))
        go_wp2_with (first | go_skip | (refine sWL ?_; simp only [Act.put, k_a, k_b, k_c, k_d, k_e, k_f, k_g, k_h, NodeS.cells, OpS.cells, ResS.cells]) | (refine sWM ?_; simp only [Act.put, k_a, k_b, k_c]) | ((first | refine sWS ?_ | refine sWT ?_); clear HX; intro w HX; simp only [Act.put, k_a, k_b, k_c, setMany, Nat.reduceAdd, NodeS.cells, OpS.cells, ResS.cells] at HX ⊢) | (refine sWA ?_; clear HX; (first | (have hq := b; clear hq; intro w b2 HX) | intro w b HX); simp only [Act.put, k_a, k_b, k_c]) | ((first | (refine sWN ?_; clear HX; intro w mm HX) | (refine sWP ?_; clear HX; intro w av nv cv HX)); simp only [Act.put, k_a, k_b, k_c]) | ((with_reducible apply sx_loadAt hl); (· rfl); (· rfl); simp only [Act.put, k_a, k_b, k_c]))
        refine sx_ret HX rfl rfl (by (repeat (first | (with_reducible exact k_s) | (with_reducible apply k_m)))) (by kernel_rfl) ?_
        exact rres_nil (r := ⟨0, path, ⟨#[]⟩, [], noSt⟩) rfl ((rt_shut HX.out.up3.up3 HE.out.1).pm 6 [3, 0] rfl rfl)
      | true =>
        cases z2 with
        | true =>
          obtain rfl : dr = (failS 6, S) := by rw [HCH.out]; exact if_pos (by unfold wrongS; rw [hz1, hz2]; rfl)
          go_wp2_with (first | go_skip | (refine sWL ?_; simp only [Act.put, k_a, k_b, k_c, k_d, k_e, k_f, k_g, k_h, NodeS.cells, OpS.cells, ResS.cells]) | (refine sWM ?_; simp only [Act.put, k_a, k_b, k_c]) | ((first | refine sWS ?_ | refine sWT ?_); clear HX; intro w HX; simp only [Act.put, k_a, k_b, k_c, setMany, Nat.reduceAdd, NodeS.cells, OpS.cells, ResS.cells] at HX ⊢) | (refine sWA ?_; clear HX; (first | (have hq := b; clear hq; intro w b2 HX) | intro w b HX); simp only [Act.put, k_a, k_b, k_c]) | ((first | (refine sWN ?_; clear HX; intro w mm HX) | (refine sWP ?_; clear HX; intro w av nv cv HX)); simp only [Act.put, k_a, k_b, k_c]) | ((with_reducible apply sx_loadAt hl); (· rfl); (· rfl); simp only [Act.put, k_a, k_b, k_c]))
          have h9 := (rt_shut HX.out.up2.up2 HE.out.1).up2
          clear HX hl
          have HX := Lib.hid h9
          clear h9
          go_wp2_with (first | go_skip | (refine sWL ?_; simp only [Act.put, k_a, k_b, k_c, k_d, k_e, k_f, k_g, k_h, NodeS.cells, OpS.cells, ResS.cells]) | (refine sWM ?_; simp only [Act.put, k_a, k_b, k_c]) | ((first | refine sWS ?_ | refine sWT ?_); clear HX; intro w HX; simp only [Act.put, k_a, k_b, k_c, setMany, Nat.reduceAdd, NodeS.cells, OpS.cells, ResS.cells] at HX ⊢) | (refine sWA ?_; clear HX; (first | (have hq := b; clear hq; intro w b2 HX) | intro w b HX); simp only [Act.put, k_a, k_b, k_c]) | ((first | (refine sWN ?_; clear HX; intro w mm HX) | (refine sWP ?_; clear HX; intro w av nv cv HX)); simp only [Act.put, k_a, k_b, k_c]))
          refine (fail10_any HX.out 6).mono ?_
          rintro e w ⟨rfl, hx⟩
          clear HX
          have HX := Lib.hid hx
          clear hx
          simp only [ResS.cells, failS, noSt]
          go_wp2_with (first | go_skip | (refine sWL ?_; simp only [Act.put, k_a, k_b, k_c, k_d, k_e, k_f, k_g, k_h, NodeS.cells, OpS.cells, ResS.cells]) | (refine sWM ?_; simp only [Act.put, k_a, k_b, k_c]) | ((first | refine sWS ?_ | refine sWT ?_); clear HX; intro w HX; simp only [Act.put, k_a, k_b, k_c, setMany, Nat.reduceAdd, NodeS.cells, OpS.cells, ResS.cells] at HX ⊢) | (refine sWA ?_; clear HX; (first | (have hq := b; clear hq; intro w b2 HX) | intro w b HX); simp only [Act.put, k_a, k_b, k_c]) | ((first | (refine sWN ?_; clear HX; intro w mm HX) | (refine sWP ?_; clear HX; intro w av nv cv HX)); simp only [Act.put, k_a, k_b, k_c]))
          refine sx_ret HX rfl rfl (by (repeat (first | (with_reducible exact k_s) | (with_reducible apply k_m)))) (by kernel_rfl) ?_
          refine rres_nil (r := failS 6) rfl ?_
          exact HX.out.pm 5 [0, 1] rfl rfl
        | false =>
          have HWR := Lib.hid (show ¬ wrongS ⟨4, path, data, ver, flags⟩ nd = true by unfold wrongS; rw [hz1, hz2]; exact Bool.false_ne_true)
          obtain rfl : dr = (⟨0, path, ⟨#[]⟩, [], noSt⟩, S) := by rw [HCH.out]; exact (if_neg HWR.out).trans ((if_neg (fun h => absurd h.1 (show ¬ (4 : Int) = 2 by decide))).trans ((if_neg (show ¬ (4 : Int) = 2 by decide)).trans (if_neg (show ¬ (4 : Int) = 3 by decide))))
          go_wp2_with (first | go_skip | (refine sWL ?_; simp only [Act.put, k_a, k_b, k_c, k_d, k_e, k_f, k_g, k_h, NodeS.cells, OpS.cells, ResS.cells]) | (refine sWM ?_; simp only [Act.put, k_a, k_b, k_c]) | ((first | refine sWS ?_ | refine sWT ?_); clear HX; intro w HX; simp only [Act.put, k_a, k_b, k_c, setMany, Nat.reduceAdd, NodeS.cells, OpS.cells, ResS.cells] at HX ⊢) | (refine sWA ?_; clear HX; (first | (have hq := b; clear hq; intro w b2 HX) | intro w b HX); simp only [Act.put, k_a, k_b, k_c]) | ((first | (refine sWN ?_; clear HX; intro w mm HX) | (refine sWP ?_; clear HX; intro w av nv cv HX)); simp only [Act.put, k_a, k_b, k_c]) | ((with_reducible apply sx_loadAt hl); (· rfl); (· rfl); simp only [Act.put, k_a, k_b, k_c]))
          refine sx_ret HX rfl rfl (by (repeat (first | (with_reducible exact k_s) | (with_reducible apply k_m)))) (by kernel_rfl) ?_
          exact rres_nil (r := ⟨0, path, ⟨#[]⟩, [], noSt⟩) rfl ((rt_shut HX.out.up3.up3 HE.out.1).pm 6 [3, 0] rfl rfl)
    · skip
      obtain rfl : dr = (readT S ⟨5, path, data, ver, flags⟩, S) := by rw [← HDO.out]; exact do_read HGE.out HH1.out (by dsimp only; omega)
      have HRD := Lib.hid (show readT S ⟨5, path, data, ver, flags⟩ = ⟨0, path, nd.data, [], nd.st⟩ by unfold readT; rw [show lookT (OpS.p ⟨5, path, data, ver, flags⟩) S.l = some nd from HK1.out.2]; rfl)
      go_wp2_with (first | go_skip | (refine sWL ?_; simp only [Act.put, k_a, k_b, k_c, k_d, k_e, k_f, k_g, k_h, NodeS.cells, OpS.cells, ResS.cells]) | (refine sWM ?_; simp only [Act.put, k_a, k_b, k_c]) | ((first | refine sWS ?_ | refine sWT ?_); clear HX; intro w HX; simp only [Act.put, k_a, k_b, k_c, setMany, Nat.reduceAdd, NodeS.cells, OpS.cells, ResS.cells] at HX ⊢) | (refine sWA ?_; clear HX; (first | (have hq := b; clear hq; intro w b2 HX) | intro w b HX); simp only [Act.put, k_a, k_b, k_c]) | ((first | (refine sWN ?_; clear HX; intro w mm HX) | (refine sWP ?_; clear HX; intro w av nv cv HX)); simp only [Act.put, k_a, k_b, k_c]) | ((with_reducible apply sx_loadAt hl); (· rfl); (· rfl); simp only [Act.put, k_a, k_b, k_c]))
      refine sx_ret HX rfl rfl (by (repeat (first | (with_reducible exact k_s) | (with_reducible apply k_m)))) (by kernel_rfl) ?_
      rw [HRD.out]
      exact rres_nil (r := ⟨0, path, nd.data, [], nd.st⟩) rfl ((rt_shut HX.out.up3.up3 HE.out.1).pm 6 [3, 0] rfl rfl)
    · skip
      obtain rfl : dr = (readT S ⟨6, path, data, ver, flags⟩, S) := by rw [← HDO.out]; exact do_read HGE.out HH1.out (by dsimp only; omega)
      have HRD := Lib.hid (show readT S ⟨6, path, data, ver, flags⟩ = ⟨0, path, ⟨#[]⟩, [], nd.st⟩ by unfold readT; rw [show lookT (OpS.p ⟨6, path, data, ver, flags⟩) S.l = some nd from HK1.out.2]; rfl)
      go_wp2_with (first | go_skip | (refine sWL ?_; simp only [Act.put, k_a, k_b, k_c, k_d, k_e, k_f, k_g, k_h, NodeS.cells, OpS.cells, ResS.cells]) | (refine sWM ?_; simp only [Act.put, k_a, k_b, k_c]) | ((first | refine sWS ?_ | refine sWT ?_); clear HX; intro w HX; simp only [Act.put, k_a, k_b, k_c, setMany, Nat.reduceAdd, NodeS.cells, OpS.cells, ResS.cells] at HX ⊢) | (refine sWA ?_; clear HX; (first | (have hq := b; clear hq; intro w b2 HX) | intro w b HX); simp only [Act.put, k_a, k_b, k_c]) | ((first | (refine sWN ?_; clear HX; intro w mm HX) | (refine sWP ?_; clear HX; intro w av nv cv HX)); simp only [Act.put, k_a, k_b, k_c]) | ((with_reducible apply sx_loadAt hl); (· rfl); (· rfl); simp only [Act.put, k_a, k_b, k_c]))
      refine sx_ret HX rfl rfl (by (repeat (first | (with_reducible exact k_s) | (with_reducible apply k_m)))) (by kernel_rfl) ?_
      rw [HRD.out]
      exact rres_nil (r := ⟨0, path, ⟨#[]⟩, [], nd.st⟩) rfl ((rt_shut HX.out.up3.up3 HE.out.1).pm 6 [3, 0] rfl rfl)
    · skip
      obtain rfl : dr = (readT S ⟨7, path, data, ver, flags⟩, S) := by rw [← HDO.out]; exact do_read HGE.out HH1.out (by dsimp only; omega)
      have HRD := Lib.hid (show readT S ⟨7, path, data, ver, flags⟩ = ⟨0, path, ⟨#[]⟩, nd.names, nd.st⟩ by unfold readT; rw [show lookT (OpS.p ⟨7, path, data, ver, flags⟩) S.l = some nd from HK1.out.2]; rfl)
      go_wp2_with (first | go_skip | (refine sWL ?_; simp only [Act.put, k_a, k_b, k_c, k_d, k_e, k_f, k_g, k_h, NodeS.cells, OpS.cells, ResS.cells]) | (refine sWM ?_; simp only [Act.put, k_a, k_b, k_c]) | ((first | refine sWS ?_ | refine sWT ?_); clear HX; intro w HX; simp only [Act.put, k_a, k_b, k_c, setMany, Nat.reduceAdd, NodeS.cells, OpS.cells, ResS.cells] at HX ⊢) | (refine sWA ?_; clear HX; (first | (have hq := b; clear hq; intro w b2 HX) | intro w b HX); simp only [Act.put, k_a, k_b, k_c]) | ((first | (refine sWN ?_; clear HX; intro w mm HX) | (refine sWP ?_; clear HX; intro w av nv cv HX)); simp only [Act.put, k_a, k_b, k_c]) | ((with_reducible apply sx_loadAt hl); (· rfl); (· rfl); simp only [Act.put, k_a, k_b, k_c]))
      refine sx_ret HX rfl rfl (by (repeat (first | (with_reducible exact k_s) | (with_reducible apply k_m)))) (by kernel_rfl) ?_
      rw [HRD.out]
      exact ⟨.slice na nd.names.length nc, P, rfl, fun q hq => hq, HN1.out, (rt_shut HX.out.up3.up3 HE.out.1).pm 6 [3, 0] rfl rfl⟩
end
end Go.Proofs.YtjeaoopamebgjaaGreatDoor

namespace Go.Proofs.YtjeaoopamebgjaaGreatDoor
open Go.RowKit Go.Av
section
variable {w0 w : World} {P P' : List PRow} {R : List Thing} {rows : List (Value × Bs)}
theorem sn_act : StructN Tryz.prog 70 5 := ⟨by kernel_rfl⟩
theorem z_rreply : zeroB Tryz.prog 70 #[.int .i64 0, .int .i64 0, .int .i64 0, .int .i64 0, .slice none 0 0] := by unfold zeroB; kernel_rfl
def Fail5Rel (w0 : World) (b8 b9 : Nat) (num e at_ : Int) (n : Nat) (P : List PRow) (R : List Thing) (rows : List (Value × Bs)) (k : Nat) (v24 : Value) (w : World) : Prop :=
  ∃ (i : Nat) (xs : List Value) (a : Option Addr) (n' c : Nat), i + k = n ∧ v24 = .int .i64 (i : Int) ∧ ResL ((1, .slice none 0 0, []) :: P) (failRs e at_ i) xs ∧
    Sep w0 w (ThCell b9 (.cells #[.int .i64 num, .int .i64 0, .int .i64 e, .int .i64 at_, .slice a n' c] 70 (0, 0)) :: ThRow 11 (.slice a n' c) xs :: ThCell b8 (.cells #[.int .i64 0, .int .i64 0, .int .i64 0, .int .i64 0, .slice none 0 0] 70 (0, 0)) :: ThPool w0 ((1, .slice none 0 0, []) :: P) :: R) rows
set_option maxRecDepth 100000 in
set_option maxHeartbeats 4000000 in
theorem rfail5_any (h : Sep w0 w (ThPool w0 P :: R) rows) (num e at_ n : Int) :
    Calls Tryz.prog 44 #[.int .i64 num, .int .i64 e, .int .i64 at_, .int .i64 n] w (RepPost w0 P R rows (failR num e at_ n)) := by
  obtain ⟨rr, hrr⟩ : ∃ rr, failR num e at_ n = rr := ⟨_, rfl⟩
  rw [hrr]
  have HR := Lib.hid hrr
  have HX := Lib.hid (h.poolNil 1)
  clear hrr h
  by_cases hn : n < 0 ∨ 16 < n
  · have HE := Lib.hid (show rr = ⟨num, 0, e, at_, []⟩ by rw [← HR.out]; unfold failR; rw [if_pos hn])
    have fin : ∀ w b8 b9, Hid (Sep w0 w (ThCell b9 (.cells #[.int .i64 num, .int .i64 0, .int .i64 e, .int .i64 at_, .slice none 0 0] 70 (0, 0)) :: ThCell b8 (.cells #[.int .i64 num, .int .i64 0, .int .i64 e, .int .i64 at_, .slice none 0 0] 70 (0, 0)) :: ThPool w0 ((1, .slice none 0 0, []) :: P) :: R) rows) → RepPost w0 P R rows rr (.returned (.agg #[.int .i64 num, .int .i64 0, .int .i64 e, .int .i64 at_, .slice none 0 0])) w := fun w b8 b9 HX => by
      have h1 := HX.out.drop.drop.poolNil 11
      rw [HE.out]
      exact ⟨_, _, rfl, fun q hq => k_n _ (k_n _ hq), ⟨none, 0, 0, [], rfl, .nil, k_s⟩, h1⟩
    have FIN := Lib.hid fin
    clear fin HR
    by_cases h1 : n < 0
    · have q1 : decide (n < 0) = true := decide_eq_true h1
      clear h1 hn
      go_enter Tryz.func44, Tryz.ntmps44
      go_wp2_with (first | (refine sWL ?_; simp only [Act.put, k_a, k_b, k_c, k_d, k_e, k_f, k_g, k_h, NodeS.cells, OpS.cells, ResS.cells]) | (refine sWM ?_; simp only [Act.put, k_a, k_b, k_c]) | ((first | refine sWS ?_ | refine sWT ?_); clear HX; intro w HX; simp only [Act.put, k_a, k_b, k_c, setMany, Nat.reduceAdd, NodeS.cells, OpS.cells, ResS.cells] at HX ⊢) | (refine sWA ?_; clear HX; (first | (have hq := b9; clear hq; intro w b10 HX) | (have hq := b8; clear hq; intro w b9 HX) | (have hq := b7; clear hq; intro w b8 HX) | (have hq := b6; clear hq; intro w b7 HX) | (have hq := b5; clear hq; intro w b6 HX) | (have hq := b4; clear hq; intro w b5 HX) | (have hq := b3; clear hq; intro w b4 HX) | (have hq := b2; clear hq; intro w b3 HX) | (have hq := b; clear hq; intro w b2 HX) | intro w b HX); simp only [Act.put, k_a, k_b, k_c]) | ((first | (refine sWN ?_; clear HX; intro w mm HX) | (refine sWP ?_; clear HX; intro w av nv cv HX)); simp only [Act.put, k_a, k_b, k_c]))
      refine sx_ret HX rfl rfl (by (repeat (first | (with_reducible exact k_s) | (with_reducible apply k_m)))) (by kernel_rfl) ?_
      exact FIN.out _ _ _ HX
    · have q1 : decide (n < 0) = false := decide_eq_false h1
      have q2 : decide (16 < n) = true := decide_eq_true (hn.resolve_left h1)
      clear h1 hn
      go_enter Tryz.func44, Tryz.ntmps44
      go_wp2_with (first | (refine sWL ?_; simp only [Act.put, k_a, k_b, k_c, k_d, k_e, k_f, k_g, k_h, NodeS.cells, OpS.cells, ResS.cells]) | (refine sWM ?_; simp only [Act.put, k_a, k_b, k_c]) | ((first | refine sWS ?_ | refine sWT ?_); clear HX; intro w HX; simp only [Act.put, k_a, k_b, k_c, setMany, Nat.reduceAdd, NodeS.cells, OpS.cells, ResS.cells] at HX ⊢) | (refine sWA ?_; clear HX; (first | (have hq := b9; clear hq; intro w b10 HX) | (have hq := b8; clear hq; intro w b9 HX) | (have hq := b7; clear hq; intro w b8 HX) | (have hq := b6; clear hq; intro w b7 HX) | (have hq := b5; clear hq; intro w b6 HX) | (have hq := b4; clear hq; intro w b5 HX) | (have hq := b3; clear hq; intro w b4 HX) | (have hq := b2; clear hq; intro w b3 HX) | (have hq := b; clear hq; intro w b2 HX) | intro w b HX); simp only [Act.put, k_a, k_b, k_c]) | ((first | (refine sWN ?_; clear HX; intro w mm HX) | (refine sWP ?_; clear HX; intro w av nv cv HX)); simp only [Act.put, k_a, k_b, k_c]))
      refine sx_ret HX rfl rfl (by (repeat (first | (with_reducible exact k_s) | (with_reducible apply k_m)))) (by kernel_rfl) ?_
      exact FIN.out _ _ _ HX
  obtain ⟨m, rfl⟩ : ∃ m : Nat, n = (m : Int) := ⟨n.toNat, by omega⟩
  have HM := Lib.hid (show m ≤ 16 by omega)
  have HE := Lib.hid (show rr = ⟨num, 0, e, at_, failRs e at_ m⟩ by rw [← HR.out]; unfold failR; rw [if_neg hn]; rfl)
  have q1 : decide ((m : Int) < 0) = false := decide_eq_false (fun h => hn (.inl h))
  have q2 : decide (16 < (m : Int)) = false := decide_eq_false (fun h => hn (.inr h))
  have q3 : decide (16 < m) = false := decide_eq_false (fun h => hn (.inr (by omega)))
  clear hn HR
  go_enter Tryz.func44, Tryz.ntmps44
  go_wp2_with (first | (refine sWL ?_; simp only [Act.put, k_a, k_b, k_c, k_d, k_e, k_f, k_g, k_h, NodeS.cells, OpS.cells, ResS.cells]) | (refine sWM ?_; simp only [Act.put, k_a, k_b, k_c]) | ((first | refine sWS ?_ | refine sWT ?_); clear HX; intro w HX; simp only [Act.put, k_a, k_b, k_c, setMany, Nat.reduceAdd, NodeS.cells, OpS.cells, ResS.cells] at HX ⊢) | (refine sWA ?_; clear HX; (first | (have hq := b9; clear hq; intro w b10 HX) | (have hq := b8; clear hq; intro w b9 HX) | (have hq := b7; clear hq; intro w b8 HX) | (have hq := b6; clear hq; intro w b7 HX) | (have hq := b5; clear hq; intro w b6 HX) | (have hq := b4; clear hq; intro w b5 HX) | (have hq := b3; clear hq; intro w b4 HX) | (have hq := b2; clear hq; intro w b3 HX) | (have hq := b; clear hq; intro w b2 HX) | intro w b HX); simp only [Act.put, k_a, k_b, k_c]) | ((first | (refine sWN ?_; clear HX; intro w mm HX) | (refine sWP ?_; clear HX; intro w av nv cv HX)); simp only [Act.put, k_a, k_b, k_c]))
  have HST := Lib.hid (show Fail5Rel w0 b b2 num e at_ m P R rows m (.int .i64 (0 : Int)) w from ⟨0, [], none, 0, 0, by simp, rfl, .nil, (HX.out.nilRow 11).up1⟩)
  clear HX
  go_loopg [10] m (fun k v24 wr => Fail5Rel w0 b b2 num e at_ m P R rows k v24 wr)
  case atStart => exact HST.out
  case round =>
    obtain ⟨i, xs, a, n', c, hik, rfl, hrl, hS⟩ := hrel
    have HRL := Lib.hid hrl
    have HX := Lib.hid hS
    clear hrl hS
    by_cases hlt : i < m
    case neg =>
      obtain rfl : i = m := by omega
      clear hlt hik
      go_wp2_with (first | (refine sWL ?_; simp only [Act.put, k_a, k_b, k_c, k_d, k_e, k_f, k_g, k_h, NodeS.cells, OpS.cells, ResS.cells]) | (refine sWM ?_; simp only [Act.put, k_a, k_b, k_c]) | ((first | refine sWS ?_ | refine sWT ?_); clear HX; intro w HX; simp only [Act.put, k_a, k_b, k_c, setMany, Nat.reduceAdd, NodeS.cells, OpS.cells, ResS.cells] at HX ⊢) | (refine sWA ?_; clear HX; (first | (have hq := b9; clear hq; intro w b10 HX) | (have hq := b8; clear hq; intro w b9 HX) | (have hq := b7; clear hq; intro w b8 HX) | (have hq := b6; clear hq; intro w b7 HX) | (have hq := b5; clear hq; intro w b6 HX) | (have hq := b4; clear hq; intro w b5 HX) | (have hq := b3; clear hq; intro w b4 HX) | (have hq := b2; clear hq; intro w b3 HX) | (have hq := b; clear hq; intro w b2 HX) | intro w b HX); simp only [Act.put, k_a, k_b, k_c]) | ((first | (refine sWN ?_; clear HX; intro w mm HX) | (refine sWP ?_; clear HX; intro w av nv cv HX)); simp only [Act.put, k_a, k_b, k_c]))
      refine sx_ret HX rfl rfl (by (repeat (first | (with_reducible exact k_s) | (with_reducible apply k_m)))) (by kernel_rfl) ?_
      have h2 := (HX.out.drop.cut1).poolRow
      rw [HE.out]
      exact ⟨_, _, rfl, fun q hq => k_n _ (k_n _ hq), ⟨a, n', c, xs, rfl, HRL.out.mono (fun q hq => k_n _ hq), k_s⟩, h2⟩
    case pos =>
      have HLN := Lib.hid (show xs.length = i * 11 by have := HRL.out.len; rw [failRs_len] at this; exact this)
      have HBD := Lib.hid (show ∀ n, xs.length = n * 11 → n + 1 ≤ 140737488355328 ∧ (n + 1) * 120 ≤ 140737488355328 from fun n hn => by
        have := HLN.out
        have := HM.out
        omega)
      have HRN := Lib.hid (show ResL ((1, .slice none 0 0, []) :: P) (failRs e at_ (i + 1)) (xs ++ ((failS (if (i : Int) = at_ then e else 14)).cells (.slice none 0 0)).toList) by rw [failRs_succ]; exact HRL.out.snoc k_s)
      have q0 : decide (i < m) = true := decide_eq_true hlt
      have q9 : i ≤ 16 := by have := HM.out; omega
      by_cases hat : (i : Int) = at_
      case' pos =>
        have q4 : ((i : Int) == at_) = true := by rw [beq_iff_eq]; exact hat
        rw [if_pos hat] at HRN
      case' neg =>
        have q4 : ((i : Int) == at_) = false := by rw [beq_eq_false_iff_ne]; exact hat
        rw [if_neg hat] at HRN
      all_goals
        clear hat
        go_wp2_with (first | (refine sWL ?_; simp only [Act.put, k_a, k_b, k_c, k_d, k_e, k_f, k_g, k_h, NodeS.cells, OpS.cells, ResS.cells]) | (refine sWM ?_; simp only [Act.put, k_a, k_b, k_c]) | ((first | refine sWS ?_ | refine sWT ?_); clear HX; intro w HX; simp only [Act.put, k_a, k_b, k_c, setMany, Nat.reduceAdd, NodeS.cells, OpS.cells, ResS.cells] at HX ⊢) | (refine sWA ?_; clear HX; (first | (have hq := b9; clear hq; intro w b10 HX) | (have hq := b8; clear hq; intro w b9 HX) | (have hq := b7; clear hq; intro w b8 HX) | (have hq := b6; clear hq; intro w b7 HX) | (have hq := b5; clear hq; intro w b6 HX) | (have hq := b4; clear hq; intro w b5 HX) | (have hq := b3; clear hq; intro w b4 HX) | (have hq := b2; clear hq; intro w b3 HX) | (have hq := b; clear hq; intro w b2 HX) | intro w b HX); simp only [Act.put, k_a, k_b, k_c]) | ((first | (refine sWN ?_; clear HX; intro w mm HX) | (refine sWP ?_; clear HX; intro w av nv cv HX)); simp only [Act.put, k_a, k_b, k_c]))
        go_roundg (m - (i + 1))
        case rel =>
          exact ⟨i + 1, _, av, nv, cv, by omega, by go_num, HRN.out, HX.out.pm 6 [3, 0, 4, 5] rfl rfl⟩
        case measure => omega
end
end Go.Proofs.YtjeaoopamebgjaaGreatDoor

namespace Go.Av
open Go.RowKit
theorem do_room (S : TreeS) (o : OpS) (sess zxid : Int) : (doT S o sess zxid).2.room = S.room := by
  unfold doT
  split
  · rfl
  · split
    · rfl
    · split
      · unfold createT; split <;> rfl
      · split
        · unfold changeT
          split
          · rfl
          · split
            · rfl
            · split
              · rfl
              · split
                · rfl
                · split <;> rfl
        · rfl
theorem steps_room {sess zxid : Int} : ∀ (l : List OpS) (S : TreeS), (stepsT sess zxid l S).2.1.room = S.room
  | [], _ => rfl
  | o :: l, S => by
    unfold stepsT
    split
    · exact do_room S o sess zxid
    · exact (steps_room l _).trans (do_room S o sess zxid)
theorem ResL.at {P : List PRow} {l : List ResS} {xs : List Value} (h : ResL P l xs) : ∀ {i : Nat} (hi : i < l.length), ∃ nv, (1, nv, l[i].names.map sv) ∈ P ∧ ∀ j v, (l[i].cells nv).toList[j]? = some v → xs[i * 11 + j]? = some v := by
  induction h with
  | nil => intro i hi; cases hi
  | @cons r nv rs xs h1 h2 ih =>
    intro i hi
    cases i with
    | zero =>
      refine ⟨nv, h1, fun j v hv => ?_⟩
      have hv : (r.cells nv).toList[j]? = some v := hv
      have hj := (List.getElem?_eq_some_iff.1 hv).1
      rw [Nat.zero_mul, Nat.zero_add, List.getElem?_append_left hj]
      exact hv
    | succ i =>
      obtain ⟨nv', h3, h4⟩ := ih (i := i) (by simpa using hi)
      refine ⟨nv', h3, fun j v hv => ?_⟩
      have hl : (r.cells nv).toList.length = 11 := rfl
      rw [List.getElem?_append_right (by omega), hl, show (i + 1) * 11 + j - 11 = i * 11 + j by omega]
      exact h4 j v hv
end Go.Av

namespace Go.Av
open Go.RowKit
def readsS (k : Int) : Bool := k == 5 || (k == 6 || k == 7)
def firstE (l : List OpS) : Int := match l.find? (fun o => goodE o != 0) with
  | none => 0
  | some o => goodE o
def mayS (sess num : Int) (l : List OpS) : Int :=
  if sess < 1 ∨ num < 1 ∨ l.length = 0 then 1 else if 16 < l.length then 2 else if firstE l ≠ 0 then firstE l
  else if 1 < l.length ∧ (l.any fun o => readsS o.kind) = true then 1 else 0
def requestT (S : TreeS) (sess num zxid : Int) (ops : List OpS) : ReplyS × TreeS :=
  if mayS sess num ops ≠ 0 then (failR num (mayS sess num ops) (-1) 0, S)
  else (⟨num, zxid, (manyT S sess zxid ops).1.err, (manyT S sess zxid ops).1.at_, (manyT S sess zxid ops).1.rs⟩, (manyT S sess zxid ops).2.1)
theorem firstE_take {l : List OpS} (h : ∀ o ∈ l, goodE o = 0) : firstE l = 0 := by
  unfold firstE
  rw [List.find?_eq_none.2 fun o ho => by simp [h o ho]]
theorem firstE_at {l : List OpS} {i : Nat} (hi : i < l.length) (h : ∀ o ∈ l.take i, goodE o = 0) (hb : goodE l[i] ≠ 0) : firstE l = goodE l[i] := by
  have hs : l = l.take i ++ l[i] :: l.drop (i + 1) := by rw [← List.drop_eq_getElem_cons hi, List.take_append_drop]
  obtain ⟨o, ho⟩ : ∃ o, l[i] = o := ⟨_, rfl⟩
  rw [ho] at hb hs ⊢
  obtain ⟨T, hT⟩ : ∃ T, l.take i = T := ⟨_, rfl⟩
  obtain ⟨D, hD⟩ : ∃ D, l.drop (i + 1) = D := ⟨_, rfl⟩
  rw [hT] at h hs
  rw [hD] at hs
  rw [hs]
  unfold firstE
  rw [List.find?_append, List.find?_eq_none.2 fun o ho => by simp [h o ho]]
  rw [List.find?_cons]
  have : (goodE o != 0) = true := by rw [bne_iff_ne]; exact hb
  rw [this]
  rfl
end Go.Av
namespace Go.Proofs.YtjeaoopamebgjaaGreatDoor
open Go.RowKit Go.Av
section
variable {w0 w : World} {t : Nat} {S : TreeS} {P P' : List PRow} {R : List Thing} {rows : List (Value × Bs)}
set_option maxRecDepth 100000 in
theorem reads_any (k : Int) (w : World) : Calls Tryz.prog 72 #[.int .i64 k] w fun e w' => e = .returned (.bool (readsS k)) ∧ w' = w := by
  unfold readsS
  obtain ⟨b1, h1⟩ : ∃ b, (k == 5) = b := ⟨_, rfl⟩
  obtain ⟨b2, h2⟩ : ∃ b, (k == 6) = b := ⟨_, rfl⟩
  obtain ⟨b3, h3⟩ : ∃ b, (k == 7) = b := ⟨_, rfl⟩
  rw [h1, h2, h3]
  cases b1 <;> cases b2
  all_goals
    go_enter Tryz.func72, Tryz.ntmps72
    go_wp2
    go_ret
    exact ⟨rfl, rfl⟩
set_option maxRecDepth 100000 in
theorem may1_any (h : Sep w0 w R rows) (o : OpS) : Calls Tryz.prog 71 #[o.val] w fun e w' => e = .returned (.bool (readsS o.kind)) ∧ Sep w0 w' R rows := by
  have HX := Lib.hid h
  clear h
  unfold OpS.val
  go_enter Tryz.func71, Tryz.ntmps71
  go_wp2_with (first | (refine sWL ?_; simp only [Act.put, k_a, k_b, k_c, k_d, k_e, k_f, k_g, k_h, NodeS.cells, OpS.cells, ResS.cells]) | (refine sWM ?_; simp only [Act.put, k_a, k_b, k_c]) | ((first | refine sWS ?_ | refine sWT ?_); clear HX; intro w HX; simp only [Act.put, k_a, k_b, k_c, setMany, Nat.reduceAdd, NodeS.cells, OpS.cells, ResS.cells] at HX ⊢) | (refine sWA ?_; clear HX; (first | (have hq := b3; clear hq; intro w b4 HX) | (have hq := b2; clear hq; intro w b3 HX) | (have hq := b; clear hq; intro w b2 HX) | intro w b HX); simp only [Act.put, k_a, k_b, k_c]) | ((first | (refine sWN ?_; clear HX; intro w mm HX) | (refine sWP ?_; clear HX; intro w av nv cv HX)); simp only [Act.put, k_a, k_b, k_c]))
  refine (reads_any _ _).mono ?_
  rintro e w1 ⟨rfl, rfl⟩
  go_wp2_with (first | (refine sWL ?_; simp only [Act.put, k_a, k_b, k_c, k_d, k_e, k_f, k_g, k_h, NodeS.cells, OpS.cells, ResS.cells]) | (refine sWM ?_; simp only [Act.put, k_a, k_b, k_c]) | ((first | refine sWS ?_ | refine sWT ?_); clear HX; intro w HX; simp only [Act.put, k_a, k_b, k_c, setMany, Nat.reduceAdd, NodeS.cells, OpS.cells, ResS.cells] at HX ⊢) | (refine sWA ?_; clear HX; (first | (have hq := b3; clear hq; intro w b4 HX) | (have hq := b2; clear hq; intro w b3 HX) | (have hq := b; clear hq; intro w b2 HX) | intro w b HX); simp only [Act.put, k_a, k_b, k_c]) | ((first | (refine sWN ?_; clear HX; intro w mm HX) | (refine sWP ?_; clear HX; intro w av nv cv HX)); simp only [Act.put, k_a, k_b, k_c]))
  go_ret
  exact ⟨rfl, HX.out.drop⟩
abbrev may1V : Value := .func (.func 71) #[] #[]
def IdxPost (w0 : World) (P : List PRow) (R : List Thing) (rows : List (Value × Bs)) (b : Bool) (e : Ending) (w' : World) : Prop :=
  ∃ r : Int, e = .returned (.int .i64 r) ∧ decide (0 ≤ r) = b ∧ Sep w0 w' (ThPool w0 P :: R) rows
set_option maxRecDepth 100000 in
set_option maxHeartbeats 2000000 in
theorem idxop_any (h : Sep w0 w (ThPool w0 P :: R) rows) (l : List OpS) (v : Value) (hv : (5, v, l.flatMap OpS.cells) ∈ P) (hn : l.length ≤ 100000) :
    Calls Tryz.prog 102 #[v, may1V] w (IdxPost w0 P R rows (l.any fun o => readsS o.kind)) := by
  obtain ⟨E, hE⟩ := h.poolGet hv
  obtain ⟨a, n, c, rfl, hl0, -, -, hne⟩ := ReadRow.some hE
  rw [flatG_len opcells_len] at hl0
  obtain rfl : l.length = n := by omega
  have HNE := Lib.hid hne
  have HV := Lib.hid hv
  have HX := Lib.hid h
  clear h hE hne hv hl0
  go_enter Tryz.func102, Tryz.ntmps102
  go_wp2_with (first | (refine sWL ?_; simp only [Act.put, k_a, k_b, k_c, k_d, k_e, k_f, k_g, k_h, NodeS.cells, OpS.cells, ResS.cells]) | (refine sWM ?_; simp only [Act.put, k_a, k_b, k_c]) | ((first | refine sWS ?_ | refine sWT ?_); clear HX; intro w HX; simp only [Act.put, k_a, k_b, k_c, setMany, Nat.reduceAdd, NodeS.cells, OpS.cells, ResS.cells] at HX ⊢) | (refine sWA ?_; clear HX; (first | (have hq := b3; clear hq; intro w b4 HX) | (have hq := b2; clear hq; intro w b3 HX) | (have hq := b; clear hq; intro w b2 HX) | intro w b HX); simp only [Act.put, k_a, k_b, k_c]) | ((first | (refine sWN ?_; clear HX; intro w mm HX) | (refine sWP ?_; clear HX; intro w av nv cv HX)); simp only [Act.put, k_a, k_b, k_c]))
  go_loopg [8] l.length (fun k v wr => ∃ i : Nat, i + k = l.length ∧ v = .int .i64 (i : Int) ∧ (∀ o ∈ l.take i, readsS o.kind = false) ∧ Sep w0 wr (ThPool w0 P :: R) rows)
  case atStart => exact ⟨0, by simp, rfl, by simp, HX.out⟩
  case round =>
    rename World => w
    obtain ⟨i, hik, rfl, hno, hS⟩ := hrel
    clear HX
    have HX := Lib.hid hS
    have HNO := Lib.hid hno
    clear hS hno
    by_cases hlt : i < l.length
    case neg =>
      obtain rfl : i = l.length := by omega
      clear hlt hik
      go_wp2_with (first | (refine sWL ?_; simp only [Act.put, k_a, k_b, k_c, k_d, k_e, k_f, k_g, k_h, NodeS.cells, OpS.cells, ResS.cells]) | (refine sWM ?_; simp only [Act.put, k_a, k_b, k_c]) | ((first | refine sWS ?_ | refine sWT ?_); clear HX; intro w HX; simp only [Act.put, k_a, k_b, k_c, setMany, Nat.reduceAdd, NodeS.cells, OpS.cells, ResS.cells] at HX ⊢) | (refine sWA ?_; clear HX; (first | (have hq := b3; clear hq; intro w b4 HX) | (have hq := b2; clear hq; intro w b3 HX) | (have hq := b; clear hq; intro w b2 HX) | intro w b HX); simp only [Act.put, k_a, k_b, k_c]) | ((first | (refine sWN ?_; clear HX; intro w mm HX) | (refine sWP ?_; clear HX; intro w av nv cv HX)); simp only [Act.put, k_a, k_b, k_c]))
      go_ret
      have h1 := HNO.out
      rw [List.take_length] at h1
      exact ⟨-1, rfl, by rw [List.any_eq_false.2 fun o ho => by simp [h1 o ho]]; rfl, HX.out⟩
    case pos =>
      obtain ⟨g, off, rfl⟩ := HNE.out (by intro e; have := congrArg List.length e; rw [flatG_len opcells_len] at this; simp at this; omega)
      obtain ⟨E, hE⟩ := HX.out.poolGet HV.out
      have hl := row_load (P := Tryz.prog) (f := OpS.cells) (i := i) hE opcells_len sn_op hlt
      have HTK := Lib.hid (show l.take (i + 1) = l.take i ++ [l[i]] from List.take_succ_eq_append_getElem hlt)
      have HIN := Lib.hid (show l[i] ∈ l from List.getElem_mem hlt)
      obtain ⟨o, ho⟩ : ∃ o, l[i] = o := ⟨_, rfl⟩
      rw [ho] at hl HTK HIN
      have q0 : decide (i < l.length) = true := decide_eq_true hlt
      clear hE ho
      go_wp2_with (first | (refine sWL ?_; simp only [Act.put, k_a, k_b, k_c, k_d, k_e, k_f, k_g, k_h, NodeS.cells, OpS.cells, ResS.cells]) | (refine sWM ?_; simp only [Act.put, k_a, k_b, k_c]) | ((first | refine sWS ?_ | refine sWT ?_); clear HX; intro w HX; simp only [Act.put, k_a, k_b, k_c, setMany, Nat.reduceAdd, NodeS.cells, OpS.cells, ResS.cells] at HX ⊢) | (refine sWA ?_; clear HX; (first | (have hq := b3; clear hq; intro w b4 HX) | (have hq := b2; clear hq; intro w b3 HX) | (have hq := b; clear hq; intro w b2 HX) | intro w b HX); simp only [Act.put, k_a, k_b, k_c]) | ((first | (refine sWN ?_; clear HX; intro w mm HX) | (refine sWP ?_; clear HX; intro w av nv cv HX)); simp only [Act.put, k_a, k_b, k_c]) | ((with_reducible apply sx_loadAt hl); (· rfl); (· rfl); simp only [Act.put, k_a, k_b, k_c]))
      refine (may1_any HX.out o).mono ?_
      obtain ⟨b, hb⟩ : ∃ b, readsS o.kind = b := ⟨_, rfl⟩
      rw [hb]
      rintro e w ⟨rfl, hx⟩
      clear HX hl
      have HX := Lib.hid hx
      clear hx
      cases b with
      | true =>
        go_wp2_with (first | (refine sWL ?_; simp only [Act.put, k_a, k_b, k_c, k_d, k_e, k_f, k_g, k_h, NodeS.cells, OpS.cells, ResS.cells]) | (refine sWM ?_; simp only [Act.put, k_a, k_b, k_c]) | ((first | refine sWS ?_ | refine sWT ?_); clear HX; intro w HX; simp only [Act.put, k_a, k_b, k_c, setMany, Nat.reduceAdd, NodeS.cells, OpS.cells, ResS.cells] at HX ⊢) | (refine sWA ?_; clear HX; (first | (have hq := b3; clear hq; intro w b4 HX) | (have hq := b2; clear hq; intro w b3 HX) | (have hq := b; clear hq; intro w b2 HX) | intro w b HX); simp only [Act.put, k_a, k_b, k_c]) | ((first | (refine sWN ?_; clear HX; intro w mm HX) | (refine sWP ?_; clear HX; intro w av nv cv HX)); simp only [Act.put, k_a, k_b, k_c]))
        go_ret
        refine ⟨(i : Int), rfl, ?_, HX.out⟩
        rw [List.any_eq_true.2 ⟨o, HIN.out, hb⟩]
        exact decide_eq_true (by omega)
      | false =>
        have HB := Lib.hid hb
        clear hb
        go_wp2_with (first | (refine sWL ?_; simp only [Act.put, k_a, k_b, k_c, k_d, k_e, k_f, k_g, k_h, NodeS.cells, OpS.cells, ResS.cells]) | (refine sWM ?_; simp only [Act.put, k_a, k_b, k_c]) | ((first | refine sWS ?_ | refine sWT ?_); clear HX; intro w HX; simp only [Act.put, k_a, k_b, k_c, setMany, Nat.reduceAdd, NodeS.cells, OpS.cells, ResS.cells] at HX ⊢) | (refine sWA ?_; clear HX; (first | (have hq := b3; clear hq; intro w b4 HX) | (have hq := b2; clear hq; intro w b3 HX) | (have hq := b; clear hq; intro w b2 HX) | intro w b HX); simp only [Act.put, k_a, k_b, k_c]) | ((first | (refine sWN ?_; clear HX; intro w mm HX) | (refine sWP ?_; clear HX; intro w av nv cv HX)); simp only [Act.put, k_a, k_b, k_c]))
        go_roundg (l.length - (i + 1))
        case rel => exact ⟨i + 1, by omega, by go_num, by
          rw [HTK.out]
          intro q hq
          rcases List.mem_append.1 hq with hq | hq
          · exact HNO.out q hq
          · rw [List.mem_singleton] at hq; rw [hq]; exact HB.out, HX.out⟩
        case measure => omega
set_option maxRecDepth 100000 in
theorem contop_any (h : Sep w0 w (ThPool w0 P :: R) rows) (l : List OpS) (v : Value) (hv : (5, v, l.flatMap OpS.cells) ∈ P) (hn : l.length ≤ 100000) :
    Calls Tryz.prog 70 #[v, may1V] w fun e w' => e = .returned (.bool (l.any fun o => readsS o.kind)) ∧ Sep w0 w' (ThPool w0 P :: R) rows := by
  have HC := Lib.hid (idxop_any h l v hv hn)
  clear h hv hn
  obtain ⟨b, hb⟩ : ∃ b, (l.any fun o => readsS o.kind) = b := ⟨_, rfl⟩
  rw [hb] at HC ⊢
  clear hb
  go_enter Tryz.func70, Tryz.ntmps70
  go_wp2_with fail
  refine HC.out.mono ?_
  rintro e w ⟨r, rfl, hr, hS⟩
  have HX := Lib.hid hS
  clear hS HC
  go_wp2_with fail
  go_ret
  refine ⟨?_, HX.out⟩
  rw [← hr]
  rfl
set_option maxRecDepth 100000 in
set_option maxHeartbeats 4000000 in
theorem may_any (h : Sep w0 w (ThPool w0 P :: R) rows) (hd : DoorN w0) (sess num : Int) (l : List OpS) (v : Value) (hv : (5, v, l.flatMap OpS.cells) ∈ P) (hp : ∀ o ∈ l, o.path.size ≤ 100000) :
    Calls Tryz.prog 43 #[.agg #[.int .i64 sess, .int .i64 num, v]] w fun e w' => e = .returned (.int .i64 (mayS sess num l)) ∧ Sep w0 w' (ThPool w0 P :: R) rows := by
  obtain ⟨E, hE⟩ := h.poolGet hv
  obtain ⟨a, n, c, rfl, hl0, -, -, hne⟩ := ReadRow.some hE
  rw [flatG_len opcells_len] at hl0
  obtain rfl : l.length = n := by omega
  have HNE := Lib.hid hne
  have HV := Lib.hid hv
  have HX := Lib.hid h
  have HPS := Lib.hid hp
  clear h hE hne hv hl0 hp
  obtain ⟨m, hm⟩ : ∃ m, mayS sess num l = m := ⟨_, rfl⟩
  rw [hm]
  have HM := Lib.hid hm
  clear hm
  by_cases h1 : sess < 1 ∨ num < 1 ∨ l.length = 0
  · obtain rfl : m = 1 := by rw [← HM.out]; unfold mayS; rw [if_pos h1]
    by_cases h2 : sess < 1
    · have q1 : decide (sess < 1) = true := decide_eq_true h2
      go_enter Tryz.func43, Tryz.ntmps43
      go_wp2_with (first | (refine sWL ?_; simp only [Act.put, k_a, k_b, k_c, k_d, k_e, k_f, k_g, k_h, NodeS.cells, OpS.cells, ResS.cells]) | (refine sWM ?_; simp only [Act.put, k_a, k_b, k_c]) | ((first | refine sWS ?_ | refine sWT ?_); clear HX; intro w HX; simp only [Act.put, k_a, k_b, k_c, setMany, Nat.reduceAdd, NodeS.cells, OpS.cells, ResS.cells] at HX ⊢) | (refine sWA ?_; clear HX; (first | (have hq := b3; clear hq; intro w b4 HX) | (have hq := b2; clear hq; intro w b3 HX) | (have hq := b; clear hq; intro w b2 HX) | intro w b HX); simp only [Act.put, k_a, k_b, k_c]) | ((first | (refine sWN ?_; clear HX; intro w mm HX) | (refine sWP ?_; clear HX; intro w av nv cv HX)); simp only [Act.put, k_a, k_b, k_c]))
      go_ret
      exact ⟨rfl, HX.out.drop⟩
    · have q1 : decide (sess < 1) = false := decide_eq_false h2
      by_cases h3 : num < 1
      · have q2 : decide (num < 1) = true := decide_eq_true h3
        go_enter Tryz.func43, Tryz.ntmps43
        go_wp2_with (first | (refine sWL ?_; simp only [Act.put, k_a, k_b, k_c, k_d, k_e, k_f, k_g, k_h, NodeS.cells, OpS.cells, ResS.cells]) | (refine sWM ?_; simp only [Act.put, k_a, k_b, k_c]) | ((first | refine sWS ?_ | refine sWT ?_); clear HX; intro w HX; simp only [Act.put, k_a, k_b, k_c, setMany, Nat.reduceAdd, NodeS.cells, OpS.cells, ResS.cells] at HX ⊢) | (refine sWA ?_; clear HX; (first | (have hq := b3; clear hq; intro w b4 HX) | (have hq := b2; clear hq; intro w b3 HX) | (have hq := b; clear hq; intro w b2 HX) | intro w b HX); simp only [Act.put, k_a, k_b, k_c]) | ((first | (refine sWN ?_; clear HX; intro w mm HX) | (refine sWP ?_; clear HX; intro w av nv cv HX)); simp only [Act.put, k_a, k_b, k_c]))
        go_ret
        exact ⟨rfl, HX.out.drop⟩
      · have q2 : decide (num < 1) = false := decide_eq_false h3
        have h4 : l.length = 0 := by omega
        have q3 : ((l.length : Int) == 0) = true := by rw [h4]; rfl
        go_enter Tryz.func43, Tryz.ntmps43
        go_wp2_with (first | (refine sWL ?_; simp only [Act.put, k_a, k_b, k_c, k_d, k_e, k_f, k_g, k_h, NodeS.cells, OpS.cells, ResS.cells]) | (refine sWM ?_; simp only [Act.put, k_a, k_b, k_c]) | ((first | refine sWS ?_ | refine sWT ?_); clear HX; intro w HX; simp only [Act.put, k_a, k_b, k_c, setMany, Nat.reduceAdd, NodeS.cells, OpS.cells, ResS.cells] at HX ⊢) | (refine sWA ?_; clear HX; (first | (have hq := b3; clear hq; intro w b4 HX) | (have hq := b2; clear hq; intro w b3 HX) | (have hq := b; clear hq; intro w b2 HX) | intro w b HX); simp only [Act.put, k_a, k_b, k_c]) | ((first | (refine sWN ?_; clear HX; intro w mm HX) | (refine sWP ?_; clear HX; intro w av nv cv HX)); simp only [Act.put, k_a, k_b, k_c]))
        go_ret
        exact ⟨rfl, HX.out.drop⟩
  have q1 : decide (sess < 1) = false := decide_eq_false (fun hh => h1 (.inl hh))
  have q2 : decide (num < 1) = false := decide_eq_false (fun hh => h1 (.inr (.inl hh)))
  have q3 : ((l.length : Int) == 0) = false := by rw [beq_eq_false_iff_ne]; omega
  by_cases h2 : 16 < l.length
  · obtain rfl : m = 2 := by rw [← HM.out]; unfold mayS; rw [if_neg h1, if_pos h2]
    have q4 : decide (16 < l.length) = true := decide_eq_true h2
    have q5 : decide (16 < (l.length : Int)) = true := decide_eq_true (by omega)
    go_enter Tryz.func43, Tryz.ntmps43
    go_wp2_with (first | (refine sWL ?_; simp only [Act.put, k_a, k_b, k_c, k_d, k_e, k_f, k_g, k_h, NodeS.cells, OpS.cells, ResS.cells]) | (refine sWM ?_; simp only [Act.put, k_a, k_b, k_c]) | ((first | refine sWS ?_ | refine sWT ?_); clear HX; intro w HX; simp only [Act.put, k_a, k_b, k_c, setMany, Nat.reduceAdd, NodeS.cells, OpS.cells, ResS.cells] at HX ⊢) | (refine sWA ?_; clear HX; (first | (have hq := b3; clear hq; intro w b4 HX) | (have hq := b2; clear hq; intro w b3 HX) | (have hq := b; clear hq; intro w b2 HX) | intro w b HX); simp only [Act.put, k_a, k_b, k_c]) | ((first | (refine sWN ?_; clear HX; intro w mm HX) | (refine sWP ?_; clear HX; intro w av nv cv HX)); simp only [Act.put, k_a, k_b, k_c]))
    go_ret
    exact ⟨rfl, HX.out.drop⟩
  have q4 : decide (16 < l.length) = false := decide_eq_false h2
  have q5 : decide (16 < (l.length : Int)) = false := decide_eq_false (by omega)
  have HMM := Lib.hid (show (if firstE l ≠ 0 then firstE l else if 1 < l.length ∧ (l.any fun o => readsS o.kind) = true then 1 else 0) = m by rw [← HM.out]; unfold mayS; rw [if_neg h1, if_neg h2])
  have hl1 : 1 ≤ l.length ∧ l.length ≤ 16 := by omega
  clear HM
  go_enter Tryz.func43, Tryz.ntmps43
  go_wp2_with (first | (refine sWL ?_; simp only [Act.put, k_a, k_b, k_c, k_d, k_e, k_f, k_g, k_h, NodeS.cells, OpS.cells, ResS.cells]) | (refine sWM ?_; simp only [Act.put, k_a, k_b, k_c]) | ((first | refine sWS ?_ | refine sWT ?_); clear HX; intro w HX; simp only [Act.put, k_a, k_b, k_c, setMany, Nat.reduceAdd, NodeS.cells, OpS.cells, ResS.cells] at HX ⊢) | (refine sWA ?_; clear HX; (first | (have hq := b3; clear hq; intro w b4 HX) | (have hq := b2; clear hq; intro w b3 HX) | (have hq := b; clear hq; intro w b2 HX) | intro w b HX); simp only [Act.put, k_a, k_b, k_c]) | ((first | (refine sWN ?_; clear HX; intro w mm HX) | (refine sWP ?_; clear HX; intro w av nv cv HX)); simp only [Act.put, k_a, k_b, k_c]))
  clear q1 q2 q3 q4 q5 h1 h2
  have HST := HX
  go_loopg [29] l.length (fun k v wr => ∃ i : Nat, i + k = l.length ∧ v = .int .i64 (i : Int) ∧ (∀ o ∈ l.take i, goodE o = 0) ∧ Sep w0 wr (ThCell b (.cells #[.int .i64 sess, .int .i64 num, .slice a l.length c] 65 (0, 0)) :: ThPool w0 P :: R) rows)
  case atStart => exact ⟨0, by simp, rfl, by simp, HX.out⟩
  case round =>
    rename World => w
    obtain ⟨i, hik, rfl, hok, hS⟩ := hrel
    clear HX HST
    have HX := Lib.hid hS
    have HOK := Lib.hid hok
    clear hS hok
    by_cases hlt : i < l.length
    case neg =>
      obtain rfl : i = l.length := by omega
      clear hlt hik
      have hf : firstE l = 0 := firstE_take (by have := HOK.out; rwa [List.take_length] at this)
      have hmm := HMM.out
      rw [if_neg (fun hh => hh hf)] at hmm
      by_cases h3 : 1 < l.length
      · have q1 : decide (1 < l.length) = true := decide_eq_true h3
        have q2 : decide (1 < (l.length : Int)) = true := decide_eq_true (by omega)
        have HMM2 := Lib.hid hmm
        clear hmm hf HMM
        go_wp2_with (first | (refine sWL ?_; simp only [Act.put, k_a, k_b, k_c, k_d, k_e, k_f, k_g, k_h, NodeS.cells, OpS.cells, ResS.cells]) | (refine sWM ?_; simp only [Act.put, k_a, k_b, k_c]) | ((first | refine sWS ?_ | refine sWT ?_); clear HX; intro w HX; simp only [Act.put, k_a, k_b, k_c, setMany, Nat.reduceAdd, NodeS.cells, OpS.cells, ResS.cells] at HX ⊢) | (refine sWA ?_; clear HX; (first | (have hq := b3; clear hq; intro w b4 HX) | (have hq := b2; clear hq; intro w b3 HX) | (have hq := b; clear hq; intro w b2 HX) | intro w b HX); simp only [Act.put, k_a, k_b, k_c]) | ((first | (refine sWN ?_; clear HX; intro w mm HX) | (refine sWP ?_; clear HX; intro w av nv cv HX)); simp only [Act.put, k_a, k_b, k_c]))
        refine (contop_any HX.out.up1 l _ HV.out (by omega)).mono ?_
        obtain ⟨bb, hbb⟩ : ∃ bb, (l.any fun o => readsS o.kind) = bb := ⟨_, rfl⟩
        rw [hbb] at HMM2 ⊢
        rintro e w ⟨rfl, hx⟩
        clear HX
        have HX := Lib.hid hx
        clear hx
        cases bb with
        | true =>
          obtain rfl : m = 1 := by rw [← HMM2.out, if_pos ⟨h3, rfl⟩]
          go_wp2_with (first | (refine sWL ?_; simp only [Act.put, k_a, k_b, k_c, k_d, k_e, k_f, k_g, k_h, NodeS.cells, OpS.cells, ResS.cells]) | (refine sWM ?_; simp only [Act.put, k_a, k_b, k_c]) | ((first | refine sWS ?_ | refine sWT ?_); clear HX; intro w HX; simp only [Act.put, k_a, k_b, k_c, setMany, Nat.reduceAdd, NodeS.cells, OpS.cells, ResS.cells] at HX ⊢) | (refine sWA ?_; clear HX; (first | (have hq := b3; clear hq; intro w b4 HX) | (have hq := b2; clear hq; intro w b3 HX) | (have hq := b; clear hq; intro w b2 HX) | intro w b HX); simp only [Act.put, k_a, k_b, k_c]) | ((first | (refine sWN ?_; clear HX; intro w mm HX) | (refine sWP ?_; clear HX; intro w av nv cv HX)); simp only [Act.put, k_a, k_b, k_c]))
          go_ret
          exact ⟨rfl, HX.out.cut1⟩
        | false =>
          obtain rfl : m = 0 := by rw [← HMM2.out, if_neg (fun hh => by cases hh.2)]
          go_wp2_with (first | (refine sWL ?_; simp only [Act.put, k_a, k_b, k_c, k_d, k_e, k_f, k_g, k_h, NodeS.cells, OpS.cells, ResS.cells]) | (refine sWM ?_; simp only [Act.put, k_a, k_b, k_c]) | ((first | refine sWS ?_ | refine sWT ?_); clear HX; intro w HX; simp only [Act.put, k_a, k_b, k_c, setMany, Nat.reduceAdd, NodeS.cells, OpS.cells, ResS.cells] at HX ⊢) | (refine sWA ?_; clear HX; (first | (have hq := b3; clear hq; intro w b4 HX) | (have hq := b2; clear hq; intro w b3 HX) | (have hq := b; clear hq; intro w b2 HX) | intro w b HX); simp only [Act.put, k_a, k_b, k_c]) | ((first | (refine sWN ?_; clear HX; intro w mm HX) | (refine sWP ?_; clear HX; intro w av nv cv HX)); simp only [Act.put, k_a, k_b, k_c]))
          go_ret
          exact ⟨rfl, HX.out.cut1⟩
      · have q1 : decide (1 < l.length) = false := decide_eq_false h3
        have q2 : decide (1 < (l.length : Int)) = false := decide_eq_false (by omega)
        obtain rfl : m = 0 := by rw [← hmm, if_neg (fun hh => h3 hh.1)]
        go_wp2_with (first | (refine sWL ?_; simp only [Act.put, k_a, k_b, k_c, k_d, k_e, k_f, k_g, k_h, NodeS.cells, OpS.cells, ResS.cells]) | (refine sWM ?_; simp only [Act.put, k_a, k_b, k_c]) | ((first | refine sWS ?_ | refine sWT ?_); clear HX; intro w HX; simp only [Act.put, k_a, k_b, k_c, setMany, Nat.reduceAdd, NodeS.cells, OpS.cells, ResS.cells] at HX ⊢) | (refine sWA ?_; clear HX; (first | (have hq := b3; clear hq; intro w b4 HX) | (have hq := b2; clear hq; intro w b3 HX) | (have hq := b; clear hq; intro w b2 HX) | intro w b HX); simp only [Act.put, k_a, k_b, k_c]) | ((first | (refine sWN ?_; clear HX; intro w mm HX) | (refine sWP ?_; clear HX; intro w av nv cv HX)); simp only [Act.put, k_a, k_b, k_c]))
        go_ret
        exact ⟨rfl, HX.out.drop⟩
    case pos =>
      obtain ⟨g, off, rfl⟩ := HNE.out (by intro e; have := congrArg List.length e; rw [flatG_len opcells_len] at this; simp at this; omega)
      obtain ⟨E, hE⟩ := HX.out.up1.poolGet HV.out
      have hl := row_load (P := Tryz.prog) (f := OpS.cells) (i := i) hE opcells_len sn_op hlt
      have HTK := Lib.hid (show l.take (i + 1) = l.take i ++ [l[i]] from List.take_succ_eq_append_getElem hlt)
      have HPO := Lib.hid (HPS.out l[i] (List.getElem_mem hlt))
      have HFE := Lib.hid (fun hb => firstE_at hlt HOK.out hb)
      obtain ⟨o, ho⟩ : ∃ o, l[i] = o := ⟨_, rfl⟩
      rw [ho] at hl HTK HPO HFE
      have q0 : decide (i < l.length) = true := decide_eq_true hlt
      obtain ⟨kind, path, data, ver, flags⟩ := o
      simp only [OpS.cells] at hl
      clear hE ho
      go_wp2_with (first | (refine sWL ?_; simp only [Act.put, k_a, k_b, k_c, k_d, k_e, k_f, k_g, k_h, NodeS.cells, OpS.cells, ResS.cells]) | (refine sWM ?_; simp only [Act.put, k_a, k_b, k_c]) | ((first | refine sWS ?_ | refine sWT ?_); clear HX; intro w HX; simp only [Act.put, k_a, k_b, k_c, setMany, Nat.reduceAdd, NodeS.cells, OpS.cells, ResS.cells] at HX ⊢) | (refine sWA ?_; clear HX; (first | (have hq := b3; clear hq; intro w b4 HX) | (have hq := b2; clear hq; intro w b3 HX) | (have hq := b; clear hq; intro w b2 HX) | intro w b HX); simp only [Act.put, k_a, k_b, k_c]) | ((first | (refine sWN ?_; clear HX; intro w mm HX) | (refine sWP ?_; clear HX; intro w av nv cv HX)); simp only [Act.put, k_a, k_b, k_c]) | ((with_reducible apply sx_loadAt hl); (· rfl); (· rfl); simp only [Act.put, k_a, k_b, k_c]))
      obtain ⟨ge, hge⟩ : ∃ ge, goodE ⟨kind, path, data, ver, flags⟩ = ge := ⟨_, rfl⟩
      have hgo := opgood_any ⟨kind, path, data, ver, flags⟩ _ (hd.sep HX.out) HPO.out
      rw [hge] at hgo HFE
      refine hgo.mono ?_
      rintro e w1 ⟨rfl, hu⟩
      replace HX := Lib.hid (HX.out.keep hu)
      have HGE := Lib.hid hge
      clear hu hgo hl hge
      by_cases h0 : ge = 0
      · have q1 : (ge != 0) = false := by rw [h0]; rfl
        go_wp2_with (first | (refine sWL ?_; simp only [Act.put, k_a, k_b, k_c, k_d, k_e, k_f, k_g, k_h, NodeS.cells, OpS.cells, ResS.cells]) | (refine sWM ?_; simp only [Act.put, k_a, k_b, k_c]) | ((first | refine sWS ?_ | refine sWT ?_); clear HX; intro w HX; simp only [Act.put, k_a, k_b, k_c, setMany, Nat.reduceAdd, NodeS.cells, OpS.cells, ResS.cells] at HX ⊢) | (refine sWA ?_; clear HX; (first | (have hq := b3; clear hq; intro w b4 HX) | (have hq := b2; clear hq; intro w b3 HX) | (have hq := b; clear hq; intro w b2 HX) | intro w b HX); simp only [Act.put, k_a, k_b, k_c]) | ((first | (refine sWN ?_; clear HX; intro w mm HX) | (refine sWP ?_; clear HX; intro w av nv cv HX)); simp only [Act.put, k_a, k_b, k_c]))
        go_roundg (l.length - (i + 1))
        case rel => exact ⟨i + 1, by omega, by go_num, by
          rw [HTK.out]
          intro q hq
          rcases List.mem_append.1 hq with hq | hq
          · exact HOK.out q hq
          · rw [List.mem_singleton] at hq; rw [hq, HGE.out, h0], HX.out.drop⟩
        case measure => omega
      · have q1 : (ge != 0) = true := by rw [bne_iff_ne]; exact h0
        obtain rfl : m = ge := by
          have := HMM.out
          rw [HFE.out h0, if_pos h0] at this
          exact this.symm
        go_wp2_with (first | (refine sWL ?_; simp only [Act.put, k_a, k_b, k_c, k_d, k_e, k_f, k_g, k_h, NodeS.cells, OpS.cells, ResS.cells]) | (refine sWM ?_; simp only [Act.put, k_a, k_b, k_c]) | ((first | refine sWS ?_ | refine sWT ?_); clear HX; intro w HX; simp only [Act.put, k_a, k_b, k_c, setMany, Nat.reduceAdd, NodeS.cells, OpS.cells, ResS.cells] at HX ⊢) | (refine sWA ?_; clear HX; (first | (have hq := b3; clear hq; intro w b4 HX) | (have hq := b2; clear hq; intro w b3 HX) | (have hq := b; clear hq; intro w b2 HX) | intro w b HX); simp only [Act.put, k_a, k_b, k_c]) | ((first | (refine sWN ?_; clear HX; intro w mm HX) | (refine sWP ?_; clear HX; intro w av nv cv HX)); simp only [Act.put, k_a, k_b, k_c]))
        go_ret
        exact ⟨rfl, HX.out.drop.drop⟩
def ReqPost (w0 : World) (t : Nat) (P : List PRow) (R : List Thing) (rows : List (Value × Bs)) (m : ReplyS × TreeS) (e : Ending) (w' : World) : Prop :=
  ∃ v P', e = .returned v ∧ (∀ q ∈ P, q ∈ P') ∧ ReplyIn P' m.1 v ∧ Sep w0 w' (ThPool w0 P' :: ThTree t m.2 P' :: R) rows
set_option maxRecDepth 100000 in
set_option maxHeartbeats 4000000 in
theorem request_any {K : Nat} (h : Sep w0 w (ThPool w0 P :: ThTree t S P :: R) rows) (hd : DoorN w0) (hB : TreeB K S) (hK : K + 16 ≤ 100000) (sess num zxid : Int) (ops : List OpS) (v : Value) (hv : (5, v, ops.flatMap OpS.cells) ∈ P) (hp : ∀ o ∈ ops, o.path.size ≤ 100000) :
    Calls Tryz.prog 24 #[.pointer (some ⟨t, 0, none⟩), .agg #[.int .i64 sess, .int .i64 num, v], .int .i64 zxid] w (ReqPost w0 t P R rows (requestT S sess num zxid ops)) := by
  obtain ⟨E, hE⟩ := h.poolGet hv
  obtain ⟨a, n, c, rfl, -⟩ := ReadRow.some hE
  have HV := Lib.hid hv
  have HX := Lib.hid h
  have HPS := Lib.hid hp
  have HB := Lib.hid (show _ ∧ _ from ⟨hB, hK⟩)
  obtain ⟨rr, hrr⟩ : ∃ rr, requestT S sess num zxid ops = rr := ⟨_, rfl⟩
  rw [hrr]
  have HRR := Lib.hid hrr
  clear h hE hv hp hB hK hrr
  obtain ⟨me, hme⟩ : ∃ me, mayS sess num ops = me := ⟨_, rfl⟩
  have HME := Lib.hid hme
  clear hme
  go_enter Tryz.func24, Tryz.ntmps24
  go_wp2_with (first | (refine sWL ?_; simp only [Act.put, k_a, k_b, k_c, k_d, k_e, k_f, k_g, k_h, NodeS.cells, OpS.cells, ResS.cells]) | (refine sWM ?_; simp only [Act.put, k_a, k_b, k_c]) | ((first | refine sWS ?_ | refine sWT ?_); clear HX; intro w HX; simp only [Act.put, k_a, k_b, k_c, setMany, Nat.reduceAdd, NodeS.cells, OpS.cells, ResS.cells] at HX ⊢) | (refine sWA ?_; clear HX; (first | (have hq := b3; clear hq; intro w b4 HX) | (have hq := b2; clear hq; intro w b3 HX) | (have hq := b; clear hq; intro w b2 HX) | intro w b HX); simp only [Act.put, k_a, k_b, k_c]) | ((first | (refine sWN ?_; clear HX; intro w mm HX) | (refine sWP ?_; clear HX; intro w av nv cv HX)); simp only [Act.put, k_a, k_b, k_c]))
  refine (may_any HX.out.up2 hd sess num ops _ HV.out HPS.out).mono ?_
  rw [HME.out]
  rintro e w ⟨rfl, hx⟩
  clear HX
  have HX := Lib.hid hx
  clear hx
  by_cases h0 : me = 0
  · have q1 : (me != 0) = false := by rw [h0]; rfl
    have HE := Lib.hid (show rr = (⟨num, zxid, (manyT S sess zxid ops).1.err, (manyT S sess zxid ops).1.at_, (manyT S sess zxid ops).1.rs⟩, (manyT S sess zxid ops).2.1) by rw [← HRR.out]; unfold requestT; rw [if_neg (fun hh => hh (HME.out.trans h0))])
    clear h0
    go_wp2_with (first | (refine sWL ?_; simp only [Act.put, k_a, k_b, k_c, k_d, k_e, k_f, k_g, k_h, NodeS.cells, OpS.cells, ResS.cells]) | (refine sWM ?_; simp only [Act.put, k_a, k_b, k_c]) | ((first | refine sWS ?_ | refine sWT ?_); clear HX; intro w HX; simp only [Act.put, k_a, k_b, k_c, setMany, Nat.reduceAdd, NodeS.cells, OpS.cells, ResS.cells] at HX ⊢) | (refine sWA ?_; clear HX; (first | (have hq := b3; clear hq; intro w b4 HX) | (have hq := b2; clear hq; intro w b3 HX) | (have hq := b; clear hq; intro w b2 HX) | intro w b HX); simp only [Act.put, k_a, k_b, k_c]) | ((first | (refine sWN ?_; clear HX; intro w mm HX) | (refine sWP ?_; clear HX; intro w av nv cv HX)); simp only [Act.put, k_a, k_b, k_c]))
    refine (mdo_any HX.out.up3.up1 hd HB.out.1 HB.out.2 sess zxid ops _ HV.out HPS.out).mono ?_
    obtain ⟨⟨⟨n1, z1, e1, a1, rs1⟩, S1, ok1⟩, hm1⟩ : ∃ m1, manyT S sess zxid ops = m1 := ⟨_, rfl⟩
    rw [hm1] at HE ⊢
    rintro e w ⟨v, P', rfl, hP', ⟨a9, n9, c9, xs9, rfl, hrl9, hmem9⟩, hx⟩
    clear HX hm1
    have HX := Lib.hid hx
    have HPN := Lib.hid (show _ ∧ _ ∧ _ from ⟨hP', hrl9, hmem9⟩)
    clear hx hP' hrl9 hmem9
    dsimp only at HX HE HPN ⊢
    go_wp2_with (first | (refine sWL ?_; simp only [Act.put, k_a, k_b, k_c, k_d, k_e, k_f, k_g, k_h, NodeS.cells, OpS.cells, ResS.cells]) | (refine sWM ?_; simp only [Act.put, k_a, k_b, k_c]) | ((first | refine sWS ?_ | refine sWT ?_); clear HX; intro w HX; simp only [Act.put, k_a, k_b, k_c, setMany, Nat.reduceAdd, NodeS.cells, OpS.cells, ResS.cells] at HX ⊢) | (refine sWA ?_; clear HX; (first | (have hq := b3; clear hq; intro w b4 HX) | (have hq := b2; clear hq; intro w b3 HX) | (have hq := b; clear hq; intro w b2 HX) | intro w b HX); simp only [Act.put, k_a, k_b, k_c]) | ((first | (refine sWN ?_; clear HX; intro w mm HX) | (refine sWP ?_; clear HX; intro w av nv cv HX)); simp only [Act.put, k_a, k_b, k_c]))
    refine sx_ret HX rfl rfl (by (repeat (first | (with_reducible exact k_s) | (with_reducible apply k_m)))) (by kernel_rfl) ?_
    rw [HE.out]
    exact ⟨_, P', rfl, HPN.out.1, ⟨a9, n9, c9, xs9, rfl, HPN.out.2.1, HPN.out.2.2⟩, HX.out.pm 5 [1, 2] rfl rfl⟩
  · have q1 : (me != 0) = true := by rw [bne_iff_ne]; exact h0
    have HE := Lib.hid (show rr = (failR num me (-1) 0, S) by rw [← HRR.out]; unfold requestT; rw [HME.out, if_pos h0])
    clear h0
    go_wp2_with (first | (refine sWL ?_; simp only [Act.put, k_a, k_b, k_c, k_d, k_e, k_f, k_g, k_h, NodeS.cells, OpS.cells, ResS.cells]) | (refine sWM ?_; simp only [Act.put, k_a, k_b, k_c]) | ((first | refine sWS ?_ | refine sWT ?_); clear HX; intro w HX; simp only [Act.put, k_a, k_b, k_c, setMany, Nat.reduceAdd, NodeS.cells, OpS.cells, ResS.cells] at HX ⊢) | (refine sWA ?_; clear HX; (first | (have hq := b3; clear hq; intro w b4 HX) | (have hq := b2; clear hq; intro w b3 HX) | (have hq := b; clear hq; intro w b2 HX) | intro w b HX); simp only [Act.put, k_a, k_b, k_c]) | ((first | (refine sWN ?_; clear HX; intro w mm HX) | (refine sWP ?_; clear HX; intro w av nv cv HX)); simp only [Act.put, k_a, k_b, k_c]))
    refine (rfail_any HX.out _ _ _ _).mono ?_
    rintro e w ⟨v, P', rfl, hP', ⟨a', n', c', xs', rfl, hrl, hmem⟩, hx⟩
    clear HX
    have HX := Lib.hid hx
    have HPN := Lib.hid (show _ ∧ _ ∧ _ from ⟨hP', hrl, hmem⟩)
    clear hx hP' hrl hmem
    dsimp only at HX ⊢
    go_wp2_with (first | (refine sWL ?_; simp only [Act.put, k_a, k_b, k_c, k_d, k_e, k_f, k_g, k_h, NodeS.cells, OpS.cells, ResS.cells]) | (refine sWM ?_; simp only [Act.put, k_a, k_b, k_c]) | ((first | refine sWS ?_ | refine sWT ?_); clear HX; intro w HX; simp only [Act.put, k_a, k_b, k_c, setMany, Nat.reduceAdd, NodeS.cells, OpS.cells, ResS.cells] at HX ⊢) | (refine sWA ?_; clear HX; (first | (have hq := b3; clear hq; intro w b4 HX) | (have hq := b2; clear hq; intro w b3 HX) | (have hq := b; clear hq; intro w b2 HX) | intro w b HX); simp only [Act.put, k_a, k_b, k_c]) | ((first | (refine sWN ?_; clear HX; intro w mm HX) | (refine sWP ?_; clear HX; intro w av nv cv HX)); simp only [Act.put, k_a, k_b, k_c]))
    refine sx_ret HX rfl rfl (by (repeat (first | (with_reducible exact k_s) | (with_reducible apply k_m)))) (by kernel_rfl) ?_
    rw [HE.out]
    exact ⟨_, P', rfl, HPN.out.1, ⟨a', n', c', xs', rfl, HPN.out.2.1, HPN.out.2.2⟩, (tree_mono HX.out.up3 HPN.out.1).pm 4 [1, 0] rfl rfl⟩
end
end Go.Proofs.YtjeaoopamebgjaaGreatDoor

namespace Go.Av
open Go.RowKit
theorem reads_ge {k : Int} (h : 1 ≤ k) (h7 : k ≤ 7) : readsS k = decide (5 ≤ k) := by
  rcases (show k = 1 ∨ k = 2 ∨ k = 3 ∨ k = 4 ∨ k = 5 ∨ k = 6 ∨ k = 7 by omega) with rfl | rfl | rfl | rfl | rfl | rfl | rfl <;> decide
end Go.Av
namespace Go.Proofs.YtjeaoopamebgjaaGreatDoor
open Go.RowKit Go.Av
section
variable {w0 w : World} {t : Nat} {S : TreeS} {P P' : List PRow} {R : List Thing} {rows : List (Value × Bs)}
set_option maxRecDepth 100000 in
set_option maxHeartbeats 8000000 in
theorem may5_any (h : Sep w0 w (ThPool w0 P :: R) rows) (sess num : Int) (l : List OpS) (v : Value) (hv : (5, v, l.flatMap OpS.cells) ∈ P) (hp : ∀ o ∈ l, o.path.size ≤ 100000) :
    Calls Tryz.prog 48 #[.agg #[.int .i64 sess, .int .i64 num, v]] w fun e w' => e = .returned (.int .i64 (mayS sess num l)) ∧ Sep w0 w' (ThPool w0 P :: R) rows := by
  obtain ⟨E, hE⟩ := h.poolGet hv
  obtain ⟨a, n, c, rfl, hl0, -, -, hne⟩ := ReadRow.some hE
  rw [flatG_len opcells_len] at hl0
  obtain rfl : l.length = n := by omega
  have HNE := Lib.hid hne
  have HV := Lib.hid hv
  have HX := Lib.hid h
  have HPS := Lib.hid hp
  clear h hE hne hv hl0 hp
  obtain ⟨m, hm⟩ : ∃ m, mayS sess num l = m := ⟨_, rfl⟩
  rw [hm]
  have HM := Lib.hid hm
  clear hm
  by_cases h1 : sess < 1 ∨ num < 1 ∨ l.length = 0
  · obtain rfl : m = 1 := by rw [← HM.out]; unfold mayS; rw [if_pos h1]
    by_cases h2 : sess < 1
    · have q1 : decide (sess < 1) = true := decide_eq_true h2
      go_enter Tryz.func48, Tryz.ntmps48
      go_wp2_with (first | go_skip | ((with_reducible apply wpList_skip); (· rfl); simp only [Act.put, k_a, k_b, k_c]) | (refine sWL ?_; simp only [Act.put, k_a, k_b, k_c, k_d, k_e, k_f, k_g, k_h, NodeS.cells, OpS.cells, ResS.cells]) | (refine sWM ?_; simp only [Act.put, k_a, k_b, k_c]) | ((first | refine sWS ?_ | refine sWT ?_); clear HX; intro w HX; simp only [Act.put, k_a, k_b, k_c, setMany, Nat.reduceAdd, NodeS.cells, OpS.cells, ResS.cells] at HX ⊢) | (refine sWA ?_; clear HX; (first | (have hq := b; clear hq; intro w b2 HX) | intro w b HX); simp only [Act.put, k_a, k_b, k_c]) | ((first | (refine sWN ?_; clear HX; intro w mm HX) | (refine sWP ?_; clear HX; intro w av nv cv HX)); simp only [Act.put, k_a, k_b, k_c]))
      go_ret
      exact ⟨rfl, HX.out.drop⟩
    · have q1 : decide (sess < 1) = false := decide_eq_false h2
      by_cases h3 : num < 1
      · have q2 : decide (num < 1) = true := decide_eq_true h3
        go_enter Tryz.func48, Tryz.ntmps48
        go_wp2_with (first | go_skip | ((with_reducible apply wpList_skip); (· rfl); simp only [Act.put, k_a, k_b, k_c]) | (refine sWL ?_; simp only [Act.put, k_a, k_b, k_c, k_d, k_e, k_f, k_g, k_h, NodeS.cells, OpS.cells, ResS.cells]) | (refine sWM ?_; simp only [Act.put, k_a, k_b, k_c]) | ((first | refine sWS ?_ | refine sWT ?_); clear HX; intro w HX; simp only [Act.put, k_a, k_b, k_c, setMany, Nat.reduceAdd, NodeS.cells, OpS.cells, ResS.cells] at HX ⊢) | (refine sWA ?_; clear HX; (first | (have hq := b; clear hq; intro w b2 HX) | intro w b HX); simp only [Act.put, k_a, k_b, k_c]) | ((first | (refine sWN ?_; clear HX; intro w mm HX) | (refine sWP ?_; clear HX; intro w av nv cv HX)); simp only [Act.put, k_a, k_b, k_c]))
        go_ret
        exact ⟨rfl, HX.out.drop⟩
      · have q2 : decide (num < 1) = false := decide_eq_false h3
        have h4 : l.length = 0 := by omega
        have q3 : ((l.length : Int) == 0) = true := by rw [h4]; rfl
        go_enter Tryz.func48, Tryz.ntmps48
        go_wp2_with (first | go_skip | ((with_reducible apply wpList_skip); (· rfl); simp only [Act.put, k_a, k_b, k_c]) | (refine sWL ?_; simp only [Act.put, k_a, k_b, k_c, k_d, k_e, k_f, k_g, k_h, NodeS.cells, OpS.cells, ResS.cells]) | (refine sWM ?_; simp only [Act.put, k_a, k_b, k_c]) | ((first | refine sWS ?_ | refine sWT ?_); clear HX; intro w HX; simp only [Act.put, k_a, k_b, k_c, setMany, Nat.reduceAdd, NodeS.cells, OpS.cells, ResS.cells] at HX ⊢) | (refine sWA ?_; clear HX; (first | (have hq := b; clear hq; intro w b2 HX) | intro w b HX); simp only [Act.put, k_a, k_b, k_c]) | ((first | (refine sWN ?_; clear HX; intro w mm HX) | (refine sWP ?_; clear HX; intro w av nv cv HX)); simp only [Act.put, k_a, k_b, k_c]))
        go_ret
        exact ⟨rfl, HX.out.drop⟩
  have q1 : decide (sess < 1) = false := decide_eq_false (fun hh => h1 (.inl hh))
  have q2 : decide (num < 1) = false := decide_eq_false (fun hh => h1 (.inr (.inl hh)))
  have q3 : ((l.length : Int) == 0) = false := by rw [beq_eq_false_iff_ne]; omega
  by_cases h2 : 16 < l.length
  · obtain rfl : m = 2 := by rw [← HM.out]; unfold mayS; rw [if_neg h1, if_pos h2]
    have q4 : decide (16 < l.length) = true := decide_eq_true h2
    have q5 : decide (16 < (l.length : Int)) = true := decide_eq_true (by omega)
    go_enter Tryz.func48, Tryz.ntmps48
    go_wp2_with (first | go_skip | ((with_reducible apply wpList_skip); (· rfl); simp only [Act.put, k_a, k_b, k_c]) | (refine sWL ?_; simp only [Act.put, k_a, k_b, k_c, k_d, k_e, k_f, k_g, k_h, NodeS.cells, OpS.cells, ResS.cells]) | (refine sWM ?_; simp only [Act.put, k_a, k_b, k_c]) | ((first | refine sWS ?_ | refine sWT ?_); clear HX; intro w HX; simp only [Act.put, k_a, k_b, k_c, setMany, Nat.reduceAdd, NodeS.cells, OpS.cells, ResS.cells] at HX ⊢) | (refine sWA ?_; clear HX; (first | (have hq := b; clear hq; intro w b2 HX) | intro w b HX); simp only [Act.put, k_a, k_b, k_c]) | ((first | (refine sWN ?_; clear HX; intro w mm HX) | (refine sWP ?_; clear HX; intro w av nv cv HX)); simp only [Act.put, k_a, k_b, k_c]))
    go_ret
    exact ⟨rfl, HX.out.drop⟩
  have q4 : decide (16 < l.length) = false := decide_eq_false h2
  have q5 : decide (16 < (l.length : Int)) = false := decide_eq_false (by omega)
  have HMM := Lib.hid (show (if firstE l ≠ 0 then firstE l else if 1 < l.length ∧ (l.any fun o => readsS o.kind) = true then 1 else 0) = m by rw [← HM.out]; unfold mayS; rw [if_neg h1, if_neg h2])
  have hl1 : 1 ≤ l.length ∧ l.length ≤ 16 := by omega
  clear HM
  go_enter Tryz.func48, Tryz.ntmps48
  go_wp2_with (first | go_skip | ((with_reducible apply wpList_skip); (· rfl); simp only [Act.put, k_a, k_b, k_c]) | (refine sWL ?_; simp only [Act.put, k_a, k_b, k_c, k_d, k_e, k_f, k_g, k_h, NodeS.cells, OpS.cells, ResS.cells]) | (refine sWM ?_; simp only [Act.put, k_a, k_b, k_c]) | ((first | refine sWS ?_ | refine sWT ?_); clear HX; intro w HX; simp only [Act.put, k_a, k_b, k_c, setMany, Nat.reduceAdd, NodeS.cells, OpS.cells, ResS.cells] at HX ⊢) | (refine sWA ?_; clear HX; (first | (have hq := b; clear hq; intro w b2 HX) | intro w b HX); simp only [Act.put, k_a, k_b, k_c]) | ((first | (refine sWN ?_; clear HX; intro w mm HX) | (refine sWP ?_; clear HX; intro w av nv cv HX)); simp only [Act.put, k_a, k_b, k_c]))
  clear q1 q2 q3 q4 q5 h1 h2
  have HST := HX
  go_loopg [3] l.length (fun k v wr => ∃ i : Nat, i + k = l.length ∧ v = .int .i64 (i : Int) ∧ (∀ o ∈ l.take i, goodE o = 0) ∧ Sep w0 wr (ThCell b (.cells #[.int .i64 sess, .int .i64 num, .slice a l.length c] 76 (0, 0)) :: ThPool w0 P :: R) rows)
  case atStart => exact ⟨0, by simp, rfl, by simp, HX.out⟩
  case round =>
    rename World => w
    obtain ⟨i, hik, rfl, hok, hS⟩ := hrel
    clear HX HST
    have HX := Lib.hid hS
    have HOK := Lib.hid hok
    clear hS hok
    by_cases hlt : i < l.length
    case neg =>
      obtain rfl : i = l.length := by omega
      clear hlt hik
      have hall := HOK.out
      rw [List.take_length] at hall
      have hf : firstE l = 0 := firstE_take hall
      have hmm := HMM.out
      rw [if_neg (fun hh => hh hf)] at hmm
      have HMM2 := Lib.hid hmm
      have HALL := Lib.hid hall
      clear hmm hf HMM HOK hall
      go_wp2_with (first | go_skip | ((with_reducible apply wpList_skip); (· rfl); simp only [Act.put, k_a, k_b, k_c]) | (refine sWL ?_; simp only [Act.put, k_a, k_b, k_c, k_d, k_e, k_f, k_g, k_h, NodeS.cells, OpS.cells, ResS.cells]) | (refine sWM ?_; simp only [Act.put, k_a, k_b, k_c]) | ((first | refine sWS ?_ | refine sWT ?_); clear HX; intro w HX; simp only [Act.put, k_a, k_b, k_c, setMany, Nat.reduceAdd, NodeS.cells, OpS.cells, ResS.cells] at HX ⊢) | (refine sWA ?_; clear HX; (first | (have hq := b; clear hq; intro w b2 HX) | intro w b HX); simp only [Act.put, k_a, k_b, k_c]) | ((first | (refine sWN ?_; clear HX; intro w mm HX) | (refine sWP ?_; clear HX; intro w av nv cv HX)); simp only [Act.put, k_a, k_b, k_c]))
      go_loopg [5] l.length (fun k v wr => ∃ i : Nat, i + k = l.length ∧ v = .int .i64 (i : Int) ∧ (1 < l.length → ∀ o ∈ l.take i, readsS o.kind = false) ∧ Sep w0 wr (ThCell b (.cells #[.int .i64 sess, .int .i64 num, .slice a l.length c] 76 (0, 0)) :: ThPool w0 P :: R) rows)
      case atStart => exact ⟨0, by simp, rfl, by simp, HX.out⟩
      case round =>
        rename World => w
        obtain ⟨i, hik, rfl, hno, hS⟩ := hrel
        clear HX
        have HX := Lib.hid hS
        have HNO := Lib.hid hno
        clear hS hno
        by_cases hlt : i < l.length
        case neg =>
          obtain rfl : i = l.length := by omega
          clear hlt hik
          obtain rfl : m = 0 := by
            rw [← HMM2.out, if_neg]
            rintro ⟨h3, h4⟩
            have h5 := HNO.out h3
            rw [List.take_length] at h5
            rw [List.any_eq_true] at h4
            obtain ⟨o, ho, h6⟩ := h4
            rw [h5 o ho] at h6
            cases h6
          go_wp2_with (first | go_skip | ((with_reducible apply wpList_skip); (· rfl); simp only [Act.put, k_a, k_b, k_c]) | (refine sWL ?_; simp only [Act.put, k_a, k_b, k_c, k_d, k_e, k_f, k_g, k_h, NodeS.cells, OpS.cells, ResS.cells]) | (refine sWM ?_; simp only [Act.put, k_a, k_b, k_c]) | ((first | refine sWS ?_ | refine sWT ?_); clear HX; intro w HX; simp only [Act.put, k_a, k_b, k_c, setMany, Nat.reduceAdd, NodeS.cells, OpS.cells, ResS.cells] at HX ⊢) | (refine sWA ?_; clear HX; (first | (have hq := b; clear hq; intro w b2 HX) | intro w b HX); simp only [Act.put, k_a, k_b, k_c]) | ((first | (refine sWN ?_; clear HX; intro w mm HX) | (refine sWP ?_; clear HX; intro w av nv cv HX)); simp only [Act.put, k_a, k_b, k_c]))
          go_ret
          exact ⟨rfl, HX.out.drop⟩
        case pos =>
          obtain ⟨g, off, rfl⟩ := HNE.out (by intro e; have := congrArg List.length e; rw [flatG_len opcells_len] at this; simp at this; omega)
          obtain ⟨E, hE⟩ := HX.out.up1.poolGet HV.out
          have HTK := Lib.hid (show l.take (i + 1) = l.take i ++ [l[i]] from List.take_succ_eq_append_getElem hlt)
          have HIN := Lib.hid (show l[i] ∈ l from List.getElem_mem hlt)
          have hl := row_fld0 (P := Tryz.prog) (i := i) (v := .int .i64 l[i].kind) (ty := 3) hE (by kernel_rfl) (by have h0 := flatG_at (f := OpS.cells) opcells_len l hlt (j := 0) (by omega); rw [Nat.add_zero] at h0; rw [h0]; rfl)
          have hgd := HALL.out l[i] (List.getElem_mem hlt)
          obtain ⟨hk1, hk2, -⟩ := formed_ok (goodE_ok hgd).1
          have hrg := reads_ge hk1 hk2
          obtain ⟨o, ho⟩ : ∃ o, l[i] = o := ⟨_, rfl⟩
          rw [ho] at hl HTK HIN hrg
          obtain ⟨kk, hkk⟩ : ∃ kk, o.kind = kk := ⟨_, rfl⟩
          rw [hkk] at hl hrg
          have HKK := Lib.hid hkk
          have q0 : decide (i < l.length) = true := decide_eq_true hlt
          clear hE ho hgd hk1 hk2 hkk
          by_cases h3 : 1 < l.length
          · have q1 : decide (1 < l.length) = true := decide_eq_true h3
            have q2 : decide (1 < (l.length : Int)) = true := decide_eq_true (by omega)
            by_cases h4 : 5 ≤ kk
            · have q3 : decide (5 ≤ kk) = true := decide_eq_true h4
              obtain rfl : m = 1 := by
                rw [← HMM2.out, if_pos]
                refine ⟨h3, List.any_eq_true.2 ⟨o, HIN.out, ?_⟩⟩
                rw [HKK.out, hrg, q3]
              clear hrg
              go_wp2_with (first | go_skip | ((with_reducible apply wpList_skip); (· rfl); simp only [Act.put, k_a, k_b, k_c]) | (refine sWL ?_; simp only [Act.put, k_a, k_b, k_c, k_d, k_e, k_f, k_g, k_h, NodeS.cells, OpS.cells, ResS.cells]) | (refine sWM ?_; simp only [Act.put, k_a, k_b, k_c]) | ((first | refine sWS ?_ | refine sWT ?_); clear HX; intro w HX; simp only [Act.put, k_a, k_b, k_c, setMany, Nat.reduceAdd, NodeS.cells, OpS.cells, ResS.cells] at HX ⊢) | (refine sWA ?_; clear HX; (first | (have hq := b; clear hq; intro w b2 HX) | intro w b HX); simp only [Act.put, k_a, k_b, k_c]) | ((first | (refine sWN ?_; clear HX; intro w mm HX) | (refine sWP ?_; clear HX; intro w av nv cv HX)); simp only [Act.put, k_a, k_b, k_c]) | ((with_reducible apply sx_loadAt hl); (· rfl); (· rfl); simp only [Act.put, k_a, k_b, k_c]))
              go_ret
              exact ⟨rfl, HX.out.drop⟩
            · have q3 : decide (5 ≤ kk) = false := decide_eq_false h4
              have HRG := Lib.hid (show readsS o.kind = false by rw [HKK.out, hrg, q3])
              clear hrg
              go_wp2_with (first | go_skip | ((with_reducible apply wpList_skip); (· rfl); simp only [Act.put, k_a, k_b, k_c]) | (refine sWL ?_; simp only [Act.put, k_a, k_b, k_c, k_d, k_e, k_f, k_g, k_h, NodeS.cells, OpS.cells, ResS.cells]) | (refine sWM ?_; simp only [Act.put, k_a, k_b, k_c]) | ((first | refine sWS ?_ | refine sWT ?_); clear HX; intro w HX; simp only [Act.put, k_a, k_b, k_c, setMany, Nat.reduceAdd, NodeS.cells, OpS.cells, ResS.cells] at HX ⊢) | (refine sWA ?_; clear HX; (first | (have hq := b; clear hq; intro w b2 HX) | intro w b HX); simp only [Act.put, k_a, k_b, k_c]) | ((first | (refine sWN ?_; clear HX; intro w mm HX) | (refine sWP ?_; clear HX; intro w av nv cv HX)); simp only [Act.put, k_a, k_b, k_c]) | ((with_reducible apply sx_loadAt hl); (· rfl); (· rfl); simp only [Act.put, k_a, k_b, k_c]))
              go_roundg (l.length - (i + 1))
              case rel => exact ⟨i + 1, by omega, by go_num, fun h5 => by
                rw [HTK.out]
                intro q hq
                rcases List.mem_append.1 hq with hq | hq
                · exact HNO.out h5 q hq
                · rw [List.mem_singleton] at hq; rw [hq]; exact HRG.out, HX.out⟩
              case measure => omega
          · have q1 : decide (1 < l.length) = false := decide_eq_false h3
            have q2 : decide (1 < (l.length : Int)) = false := decide_eq_false (by omega)
            clear hrg
            go_wp2_with (first | go_skip | ((with_reducible apply wpList_skip); (· rfl); simp only [Act.put, k_a, k_b, k_c]) | (refine sWL ?_; simp only [Act.put, k_a, k_b, k_c, k_d, k_e, k_f, k_g, k_h, NodeS.cells, OpS.cells, ResS.cells]) | (refine sWM ?_; simp only [Act.put, k_a, k_b, k_c]) | ((first | refine sWS ?_ | refine sWT ?_); clear HX; intro w HX; simp only [Act.put, k_a, k_b, k_c, setMany, Nat.reduceAdd, NodeS.cells, OpS.cells, ResS.cells] at HX ⊢) | (refine sWA ?_; clear HX; (first | (have hq := b; clear hq; intro w b2 HX) | intro w b HX); simp only [Act.put, k_a, k_b, k_c]) | ((first | (refine sWN ?_; clear HX; intro w mm HX) | (refine sWP ?_; clear HX; intro w av nv cv HX)); simp only [Act.put, k_a, k_b, k_c]))
            go_roundg (l.length - (i + 1))
            case rel => exact ⟨i + 1, by omega, by go_num, fun h5 => absurd h5 h3, HX.out⟩
            case measure => omega
    case pos =>
      obtain ⟨g, off, rfl⟩ := HNE.out (by intro e; have := congrArg List.length e; rw [flatG_len opcells_len] at this; simp at this; omega)
      obtain ⟨E, hE⟩ := HX.out.up1.poolGet HV.out
      have hl := row_load (P := Tryz.prog) (f := OpS.cells) (i := i) hE opcells_len sn_op hlt
      have HTK := Lib.hid (show l.take (i + 1) = l.take i ++ [l[i]] from List.take_succ_eq_append_getElem hlt)
      have HPO := Lib.hid (HPS.out l[i] (List.getElem_mem hlt))
      have HFE := Lib.hid (fun hb => firstE_at hlt HOK.out hb)
      obtain ⟨o, ho⟩ : ∃ o, l[i] = o := ⟨_, rfl⟩
      rw [ho] at hl HTK HPO HFE
      have q0 : decide (i < l.length) = true := decide_eq_true hlt
      obtain ⟨kind, path, data, ver, flags⟩ := o
      simp only [OpS.cells] at hl
      clear hE ho
      go_wp2_with (first | go_skip | ((with_reducible apply wpList_skip); (· rfl); simp only [Act.put, k_a, k_b, k_c]) | (refine sWL ?_; simp only [Act.put, k_a, k_b, k_c, k_d, k_e, k_f, k_g, k_h, NodeS.cells, OpS.cells, ResS.cells]) | (refine sWM ?_; simp only [Act.put, k_a, k_b, k_c]) | ((first | refine sWS ?_ | refine sWT ?_); clear HX; intro w HX; simp only [Act.put, k_a, k_b, k_c, setMany, Nat.reduceAdd, NodeS.cells, OpS.cells, ResS.cells] at HX ⊢) | (refine sWA ?_; clear HX; (first | (have hq := b; clear hq; intro w b2 HX) | intro w b HX); simp only [Act.put, k_a, k_b, k_c]) | ((first | (refine sWN ?_; clear HX; intro w mm HX) | (refine sWP ?_; clear HX; intro w av nv cv HX)); simp only [Act.put, k_a, k_b, k_c]) | ((with_reducible apply sx_loadAt hl); (· rfl); (· rfl); simp only [Act.put, k_a, k_b, k_c]))
      obtain ⟨ge, hge⟩ : ∃ ge, goodE ⟨kind, path, data, ver, flags⟩ = ge := ⟨_, rfl⟩
      have hgo := op1_any ⟨kind, path, data, ver, flags⟩ w HPO.out
      rw [hge] at hgo HFE
      refine hgo.mono ?_
      rintro e w1 ⟨rfl, hu⟩
      replace HX := Lib.hid (HX.out.keep hu)
      have HGE := Lib.hid hge
      clear hu hgo hl hge
      by_cases h0 : ge = 0
      · have q1 : (ge != 0) = false := by rw [h0]; rfl
        go_wp2_with (first | go_skip | ((with_reducible apply wpList_skip); (· rfl); simp only [Act.put, k_a, k_b, k_c]) | (refine sWL ?_; simp only [Act.put, k_a, k_b, k_c, k_d, k_e, k_f, k_g, k_h, NodeS.cells, OpS.cells, ResS.cells]) | (refine sWM ?_; simp only [Act.put, k_a, k_b, k_c]) | ((first | refine sWS ?_ | refine sWT ?_); clear HX; intro w HX; simp only [Act.put, k_a, k_b, k_c, setMany, Nat.reduceAdd, NodeS.cells, OpS.cells, ResS.cells] at HX ⊢) | (refine sWA ?_; clear HX; (first | (have hq := b; clear hq; intro w b2 HX) | intro w b HX); simp only [Act.put, k_a, k_b, k_c]) | ((first | (refine sWN ?_; clear HX; intro w mm HX) | (refine sWP ?_; clear HX; intro w av nv cv HX)); simp only [Act.put, k_a, k_b, k_c]))
        go_roundg (l.length - (i + 1))
        case rel => exact ⟨i + 1, by omega, by go_num, by
          rw [HTK.out]
          intro q hq
          rcases List.mem_append.1 hq with hq | hq
          · exact HOK.out q hq
          · rw [List.mem_singleton] at hq; rw [hq, HGE.out, h0], HX.out⟩
        case measure => omega
      · have q1 : (ge != 0) = true := by rw [bne_iff_ne]; exact h0
        obtain rfl : m = ge := by
          have := HMM.out
          rw [HFE.out h0, if_pos h0] at this
          exact this.symm
        go_wp2_with (first | go_skip | ((with_reducible apply wpList_skip); (· rfl); simp only [Act.put, k_a, k_b, k_c]) | (refine sWL ?_; simp only [Act.put, k_a, k_b, k_c, k_d, k_e, k_f, k_g, k_h, NodeS.cells, OpS.cells, ResS.cells]) | (refine sWM ?_; simp only [Act.put, k_a, k_b, k_c]) | ((first | refine sWS ?_ | refine sWT ?_); clear HX; intro w HX; simp only [Act.put, k_a, k_b, k_c, setMany, Nat.reduceAdd, NodeS.cells, OpS.cells, ResS.cells] at HX ⊢) | (refine sWA ?_; clear HX; (first | (have hq := b; clear hq; intro w b2 HX) | intro w b HX); simp only [Act.put, k_a, k_b, k_c]) | ((first | (refine sWN ?_; clear HX; intro w mm HX) | (refine sWP ?_; clear HX; intro w av nv cv HX)); simp only [Act.put, k_a, k_b, k_c]))
        go_ret
        exact ⟨rfl, HX.out.drop⟩
end
end Go.Proofs.YtjeaoopamebgjaaGreatDoor

namespace Go.Proofs.YtjeaoopamebgjaaGreatDoor
open Go.RowKit Go.Av
section
variable {w0 w : World} {b K : Nat} {S : TreeS} {P P' : List PRow} {R : List Thing} {rows : List (Value × Bs)}
def RManyPost (w0 : World) (b : Nat) (P : List PRow) (R : List Thing) (rows : List (Value × Bs)) (m : ReplyS × TreeS × Bool) (e : Ending) (w' : World) : Prop :=
  ∃ v P', e = .returned (.tuple #[v, .bool m.2.2]) ∧ (∀ q ∈ P, q ∈ P') ∧ ReplyIn P' m.1 v ∧ Sep w0 w' (ThPool w0 P' :: ThRt b m.2.1 P' :: R) rows
def RManyRel (w0 : World) (b b2 b3 c : Nat) (sess zxid : Int) (S : TreeS) (ops : List OpS) (P : List PRow) (R : List Thing) (rows : List (Value × Bs)) (k : Nat) (v31 : Value) (w : World) : Prop :=
  ∃ (i : Nat) (P' : List PRow) (xs : List Value) (a : Option Addr) (n c' : Nat), i + k = ops.length ∧ v31 = .int .i64 (i : Int) ∧ (∀ q ∈ P, q ∈ P') ∧ (stepsT sess zxid (ops.take i) S).2.2 = 0 ∧ ResL P' (stepsT sess zxid (ops.take i) S).1 xs ∧
    Sep w0 w (ThCell b3 (.cells #[.int .i64 0, .int .i64 zxid, .int .i64 0, .int .i64 (-1), .slice a n c'] 70 (0, 0)) :: ThRow 11 (.slice a n c') xs :: ThPool w0 P' :: ThRt c (stepsT sess zxid (ops.take i) S).2.1 P' :: ThRt b S P' ::
      ThCell b2 (.cells #[.int .i64 0, .int .i64 0, .int .i64 0, .int .i64 0, .slice none 0 0] 70 (0, 0)) :: R) rows
set_option maxRecDepth 100000 in
set_option maxHeartbeats 16000000 in
theorem many10_any (h : Sep w0 w (ThPool w0 P :: ThRt b S P :: R) rows) (hB : TreeB K S) (hK : K + 16 ≤ 100000) (sess zxid : Int) (ops : List OpS) (v : Value) (hv : (5, v, ops.flatMap OpS.cells) ∈ P) (hp : ∀ o ∈ ops, o.path.size ≤ 100000) :
    Calls Tryz.prog 26 #[.pointer (some ⟨b, 0, none⟩), .int .i64 sess, .int .i64 zxid, v] w (RManyPost w0 b P R rows (manyT S sess zxid ops)) := by
  obtain ⟨E, hE⟩ := h.poolGet hv
  obtain ⟨a0, n0, c0, rfl, hl0, hn0, hc0, hne⟩ := ReadRow.some hE
  rw [flatG_len opcells_len] at hl0
  obtain rfl : ops.length = n0 := by omega
  have HNE := Lib.hid hne
  have HV := Lib.hid hv
  have HX := Lib.hid h
  have HBB := Lib.hid (show _ ∧ _ from ⟨hB, hK⟩)
  obtain ⟨rr, hrr⟩ : ∃ rr, manyT S sess zxid ops = rr := ⟨_, rfl⟩
  rw [hrr]
  have HRR := Lib.hid hrr
  clear hrr h hE hne hv hl0 hn0 hc0 hB hK
  by_cases h16 : 16 < ops.length
  · have HE := Lib.hid (show rr = (failR 0 2 (-1) 0, S, false) by rw [← HRR.out]; unfold manyT; rw [if_pos h16])
    have q1 : decide (16 < ops.length) = true := decide_eq_true h16
    have q2 : decide (16 < (ops.length : Int)) = true := decide_eq_true (by omega)
    clear h16 HRR
    go_enter Tryz.func26, Tryz.ntmps26
    go_wp2_with (first | go_skip | ((with_reducible apply wpList_skip); (· rfl); simp only [Act.put, k_a, k_b, k_c]) | (refine sWL ?_; simp only [Act.put, k_a, k_b, k_c, k_d, k_e, k_f, k_g, k_h, NodeS.cells, OpS.cells, ResS.cells]) | (refine sWM ?_; simp only [Act.put, k_a, k_b, k_c]) | ((first | refine sWS ?_ | refine sWT ?_); clear HX; intro w HX; simp only [Act.put, k_a, k_b, k_c, setMany, Nat.reduceAdd, NodeS.cells, OpS.cells, ResS.cells] at HX ⊢) | (refine sWA ?_; clear HX; (first | (have hq := b3; clear hq; intro w b4 HX) | (have hq := b2; clear hq; intro w b3 HX) | (have hq := b; clear hq; intro w b2 HX) | intro w b HX); simp only [Act.put, k_a, k_b, k_c]) | ((first | (refine sWN ?_; clear HX; intro w mm HX) | (refine sWP ?_; clear HX; intro w av nv cv HX)); simp only [Act.put, k_a, k_b, k_c]))
    refine (rfail5_any HX.out.up1 _ _ _ _).mono ?_
    rintro e w ⟨v, P', rfl, hP', ⟨a', n', c', xs', rfl, hrl, hmem⟩, hS⟩
    clear HX
    have HX := Lib.hid hS
    clear hS
    go_wp2_with (first | go_skip | ((with_reducible apply wpList_skip); (· rfl); simp only [Act.put, k_a, k_b, k_c]) | (refine sWL ?_; simp only [Act.put, k_a, k_b, k_c, k_d, k_e, k_f, k_g, k_h, NodeS.cells, OpS.cells, ResS.cells]) | (refine sWM ?_; simp only [Act.put, k_a, k_b, k_c]) | ((first | refine sWS ?_ | refine sWT ?_); clear HX; intro w HX; simp only [Act.put, k_a, k_b, k_c, setMany, Nat.reduceAdd, NodeS.cells, OpS.cells, ResS.cells] at HX ⊢) | (refine sWA ?_; clear HX; (first | (have hq := b3; clear hq; intro w b4 HX) | (have hq := b2; clear hq; intro w b3 HX) | (have hq := b; clear hq; intro w b2 HX) | intro w b HX); simp only [Act.put, k_a, k_b, k_c]) | ((first | (refine sWN ?_; clear HX; intro w mm HX) | (refine sWP ?_; clear HX; intro w av nv cv HX)); simp only [Act.put, k_a, k_b, k_c]))
    refine sx_ret2 HX rfl rfl (by (repeat (first | (with_reducible exact k_s) | (with_reducible apply k_m)))) (by kernel_rfl) ?_
    rw [HE.out]
    exact ⟨_, P', rfl, hP', ⟨a', n', c', xs', rfl, hrl, hmem⟩, (rt_mono HX.out.cut1.up1 hP').up1⟩
  by_cases h00 : ops.length = 0
  · have HE := Lib.hid (show rr = (failR 0 1 (-1) 0, S, false) by rw [← HRR.out]; unfold manyT; rw [if_neg h16, if_pos h00])
    have q1 : decide (16 < ops.length) = false := decide_eq_false h16
    have q2 : decide (16 < (ops.length : Int)) = false := decide_eq_false (by omega)
    have q3 : ((ops.length : Int) == 0) = true := by rw [beq_iff_eq]; omega
    clear h16 h00 HRR
    go_enter Tryz.func26, Tryz.ntmps26
    go_wp2_with (first | go_skip | ((with_reducible apply wpList_skip); (· rfl); simp only [Act.put, k_a, k_b, k_c]) | (refine sWL ?_; simp only [Act.put, k_a, k_b, k_c, k_d, k_e, k_f, k_g, k_h, NodeS.cells, OpS.cells, ResS.cells]) | (refine sWM ?_; simp only [Act.put, k_a, k_b, k_c]) | ((first | refine sWS ?_ | refine sWT ?_); clear HX; intro w HX; simp only [Act.put, k_a, k_b, k_c, setMany, Nat.reduceAdd, NodeS.cells, OpS.cells, ResS.cells] at HX ⊢) | (refine sWA ?_; clear HX; (first | (have hq := b3; clear hq; intro w b4 HX) | (have hq := b2; clear hq; intro w b3 HX) | (have hq := b; clear hq; intro w b2 HX) | intro w b HX); simp only [Act.put, k_a, k_b, k_c]) | ((first | (refine sWN ?_; clear HX; intro w mm HX) | (refine sWP ?_; clear HX; intro w av nv cv HX)); simp only [Act.put, k_a, k_b, k_c]))
    refine (rfail5_any HX.out.up1 _ _ _ _).mono ?_
    rintro e w ⟨v, P', rfl, hP', ⟨a', n', c', xs', rfl, hrl, hmem⟩, hS⟩
    clear HX
    have HX := Lib.hid hS
    clear hS
    go_wp2_with (first | go_skip | ((with_reducible apply wpList_skip); (· rfl); simp only [Act.put, k_a, k_b, k_c]) | (refine sWL ?_; simp only [Act.put, k_a, k_b, k_c, k_d, k_e, k_f, k_g, k_h, NodeS.cells, OpS.cells, ResS.cells]) | (refine sWM ?_; simp only [Act.put, k_a, k_b, k_c]) | ((first | refine sWS ?_ | refine sWT ?_); clear HX; intro w HX; simp only [Act.put, k_a, k_b, k_c, setMany, Nat.reduceAdd, NodeS.cells, OpS.cells, ResS.cells] at HX ⊢) | (refine sWA ?_; clear HX; (first | (have hq := b3; clear hq; intro w b4 HX) | (have hq := b2; clear hq; intro w b3 HX) | (have hq := b; clear hq; intro w b2 HX) | intro w b HX); simp only [Act.put, k_a, k_b, k_c]) | ((first | (refine sWN ?_; clear HX; intro w mm HX) | (refine sWP ?_; clear HX; intro w av nv cv HX)); simp only [Act.put, k_a, k_b, k_c]))
    refine sx_ret2 HX rfl rfl (by (repeat (first | (with_reducible exact k_s) | (with_reducible apply k_m)))) (by kernel_rfl) ?_
    rw [HE.out]
    exact ⟨_, P', rfl, hP', ⟨a', n', c', xs', rfl, hrl, hmem⟩, (rt_mono HX.out.cut1.up1 hP').up1⟩
  have HRQ := Lib.hid (show (if (stepsT sess zxid ops S).2.2 ≠ 0 then (failR 0 (stepsT sess zxid ops S).2.2 (stepsT sess zxid ops S).1.length ops.length, S, false) else (⟨0, zxid, 0, -1, (stepsT sess zxid ops S).1⟩, (stepsT sess zxid ops S).2.1, true)) = rr by rw [← HRR.out]; unfold manyT; rw [if_neg h16, if_neg h00])
  have HL := Lib.hid (show ops.length ≤ 16 by omega)
  have q1 : decide (16 < ops.length) = false := decide_eq_false h16
  have q2 : decide (16 < (ops.length : Int)) = false := decide_eq_false (by omega)
  have q3 : ((ops.length : Int) == 0) = false := by rw [beq_eq_false_iff_ne]; omega
  clear h16 h00 HRR
  go_enter Tryz.func26, Tryz.ntmps26
  go_wp2_with (first | go_skip | ((with_reducible apply wpList_skip); (· rfl); simp only [Act.put, k_a, k_b, k_c]) | (refine sWL ?_; simp only [Act.put, k_a, k_b, k_c, k_d, k_e, k_f, k_g, k_h, NodeS.cells, OpS.cells, ResS.cells]) | (refine sWM ?_; simp only [Act.put, k_a, k_b, k_c]) | ((first | refine sWS ?_ | refine sWT ?_); clear HX; intro w HX; simp only [Act.put, k_a, k_b, k_c, setMany, Nat.reduceAdd, NodeS.cells, OpS.cells, ResS.cells] at HX ⊢) | (refine sWA ?_; clear HX; (first | (have hq := b3; clear hq; intro w b4 HX) | (have hq := b2; clear hq; intro w b3 HX) | (have hq := b; clear hq; intro w b2 HX) | intro w b HX); simp only [Act.put, k_a, k_b, k_c]) | ((first | (refine sWN ?_; clear HX; intro w mm HX) | (refine sWP ?_; clear HX; intro w av nv cv HX)); simp only [Act.put, k_a, k_b, k_c]))
  refine (rtcopy_any HX.out.up2.up2 (by have := HBB.out.1.many; omega)).mono ?_
  rintro e w ⟨c, rfl, hS⟩
  clear HX
  have HX := Lib.hid hS
  clear hS
  go_wp2_with (first | go_skip | ((with_reducible apply wpList_skip); (· rfl); simp only [Act.put, k_a, k_b, k_c]) | (refine sWL ?_; simp only [Act.put, k_a, k_b, k_c, k_d, k_e, k_f, k_g, k_h, NodeS.cells, OpS.cells, ResS.cells]) | (refine sWM ?_; simp only [Act.put, k_a, k_b, k_c]) | ((first | refine sWS ?_ | refine sWT ?_); clear HX; intro w HX; simp only [Act.put, k_a, k_b, k_c, setMany, Nat.reduceAdd, NodeS.cells, OpS.cells, ResS.cells] at HX ⊢) | (refine sWA ?_; clear HX; (first | (have hq := b3; clear hq; intro w b4 HX) | (have hq := b2; clear hq; intro w b3 HX) | (have hq := b; clear hq; intro w b2 HX) | intro w b HX); simp only [Act.put, k_a, k_b, k_c]) | ((first | (refine sWN ?_; clear HX; intro w mm HX) | (refine sWP ?_; clear HX; intro w av nv cv HX)); simp only [Act.put, k_a, k_b, k_c]))
  have HST := Lib.hid (show RManyRel w0 b b2 b3 c sess zxid S ops P R rows ops.length (.int .i64 (0 : Int)) w from ⟨0, P, [], none, 0, 0, by simp, rfl, fun q hq => hq, rfl, .nil, (HX.out.nilRow 11).up1⟩)
  clear HX
  go_loopg [12] ops.length (fun k v31 wr => RManyRel w0 b b2 b3 c sess zxid S ops P R rows k v31 wr)
  case atStart => exact HST.out
  case round =>
    obtain ⟨i, P9, xs, a, n, c', hik, rfl, hP9, hst, hrl, hS⟩ := hrel
    rename World => w
    by_cases hlt : i < ops.length
    case neg =>
      obtain rfl : i = ops.length := by omega
      rw [List.take_length] at hst hrl hS
      have HE := Lib.hid (show rr = (⟨0, zxid, 0, -1, (stepsT sess zxid ops S).1⟩, (stepsT sess zxid ops S).2.1, true) by have := HRQ.out; rw [if_neg (fun hh => hh hst)] at this; exact this.symm)
      have HRL := Lib.hid hrl
      have HPP := Lib.hid hP9
      obtain ⟨ac, nc, cc, xc, hec, rfl, hS⟩ := rt_open hS.up3
      obtain ⟨at_, nt, ct, xt, het, rfl, hS⟩ := rt_open hS.up5
      have HC := Lib.hid (show _ ∧ _ ∧ _ from ⟨hec, het, steps_room (sess := sess) (zxid := zxid) ops S⟩)
      have HX := Lib.hid hS
      clear hst hrl hS hP9 hik hlt hec het HST
      go_wp2_with (first | go_skip | ((with_reducible apply wpList_skip); (· rfl); simp only [Act.put, k_a, k_b, k_c]) | (refine sWL ?_; simp only [Act.put, k_a, k_b, k_c, k_d, k_e, k_f, k_g, k_h, NodeS.cells, OpS.cells, ResS.cells]) | (refine sWM ?_; simp only [Act.put, k_a, k_b, k_c]) | ((first | refine sWS ?_ | refine sWT ?_); clear HX; intro w HX; simp only [Act.put, k_a, k_b, k_c, setMany, Nat.reduceAdd, NodeS.cells, OpS.cells, ResS.cells] at HX ⊢) | (refine sWA ?_; clear HX; (first | (have hq := b3; clear hq; intro w b4 HX) | (have hq := b2; clear hq; intro w b3 HX) | (have hq := b; clear hq; intro w b2 HX) | intro w b HX); simp only [Act.put, k_a, k_b, k_c]) | ((first | (refine sWN ?_; clear HX; intro w mm HX) | (refine sWP ?_; clear HX; intro w av nv cv HX)); simp only [Act.put, k_a, k_b, k_c]))
      refine sx_ret2 HX rfl rfl (by (repeat (first | (with_reducible exact k_s) | (with_reducible apply k_m)))) (by kernel_rfl) ?_
      obtain ⟨c1, c2, c3⟩ := HC.out
      have h1 : Sep w0 w (ThRow 11 (.slice a n c') xs :: ThPool w0 P9 :: ThCell b (.cells #[.int .i64 S.room, .slice ac (stepsT sess zxid ops S).2.1.l.length cc] 69 (0, 0)) :: ThRow 11 (.slice ac (stepsT sess zxid ops S).2.1.l.length cc) xc :: R) rows := HX.out.pm 8 [5, 6, 0, 3] rfl rfl
      rw [← c3] at h1
      have h2 := rt_shut (P := (11, .slice a n c', xs) :: P9) h1.poolRow.up2.up2 (c1.mono (fun q hq => k_n _ hq))
      rw [HE.out]
      exact ⟨_, (11, .slice a n c', xs) :: P9, rfl, fun q hq => k_n _ (HPP.out q hq), ⟨a, n, c', xs, rfl, HRL.out.mono (fun q hq => k_n _ hq), k_s⟩, h2.up1⟩
    case pos =>
      obtain ⟨g, off, rfl⟩ := HNE.out (by intro e; have := congrArg List.length e; rw [flatG_len opcells_len] at this; simp at this; omega)
      obtain ⟨E, hE⟩ := hS.up2.poolGet (hP9 _ HV.out)
      have hl := row_load (P := Tryz.prog) (f := OpS.cells) (i := i) hE opcells_len sn_op hlt
      have hsplit : ops = ops.take i ++ ops[i] :: ops.drop (i + 1) := by rw [← List.drop_eq_getElem_cons hlt, List.take_append_drop]
      have htk : ops.take (i + 1) = ops.take i ++ [ops[i]] := List.take_succ_eq_append_getElem hlt
      have hsn := steps_snoc (sess := sess) (zxid := zxid) ops[i] (ops.take i) S hst
      have hfl := steps_fail (sess := sess) (zxid := zxid) ops[i] (ops.drop (i + 1)) (ops.take i) S hst
      have hlen := steps_len (ops.take i) S hst
      have hti : (ops.take i).length = i := by rw [List.length_take]; omega
      rw [hti] at hlen hfl
      rw [← hsplit] at hfl
      rw [← htk] at hsn
      have HTB := Lib.hid (steps_b (sess := sess) (zxid := zxid) (ops.take i) HBB.out.1)
      have HPO := Lib.hid (hp ops[i] (List.getElem_mem hlt))
      obtain ⟨o, ho⟩ : ∃ o, ops[i] = o := ⟨_, rfl⟩
      rw [ho] at hl hsn hfl HPO
      obtain ⟨st, hstt⟩ : ∃ st, stepsT sess zxid (ops.take i) S = st := ⟨_, rfl⟩
      rw [hstt] at hsn hfl hlen hst hrl hS HTB
      obtain ⟨r2, hr2⟩ : ∃ r2, doT st.2.1 o sess zxid = r2 := ⟨_, rfl⟩
      rw [hr2] at hsn hfl
      have HSN := Lib.hid (show _ ∧ _ ∧ _ from ⟨hsn, hfl, hlen⟩)
      have HRL := Lib.hid hrl
      have HR2 := Lib.hid hr2
      have HPP := Lib.hid hP9
      have HX := Lib.hid hS
      have q0 : decide (i < ops.length) = true := decide_eq_true hlt
      have q9 : i ≤ 16 := by have := HL.out; omega
      obtain ⟨kind, path, data, ver, flags⟩ := o
      simp only [OpS.cells] at hl
      clear hE hsplit htk hsn hfl hti hlen hst hrl hS ho hstt hr2 hP9 HST
      go_wp2_with (first | go_skip | ((with_reducible apply wpList_skip); (· rfl); simp only [Act.put, k_a, k_b, k_c]) | (refine sWL ?_; simp only [Act.put, k_a, k_b, k_c, k_d, k_e, k_f, k_g, k_h, NodeS.cells, OpS.cells, ResS.cells]) | (refine sWM ?_; simp only [Act.put, k_a, k_b, k_c]) | ((first | refine sWS ?_ | refine sWT ?_); clear HX; intro w HX; simp only [Act.put, k_a, k_b, k_c, setMany, Nat.reduceAdd, NodeS.cells, OpS.cells, ResS.cells] at HX ⊢) | (refine sWA ?_; clear HX; (first | (have hq := b3; clear hq; intro w b4 HX) | (have hq := b2; clear hq; intro w b3 HX) | (have hq := b; clear hq; intro w b2 HX) | intro w b HX); simp only [Act.put, k_a, k_b, k_c]) | ((first | (refine sWN ?_; clear HX; intro w mm HX) | (refine sWP ?_; clear HX; intro w av nv cv HX)); simp only [Act.put, k_a, k_b, k_c]) | ((with_reducible apply sx_loadAt hl); (· rfl); (· rfl); simp only [Act.put, k_a, k_b, k_c]))
      have hKK : K + (ops.take i).length ≤ 100000 := by have := HBB.out.2; have := HL.out; rw [List.length_take]; omega
      refine (rtdo_any HX.out.up3.up3 ⟨kind, path, data, ver, flags⟩ HPO.out sess zxid HTB.out.rise (HTB.out.ok hKK) (by have := HTB.out.many; omega)).mono ?_
      rw [HR2.out]
      rintro e w ⟨nv, P2, rfl, hP2, hnv, hx⟩
      clear HX hKK
      have HX := Lib.hid hx
      obtain ⟨E, hE⟩ := Sep.poolGet hx hnv
      obtain ⟨na, nn, nc, rfl, -⟩ := id hE
      have HNV := Lib.hid hnv
      have HP2 := Lib.hid hP2
      clear hx hE hnv hP2
      obtain ⟨r, S3⟩ := r2
      dsimp only at HSN HX HNV ⊢
      simp only [ResS.cells]
      by_cases her : r.err = 0
      · have q4 : (r.err != 0) = false := by rw [her]; rfl
        have HER := Lib.hid her
        have HBD := Lib.hid (show ∀ n, xs.length = n * 11 → n + 1 ≤ 140737488355328 ∧ (n + 1) * 120 ≤ 140737488355328 from fun n hn => by
          have h1 := HRL.out.len
          rw [HSN.out.2.2] at h1
          have := HL.out
          omega)
        clear her
        go_wp2_with (first | go_skip | ((with_reducible apply wpList_skip); (· rfl); simp only [Act.put, k_a, k_b, k_c]) | (refine sWL ?_; simp only [Act.put, k_a, k_b, k_c, k_d, k_e, k_f, k_g, k_h, NodeS.cells, OpS.cells, ResS.cells]) | (refine sWM ?_; simp only [Act.put, k_a, k_b, k_c]) | ((first | refine sWS ?_ | refine sWT ?_); clear HX; intro w HX; simp only [Act.put, k_a, k_b, k_c, setMany, Nat.reduceAdd, NodeS.cells, OpS.cells, ResS.cells] at HX ⊢) | (refine sWA ?_; clear HX; (first | (have hq := b3; clear hq; intro w b4 HX) | (have hq := b2; clear hq; intro w b3 HX) | (have hq := b; clear hq; intro w b2 HX) | intro w b HX); simp only [Act.put, k_a, k_b, k_c]) | ((first | (refine sWN ?_; clear HX; intro w mm HX) | (refine sWP ?_; clear HX; intro w av nv cv HX)); simp only [Act.put, k_a, k_b, k_c]))
        go_roundg (ops.length - (i + 1))
        case rel =>
          have h := HSN.out.1
          rw [if_neg (fun hh => hh HER.out)] at h
          have h1 := rt_mono HX.out.up6 HP2.out
          exact ⟨i + 1, P2, _, av, nv, cv, by omega, by go_num, fun q hq => HP2.out q (HPP.out q hq), by rw [h], by rw [h]; exact (HRL.out.mono HP2.out).snoc HNV.out, by rw [h]; exact h1.pm 8 [6, 1, 4, 5, 0, 7] rfl rfl⟩
        case measure => omega
      · have q4 : (r.err != 0) = true := by rw [bne_iff_ne]; exact her
        have h1 := HSN.out.2.1 her
        have HE := Lib.hid (show rr = (failR 0 r.err i ops.length, S, false) by have := HRQ.out; rw [h1.1, h1.2, if_pos her] at this; exact this.symm)
        clear h1 her
        go_wp2_with (first | go_skip | ((with_reducible apply wpList_skip); (· rfl); simp only [Act.put, k_a, k_b, k_c]) | (refine sWL ?_; simp only [Act.put, k_a, k_b, k_c, k_d, k_e, k_f, k_g, k_h, NodeS.cells, OpS.cells, ResS.cells]) | (refine sWM ?_; simp only [Act.put, k_a, k_b, k_c]) | ((first | refine sWS ?_ | refine sWT ?_); clear HX; intro w HX; simp only [Act.put, k_a, k_b, k_c, setMany, Nat.reduceAdd, NodeS.cells, OpS.cells, ResS.cells] at HX ⊢) | (refine sWA ?_; clear HX; (first | (have hq := b3; clear hq; intro w b4 HX) | (have hq := b2; clear hq; intro w b3 HX) | (have hq := b; clear hq; intro w b2 HX) | intro w b HX); simp only [Act.put, k_a, k_b, k_c]) | ((first | (refine sWN ?_; clear HX; intro w mm HX) | (refine sWP ?_; clear HX; intro w av nv cv HX)); simp only [Act.put, k_a, k_b, k_c]))
        refine (rfail5_any HX.out.up1 _ _ _ _).mono ?_
        rintro e w ⟨v, P', rfl, hP', ⟨a', n', c', xs', rfl, hrl', hmem⟩, hS⟩
        clear HX
        have HX := Lib.hid hS
        clear hS
        go_wp2_with (first | go_skip | ((with_reducible apply wpList_skip); (· rfl); simp only [Act.put, k_a, k_b, k_c]) | (refine sWL ?_; simp only [Act.put, k_a, k_b, k_c, k_d, k_e, k_f, k_g, k_h, NodeS.cells, OpS.cells, ResS.cells]) | (refine sWM ?_; simp only [Act.put, k_a, k_b, k_c]) | ((first | refine sWS ?_ | refine sWT ?_); clear HX; intro w HX; simp only [Act.put, k_a, k_b, k_c, setMany, Nat.reduceAdd, NodeS.cells, OpS.cells, ResS.cells] at HX ⊢) | (refine sWA ?_; clear HX; (first | (have hq := b3; clear hq; intro w b4 HX) | (have hq := b2; clear hq; intro w b3 HX) | (have hq := b; clear hq; intro w b2 HX) | intro w b HX); simp only [Act.put, k_a, k_b, k_c]) | ((first | (refine sWN ?_; clear HX; intro w mm HX) | (refine sWP ?_; clear HX; intro w av nv cv HX)); simp only [Act.put, k_a, k_b, k_c]))
        refine sx_ret2 HX rfl rfl (by (repeat (first | (with_reducible exact k_s) | (with_reducible apply k_m)))) (by kernel_rfl) ?_
        rw [HE.out]
        exact ⟨_, P', rfl, fun q hq => hP' q (HP2.out q (HPP.out q hq)), ⟨a', n', c', xs', rfl, hrl', hmem⟩, (rt_mono HX.out.up5 (fun q hq => hP' q (HP2.out q hq))).pm 7 [1, 0] rfl rfl⟩
end
end Go.Proofs.YtjeaoopamebgjaaGreatDoor

namespace Go.Proofs.YtjeaoopamebgjaaGreatDoor
open Go.RowKit Go.Av
theorem sn_rreq : StructN Tryz.prog 76 3 := ⟨by kernel_rfl⟩
section
variable {w0 w : World} {b : Nat} {S : TreeS} {P P' : List PRow} {R : List Thing} {rows : List (Value × Bs)}
def RReqPost (w0 : World) (b : Nat) (P : List PRow) (R : List Thing) (rows : List (Value × Bs)) (m : ReplyS × TreeS) (e : Ending) (w' : World) : Prop :=
  ∃ v P', e = .returned v ∧ (∀ q ∈ P, q ∈ P') ∧ ReplyIn P' m.1 v ∧ Sep w0 w' (ThPool w0 P' :: ThRt b m.2 P' :: R) rows
set_option maxRecDepth 100000 in
set_option maxHeartbeats 8000000 in
theorem ask10_any {K : Nat} (h : Sep w0 w (ThPool w0 P :: ThRt b S P :: R) rows) (hB : TreeB K S) (hK : K + 16 ≤ 100000) (sess num zxid : Int) (ops : List OpS) (v : Value) (hv : (5, v, ops.flatMap OpS.cells) ∈ P) (hp : ∀ o ∈ ops, o.path.size ≤ 100000) :
    Calls Tryz.prog 29 #[.pointer (some ⟨b, 0, none⟩), .agg #[.int .i64 sess, .int .i64 num, v], .int .i64 zxid] w (RReqPost w0 b P R rows (requestT S sess num zxid ops)) := by
  obtain ⟨E, hE⟩ := h.poolGet hv
  obtain ⟨a, n, c, rfl, -⟩ := ReadRow.some hE
  have HV := Lib.hid hv
  have HX := Lib.hid h
  have HPS := Lib.hid hp
  have HB := Lib.hid (show _ ∧ _ from ⟨hB, hK⟩)
  obtain ⟨rr, hrr⟩ : ∃ rr, requestT S sess num zxid ops = rr := ⟨_, rfl⟩
  rw [hrr]
  have HRR := Lib.hid hrr
  clear h hE hv hp hB hK hrr
  obtain ⟨me, hme⟩ : ∃ me, mayS sess num ops = me := ⟨_, rfl⟩
  have HME := Lib.hid hme
  clear hme
  go_enter Tryz.func29, Tryz.ntmps29
  go_wp2_with (first | ((with_reducible apply sx_loadS HX); (· rfl); (· rfl); (· exact sn_rreq); (· (repeat (first | (with_reducible exact k_s) | (with_reducible apply k_m)))); (· rfl); simp only [Act.put, k_a, k_b, k_c, k_d, k_e, k_f, k_g, k_h]) | go_skip | (refine sWL ?_; simp only [Act.put, k_a, k_b, k_c, k_d, k_e, k_f, k_g, k_h, NodeS.cells, OpS.cells, ResS.cells]) | (refine sWM ?_; simp only [Act.put, k_a, k_b, k_c]) | ((first | refine sWS ?_ | refine sWT ?_); clear HX; intro w HX; simp only [Act.put, k_a, k_b, k_c, setMany, Nat.reduceAdd, NodeS.cells, OpS.cells, ResS.cells] at HX ⊢) | (refine sWA ?_; clear HX; (first | (have hq := b; clear hq; intro w b2 HX) | intro w b HX); simp only [Act.put, k_a, k_b, k_c]) | ((first | (refine sWN ?_; clear HX; intro w mm HX) | (refine sWP ?_; clear HX; intro w av nv cv HX)); simp only [Act.put, k_a, k_b, k_c]))
  refine (may5_any HX.out.up2 sess num ops _ HV.out HPS.out).mono ?_
  rw [HME.out]
  rintro e w ⟨rfl, hx⟩
  clear HX
  have HX := Lib.hid hx
  clear hx
  by_cases h0 : me = 0
  · have q1 : (me != 0) = false := by rw [h0]; rfl
    have HE := Lib.hid (show rr = (⟨num, zxid, (manyT S sess zxid ops).1.err, (manyT S sess zxid ops).1.at_, (manyT S sess zxid ops).1.rs⟩, (manyT S sess zxid ops).2.1) by rw [← HRR.out]; unfold requestT; rw [if_neg (fun hh => hh (HME.out.trans h0))])
    clear h0
    go_wp2_with (first | go_skip | (refine sWL ?_; simp only [Act.put, k_a, k_b, k_c, k_d, k_e, k_f, k_g, k_h, NodeS.cells, OpS.cells, ResS.cells]) | (refine sWM ?_; simp only [Act.put, k_a, k_b, k_c]) | ((first | refine sWS ?_ | refine sWT ?_); clear HX; intro w HX; simp only [Act.put, k_a, k_b, k_c, setMany, Nat.reduceAdd, NodeS.cells, OpS.cells, ResS.cells] at HX ⊢) | (refine sWA ?_; clear HX; (first | (have hq := b; clear hq; intro w b2 HX) | intro w b HX); simp only [Act.put, k_a, k_b, k_c]) | ((first | (refine sWN ?_; clear HX; intro w mm HX) | (refine sWP ?_; clear HX; intro w av nv cv HX)); simp only [Act.put, k_a, k_b, k_c]))
    refine (many10_any HX.out.up3.up1 HB.out.1 HB.out.2 sess zxid ops _ HV.out HPS.out).mono ?_
    obtain ⟨⟨⟨n1, z1, e1, a1, rs1⟩, S1, ok1⟩, hm1⟩ : ∃ m1, manyT S sess zxid ops = m1 := ⟨_, rfl⟩
    rw [hm1] at HE ⊢
    rintro e w ⟨v, P', rfl, hP', ⟨a9, n9, c9, xs9, rfl, hrl9, hmem9⟩, hx⟩
    clear HX hm1
    have HX := Lib.hid hx
    have HPN := Lib.hid (show _ ∧ _ ∧ _ from ⟨hP', hrl9, hmem9⟩)
    clear hx hP' hrl9 hmem9
    dsimp only at HX HE HPN ⊢
    go_wp2_with (first | go_skip | (refine sWL ?_; simp only [Act.put, k_a, k_b, k_c, k_d, k_e, k_f, k_g, k_h, NodeS.cells, OpS.cells, ResS.cells]) | (refine sWM ?_; simp only [Act.put, k_a, k_b, k_c]) | ((first | refine sWS ?_ | refine sWT ?_); clear HX; intro w HX; simp only [Act.put, k_a, k_b, k_c, setMany, Nat.reduceAdd, NodeS.cells, OpS.cells, ResS.cells] at HX ⊢) | (refine sWA ?_; clear HX; (first | (have hq := b; clear hq; intro w b2 HX) | intro w b HX); simp only [Act.put, k_a, k_b, k_c]) | ((first | (refine sWN ?_; clear HX; intro w mm HX) | (refine sWP ?_; clear HX; intro w av nv cv HX)); simp only [Act.put, k_a, k_b, k_c]))
    refine sx_ret HX rfl rfl (by (repeat (first | (with_reducible exact k_s) | (with_reducible apply k_m)))) (by kernel_rfl) ?_
    rw [HE.out]
    exact ⟨_, P', rfl, HPN.out.1, ⟨a9, n9, c9, xs9, rfl, HPN.out.2.1, HPN.out.2.2⟩, HX.out.pm 5 [1, 2] rfl rfl⟩
  · have q1 : (me != 0) = true := by rw [bne_iff_ne]; exact h0
    have HE := Lib.hid (show rr = (failR num me (-1) 0, S) by rw [← HRR.out]; unfold requestT; rw [HME.out, if_pos h0])
    clear h0
    go_wp2_with (first | go_skip | (refine sWL ?_; simp only [Act.put, k_a, k_b, k_c, k_d, k_e, k_f, k_g, k_h, NodeS.cells, OpS.cells, ResS.cells]) | (refine sWM ?_; simp only [Act.put, k_a, k_b, k_c]) | ((first | refine sWS ?_ | refine sWT ?_); clear HX; intro w HX; simp only [Act.put, k_a, k_b, k_c, setMany, Nat.reduceAdd, NodeS.cells, OpS.cells, ResS.cells] at HX ⊢) | (refine sWA ?_; clear HX; (first | (have hq := b; clear hq; intro w b2 HX) | intro w b HX); simp only [Act.put, k_a, k_b, k_c]) | ((first | (refine sWN ?_; clear HX; intro w mm HX) | (refine sWP ?_; clear HX; intro w av nv cv HX)); simp only [Act.put, k_a, k_b, k_c]))
    refine (rfail5_any HX.out _ _ _ _).mono ?_
    rintro e w ⟨v, P', rfl, hP', ⟨a', n', c', xs', rfl, hrl, hmem⟩, hx⟩
    clear HX
    have HX := Lib.hid hx
    have HPN := Lib.hid (show _ ∧ _ ∧ _ from ⟨hP', hrl, hmem⟩)
    clear hx hP' hrl hmem
    dsimp only at HX ⊢
    go_wp2_with (first | go_skip | (refine sWL ?_; simp only [Act.put, k_a, k_b, k_c, k_d, k_e, k_f, k_g, k_h, NodeS.cells, OpS.cells, ResS.cells]) | (refine sWM ?_; simp only [Act.put, k_a, k_b, k_c]) | ((first | refine sWS ?_ | refine sWT ?_); clear HX; intro w HX; simp only [Act.put, k_a, k_b, k_c, setMany, Nat.reduceAdd, NodeS.cells, OpS.cells, ResS.cells] at HX ⊢) | (refine sWA ?_; clear HX; (first | (have hq := b; clear hq; intro w b2 HX) | intro w b HX); simp only [Act.put, k_a, k_b, k_c]) | ((first | (refine sWN ?_; clear HX; intro w mm HX) | (refine sWP ?_; clear HX; intro w av nv cv HX)); simp only [Act.put, k_a, k_b, k_c]))
    refine sx_ret HX rfl rfl (by (repeat (first | (with_reducible exact k_s) | (with_reducible apply k_m)))) (by kernel_rfl) ?_
    rw [HE.out]
    exact ⟨_, P', rfl, HPN.out.1, ⟨a', n', c', xs', rfl, HPN.out.2.1, HPN.out.2.2⟩, (rt_mono HX.out.up3 HPN.out.1).pm 4 [1, 0] rfl rfl⟩
end
end Go.Proofs.YtjeaoopamebgjaaGreatDoor
