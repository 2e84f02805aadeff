/-
  Routes in bytes, in plain words: what is written is read as it was.
-/
import Derived.Test.YtfncdgnhiinmjaaDoorRouteH
namespace Go.Proofs.YtfncdgnhiinmjaaDoor
open Go.RowKit Go.Av

/-- What moves keep of a table. -/
structure RtInv (S : RtS) : Prop where
  ok : RtOK S
  nodup : (S.mv.map (·.1)).Nodup
  names : ∀ e ∈ S.mv, topP (47 :: e.1) = e.1 ∧ e.1 ≠ []
  most : S.mv.length ≤ 50
  ver : 1 + (S.mv.length : Int) ≤ S.ver
  one : S.mv.length = 0 → S.ver = 1

theorem setM_keys (k : Bs) (v : Int) (l : List (Bs × Int)) : (setM k v l).map (·.1) = match lookM k l with | some _ => l.map (·.1) | none => l.map (·.1) ++ [k] := by
  unfold setM
  cases hl : lookM k l with
  | some v0 =>
    dsimp only
    rw [List.map_map]
    refine List.map_congr_left fun e _ => ?_
    simp only [Function.comp]
    split <;> rfl
  | none => simp
theorem setM_len (k : Bs) (v : Int) (l : List (Bs × Int)) : (setM k v l).length = match lookM k l with | some _ => l.length | none => l.length + 1 := by
  have := congrArg List.length (setM_keys k v l)
  rw [List.length_map] at this
  rw [this]
  split <;> simp
theorem inv_move {S : RtS} (h : RtInv S) (top : Bs) (sh : Int) : RtInv (moveS S top sh).2 := by
  by_cases hz : (moveS S top sh).1 = 0
  case neg => rw [move_no hz]; exact h
  have hok := move_okS h.ok top sh
  obtain ⟨hb, hS⟩ := move_ok hz
  obtain ⟨b1, b2, b3, b4⟩ := badM_false hb
  have hlim : ¬ (lookM top S.mv = none ∧ 50 ≤ S.mv.length) := fun h2 => by
    unfold moveS at hz
    rw [hb, if_neg (by simp), if_pos h2] at hz
    cases hz
  rw [hS] at hok ⊢
  have hlen := setM_len top sh S.mv
  refine ⟨hok, ?_, fun e he => ?_, ?_, ?_, fun h0 => ?_⟩
  · dsimp only
    rw [setM_keys]
    cases hl : lookM top S.mv with
    | some _ => exact h.nodup
    | none =>
      dsimp only
      rw [List.nodup_append]
      refine ⟨h.nodup, by simp, fun a ha b hb he => ?_⟩
      rw [List.mem_singleton] at hb
      obtain ⟨e, he', rfl⟩ := List.mem_map.1 ha
      exact lookM_none hl e he' (he.trans hb)
  · rcases set_mem he with he | rfl
    · exact h.names e he
    · exact ⟨b1, b2⟩
  · dsimp only
    rw [hlen]
    cases hl : lookM top S.mv with
    | some _ => exact h.most
    | none =>
      have h50 : ¬ 50 ≤ S.mv.length := fun h2 => hlim ⟨hl, h2⟩
      show S.mv.length + 1 ≤ 50
      omega
  · dsimp only
    rw [hlen]
    have hv := h.ver
    cases hl : lookM top S.mv with
    | some _ => show 1 + (S.mv.length : Int) ≤ S.ver + 1; omega
    | none => show 1 + ((S.mv.length + 1 : Nat) : Int) ≤ S.ver + 1; omega
  · dsimp only at h0
    rw [hlen] at h0
    cases hl : lookM top S.mv with
    | some v =>
      rw [hl] at h0
      dsimp only at h0
      obtain ⟨l1, l2, he, -⟩ := lookM_some hl
      rw [he] at h0
      simp at h0
    | none =>
      rw [hl] at h0
      have h0 : S.mv.length + 1 = 0 := h0
      omega
theorem inv_new {n : Int} (h1 : 1 ≤ n) (h4 : n ≤ 4) : RtInv ⟨n, 1, []⟩ := ⟨⟨h1, h4, by simp⟩, by simp, by simp, by simp, by simp, fun _ => rfl⟩
theorem inv_short {S : RtS} (h : RtInv S) : RtSh S := by
  refine ⟨by have := h.most; omega, fun e he => ?_⟩
  obtain ⟨h1, h2⟩ := h.names e he
  obtain ⟨-, q, -, -, -, hn⟩ := top_path (p := 47 :: e.1) (by rw [h1]; exact h2)
  rw [h1] at hn
  unfold nameS at hn
  simp only [Bool.and_eq_true, decide_eq_true_eq] at hn
  omega
theorem name_len {S : RtS} (h : RtInv S) {e : Bs × Int} (he : e ∈ S.mv) : e.1.length ≤ 40 := by
  obtain ⟨h1, h2⟩ := h.names e he
  obtain ⟨-, q, -, -, -, hn⟩ := top_path (p := 47 :: e.1) (by rw [h1]; exact h2)
  rw [h1] at hn
  unfold nameS at hn
  simp only [Bool.and_eq_true, decide_eq_true_eq] at hn
  omega
theorem memM_look {l : List (Bs × Int)} (hn : (l.map (·.1)).Nodup) {k : Bs} {v : Int} (h : (k, v) ∈ l) : lookM k l = some v := by
  cases hl : lookM k l with
  | none => exact absurd rfl (lookM_none hl _ h)
  | some y =>
    obtain ⟨l1, l2, he, -⟩ := lookM_some hl
    have hm : (k, y) ∈ l := by rw [he]; simp
    have := nodup_inj hn h hm rfl
    cases this
    rfl

/-- The same, by rising names. -/
def sortM (S : RtS) : List (Bs × Int) := (keysM S).filterMap fun k => (lookM k S.mv).map fun v => (k, v)
def sortT (S : RtS) : RtS := { S with mv := sortM S }
theorem keysM_perm (S : RtS) : (keysM S).Perm (S.mv.map (·.1)) := List.mergeSort_perm _ _
theorem keysM_sorted {S : RtS} (h : RtInv S) : (keysM S).Pairwise fun a b => ¬ b ≤ a := by
  have h1 : (keysM S).Pairwise (fun a b => decide (a ≤ b) = true) := List.pairwise_mergeSort (fun a b c h1 h2 => by simp at *; exact List.le_trans h1 h2) (fun a b => by simp; exact List.le_total a b) _
  have h2 : (keysM S).Pairwise (· ≠ ·) := (keysM_perm S).nodup_iff.2 h.nodup
  refine (h1.and h2).imp fun {a b} h hb => ?_
  have := h.1
  simp at this
  exact h.2 (List.le_antisymm this hb)

theorem getTN_put {S : RtS} (hI : RtInv S) : ∀ (ks : List Bs) (last : Bs) (x : Bs) (T : RtS), (last :: ks).Pairwise (fun a b => ¬ b ≤ a) → (∀ k ∈ ks, k ∈ keysM S) → T.n = S.n → (∀ k ∈ ks, lookM k T.mv = none) → T.mv.length + ks.length ≤ 50 →
    getTN ks.length last (ks.flatMap (entM S) ++ x, false) T = some ({ T with ver := T.ver + ks.length, mv := T.mv ++ ks.filterMap fun k => (lookM k S.mv).map fun v => (k, v) }, x, false)
  | [], last, x, T, _, _, _, _, _ => by simp [getTN]
  | k :: ks, last, x, T, hp, hk, hn, hno, hl => by
    obtain ⟨⟨v, hv⟩, e, he, hek⟩ := keysM_in (hk k (by simp))
    have hmem : (k, v) ∈ S.mv := by
      obtain ⟨l1, l2, h1, -⟩ := lookM_some hv
      rw [h1]; simp
    have hnm := hI.names _ hmem
    have hkl := name_len hI hmem
    have hvb := hI.ok.2.2 _ hmem
    have hn4 := hI.ok.2.1
    dsimp only at hnm hkl hvb
    have hen : entM S k = textB k ++ packI v := by unfold entM; rw [hv]; rfl
    have h1 : textR 40 ((k :: ks).flatMap (entM S) ++ x, false) = (k, packI v ++ (ks.flatMap (entM S) ++ x), false) := by
      rw [List.flatMap_cons, hen, List.append_assoc, List.append_assoc, textR_text 40 k _ false (by omega) (by decide)]
    have h2 : cntR 4 (packI v ++ (ks.flatMap (entM S) ++ x), false) = (v, ks.flatMap (entM S) ++ x, false) := cntR_pack 4 v _ false hvb.1 (by omega) (by decide)
    have hnk := hno k (by simp)
    have hbad : badM T k v = false := by
      unfold badM
      rw [hnm.1, hn]
      simp only [BEq.rfl, Bool.not_true, Bool.false_or, Bool.or_eq_false_iff, beq_eq_false_iff_ne, decide_eq_false_iff_not]
      exact ⟨⟨hnm.2, by omega⟩, by omega⟩
    have hmv : moveS T k v = (0, { T with ver := T.ver + 1, mv := T.mv ++ [(k, v)] }) := by
      unfold moveS
      rw [hbad, if_neg (by simp), if_neg (fun h => by have := h.2; simp at hl; omega)]
      unfold setM
      rw [hnk]
    rw [List.length_cons, getTN, h1]
    dsimp only
    rw [h2]
    dsimp only
    rw [if_neg ((List.pairwise_cons.1 hp).1 k (by simp)), hmv]
    dsimp only
    rw [if_neg (by simp)]
    have hp2 := (List.pairwise_cons.1 hp).2
    rw [getTN_put hI ks k x { T with ver := T.ver + 1, mv := T.mv ++ [(k, v)] } hp2 (fun k hk' => hk k (by simp [hk'])) hn (fun k' hk' => by
      dsimp only
      rw [look_appM, hno k' (by simp [hk'])]
      dsimp only
      rw [if_neg]
      intro e
      exact (List.pairwise_cons.1 hp2).1 k' hk' (by rw [e]; exact List.le_refl _)) (by simp at hl ⊢; omega)]
    simp only [List.filterMap_cons, hv, Option.map_some, List.append_assoc, List.singleton_append, List.length_cons]
    congr 3
    push_cast
    omega
theorem getT_put {S : RtS} (hI : RtInv S) (hv : S.ver ≤ 1000000) : getT (bytesT S) = some (sortT S) := by
  have hv1 := hI.ver
  have hm := hI.most
  obtain ⟨o1, o2, o3⟩ := hI.ok
  have hkl := keysM_len S
  have e1 : cntR 4 (bytesT S, false) = (S.n, packI S.ver ++ (packI (S.mv.length : Int) ++ (keysM S).flatMap (entM S)), false) := by
    unfold bytesT
    simp only [List.flatMap_cons, List.flatMap_nil, List.append_nil, List.append_assoc]
    exact cntR_pack 4 S.n _ false (by omega) o2 (by decide)
  have e2 : i64R (packI S.ver ++ (packI (S.mv.length : Int) ++ (keysM S).flatMap (entM S)), false) = (S.ver, packI (S.mv.length : Int) ++ (keysM S).flatMap (entM S), false) := i64R_pack _ _ _ (by omega) (by omega)
  have e3 : cntR 50 (packI (S.mv.length : Int) ++ (keysM S).flatMap (entM S), false) = ((S.mv.length : Int), (keysM S).flatMap (entM S), false) := cntR_pack 50 _ _ false (by omega) (by omega) (by decide)
  unfold getT
  rw [e1]
  dsimp only
  rw [if_neg (by omega), e2]
  dsimp only
  rw [e3]
  dsimp only
  rw [Int.toNat_natCast, ← hkl]
  have := getTN_put hI (keysM S) [] [] ⟨S.n, 1, []⟩ (List.pairwise_cons.2 ⟨fun k hk h0 => by
    obtain ⟨-, e, he, hek⟩ := keysM_in hk
    have := (hI.names e he).2
    rw [hek] at this
    cases k with
    | nil => exact this rfl
    | cons c r => exact absurd h0 (by simp), keysM_sorted hI⟩) (fun _ h => h) rfl (fun _ _ => rfl) (by simp; omega)
  rw [List.append_nil] at this
  rw [this]
  unfold endT
  dsimp only
  have hml : (sortM S).length = S.mv.length := by
    unfold sortM
    rw [← hkl]
    have : ∀ ks : List Bs, (∀ k ∈ ks, k ∈ keysM S) → (ks.filterMap fun k => (lookM k S.mv).map fun v => (k, v)).length = ks.length := by
      intro ks
      induction ks with
      | nil => intro _; rfl
      | cons k ks ih =>
        intro h
        obtain ⟨⟨v, hv⟩, -⟩ := keysM_in (h k (by simp))
        rw [List.filterMap_cons, hv]
        simp only [Option.map_some, List.length_cons, ih (fun k hk => h k (by simp [hk]))]
    exact this _ (fun _ h => h)
  have hml2 : (([] : List (Bs × Int)) ++ (keysM S).filterMap fun k => (lookM k S.mv).map fun v => (k, v)).length = S.mv.length := by rw [List.nil_append]; exact hml
  rw [hml2]
  have c1 : decide (S.ver < 1 + ((keysM S).length : Int)) = false := decide_eq_false (by rw [hkl]; omega)
  have c2 : decide (1099511627776 < S.ver) = false := decide_eq_false (by omega)
  have c3 : (((S.mv.length : Int) == 0) && (S.ver != 1)) = false := by
    cases h0 : ((S.mv.length : Int) == 0) with
    | false => rfl
    | true =>
      have := hI.one (by simpa using h0)
      simp [this]
  rw [c1, c2, c3]
  simp [sortT, sortM]
end Go.Proofs.YtfncdgnhiinmjaaDoor
