/-
  Routes: two tables that are alike, side by side.
-/
import Derived.Test.YtfncdgnhiinmjaaDoorRouteJ
namespace Go.Proofs.YtfncdgnhiinmjaaDoor
open Go.RowKit Go.Av Go.Maps Go.Sort

structure AlikeT (S T : RtS) : Prop where
  n : S.n = T.n
  ver : S.ver = T.ver
  look : ∀ k, lookM k S.mv = lookM k T.mv
theorem sort_alike {S : RtS} (h : RtInv S) : AlikeT S (sortT S) := by
  refine ⟨rfl, rfl, fun k => ?_⟩
  have hk : ∀ e ∈ sortM S, lookM e.1 S.mv = some e.2 := fun e he => by
    obtain ⟨k, _, hk⟩ := List.mem_filterMap.1 he
    cases hl : lookM k S.mv with
    | none => rw [hl] at hk; cases hk
    | some x => rw [hl] at hk; cases hk; exact hl
  show lookM k S.mv = lookM k (sortM S)
  cases hl : lookM k (sortM S) with
  | some v =>
    obtain ⟨l1, l2, he, -⟩ := lookM_some hl
    exact hk (k, v) (by rw [he]; simp)
  | none =>
    cases hl2 : lookM k S.mv with
    | none => rfl
    | some v =>
      obtain ⟨l1, l2, he, -⟩ := lookM_some hl2
      have hkm : k ∈ keysM S := (keysM_perm S).mem_iff.2 (List.mem_map.2 ⟨(k, v), by rw [he]; simp, rfl⟩)
      exact absurd rfl (lookM_none hl (k, v) (List.mem_filterMap.2 ⟨k, hkm, by rw [hl2]; rfl⟩))
theorem sort_keys {S : RtS} : (sortM S).map (·.1) = keysM S := by
  unfold sortM
  have : ∀ ks : List Bs, (∀ k ∈ ks, k ∈ keysM S) → (ks.filterMap fun k => (lookM k S.mv).map fun v => (k, v)).map (·.1) = ks := by
    intro ks
    induction ks with
    | nil => intro _; rfl
    | cons k ks ih =>
      intro h
      obtain ⟨⟨v, hv⟩, -⟩ := keysM_in (h k (by simp))
      rw [List.filterMap_cons, hv]
      simp only [Option.map_some, List.map_cons, ih (fun k hk => h k (by simp [hk]))]
  exact this _ (fun _ h => h)
theorem sort_mem {S : RtS} {e : Bs × Int} (he : e ∈ sortM S) : e ∈ S.mv := by
  obtain ⟨k, _, hk⟩ := List.mem_filterMap.1 he
  cases hl : lookM k S.mv with
  | none => rw [hl] at hk; cases hk
  | some x =>
    rw [hl] at hk
    cases hk
    obtain ⟨l1, l2, h1, -⟩ := lookM_some hl
    rw [h1]; simp
theorem sort_lenM {S : RtS} : (sortM S).length = S.mv.length := by
  rw [← keysM_len S, ← sort_keys, List.length_map]
theorem sort_invT {S : RtS} (h : RtInv S) : RtInv (sortT S) := by
  refine ⟨⟨h.ok.1, h.ok.2.1, fun e he => h.ok.2.2 e (sort_mem he)⟩, ?_, fun e he => h.names e (sort_mem he), ?_, ?_, fun h0 => h.one ?_⟩
  · show ((sortM S).map (·.1)).Nodup
    rw [sort_keys]; exact (keysM_perm S).nodup_iff.2 h.nodup
  · show (sortM S).length ≤ 50
    rw [sort_lenM]; exact h.most
  · show 1 + ((sortM S).length : Int) ≤ S.ver
    rw [sort_lenM]; exact h.ver
  · have h0 : (sortM S).length = 0 := h0
    rw [sort_lenM] at h0; exact h0
theorem ids_mem {l : List (Bs × Int)} (k : Bs) : k ∈ l.map (·.1) ↔ ∃ v, lookM k l = some v := by
  constructor
  · intro h
    obtain ⟨e, he, rfl⟩ := List.mem_map.1 h
    cases hl : lookM e.1 l with
    | some v => exact ⟨v, rfl⟩
    | none => exact absurd rfl (lookM_none hl e he)
  · rintro ⟨v, hv⟩
    obtain ⟨l1, l2, he, -⟩ := lookM_some hv
    exact List.mem_map.2 ⟨(k, v), by rw [he]; simp, rfl⟩
theorem alike_keys {S T : RtS} (hS : RtInv S) (hT : RtInv T) (h : AlikeT S T) : keysM S = keysM T := by
  have hp : (S.mv.map (·.1)).Perm (T.mv.map (·.1)) := (List.perm_ext_iff_of_nodup hS.nodup hT.nodup).2 fun a => by rw [ids_mem, ids_mem, h.look a]
  unfold keysM
  exact mergeSort_of_perm hp
theorem alike_len {S T : RtS} (hS : RtInv S) (hT : RtInv T) (h : AlikeT S T) : S.mv.length = T.mv.length := by
  rw [← keysM_len S, ← keysM_len T, alike_keys hS hT h]
theorem alike_bytes {S T : RtS} (hS : RtInv S) (hT : RtInv T) (h : AlikeT S T) : bytesT S = bytesT T := by
  unfold bytesT
  rw [alike_keys hS hT h, alike_len hS hT h, h.n, h.ver]
  congr 1
  have : entM S = entM T := by funext k; unfold entM; rw [h.look k]
  rw [this]
theorem alike_of {S T : RtS} (h : AlikeT S T) (p : Bs) : ofS S p = ofS T p := by
  unfold ofS
  rw [h.n, h.look]
theorem alike_move {S T : RtS} (hS : RtInv S) (hT : RtInv T) (h : AlikeT S T) (top : Bs) (sh : Int) : (moveS S top sh).1 = (moveS T top sh).1 ∧ AlikeT (moveS S top sh).2 (moveS T top sh).2 := by
  have hb : badM S top sh = badM T top sh := by unfold badM; rw [h.n]
  have hl := alike_len hS hT h
  unfold moveS
  rw [hb, h.look top, hl]
  split
  · exact ⟨rfl, h⟩
  · split
    · exact ⟨rfl, h⟩
    · refine ⟨rfl, h.n, by show S.ver + 1 = T.ver + 1; rw [h.ver], fun k => ?_⟩
      show lookM k (setM top sh S.mv) = lookM k (setM top sh T.mv)
      rw [look_set, look_set, h.look k]

/-- Two tables side by side. -/
def TwoT (w0 w : World) (t : Nat) (S : RtS) (u : Nat) (T : RtS) (R : List Thing) (rows : List (Value × Bs)) : Prop := ∃ m', Rt w0 w t S (rtTh u m' T ++ R) rows
section
variable {w0 w : World} {t u : Nat} {S T : RtS} {R : List Thing} {rows : List (Value × Bs)}
theorem TwoT.flip (h : TwoT w0 w t S u T R rows) : TwoT w0 w u T t S R rows := by
  obtain ⟨m', m, hS⟩ := h
  exact ⟨m, m', hS.perm (List.perm_append_comm_assoc _ _ _)⟩
theorem TwoT.use (h : TwoT w0 w t S u T R rows) : ∃ R', Rt w0 w t S R' rows ∧ ∀ w' S' rows', Rt w0 w' t S' R' rows' → TwoT w0 w' t S' u T R rows' := by
  obtain ⟨m', h⟩ := h
  exact ⟨_, h, fun w' S' rows' h' => ⟨m', h'⟩⟩
theorem TwoT.below (h : TwoT w0 w t S u T R rows) : Below w0.heap.size w0 w := by
  obtain ⟨m', h⟩ := h
  exact h.below
theorem TwoT.keep (h : TwoT w0 w t S u T R rows) {w' : World} {D' : List Nat} (hu : Upd w w' [] D') : TwoT w0 w' t S u T R rows := by
  obtain ⟨m', h⟩ := h
  exact ⟨m', h.keep hu⟩
theorem TwoT.drew (h : TwoT w0 w t S u T R rows) : TwoT w0 w.drew t S u T R rows := h.keep (Upd.refl w []).drew
theorem Rt.toRowR {v : Value} {b : Bs} (h : Rt w0 w t S (ThRow 1 v (b.map bv) :: R) rows) : Rt w0 w t S R ((v, b) :: rows) := by
  obtain ⟨m, hS⟩ := h
  exact ⟨m, (hS.perm (List.perm_middle (l₁ := rtTh t m S))).toRow⟩
theorem Rt.get {v : Value} {l : Bs} (h : Rt w0 w t S R rows) (hm : (v, l) ∈ rows) : ∃ E, ReadRow w 1 v (l.map bv) E := by
  obtain ⟨m, hS⟩ := h
  exact hS.get hm
theorem TwoT.get {v : Value} {b : Bs} (h : TwoT w0 w t S u T R rows) (hm : (v, b) ∈ rows) : ∃ E, ReadRow w 1 v (b.map bv) E := by
  obtain ⟨m', h⟩ := h
  exact h.get hm
theorem TwoT.put (h : TwoT w0 w t S u T R rows) (hn : RtSh S) :
    Calls Tryd.prog 20 #[.pointer (some ⟨t, 0, none⟩)] w fun e w' => ∃ v, e = .returned v ∧ TwoT w0 w' t S u T R ((v, bytesT S) :: rows) := by
  obtain ⟨m', h⟩ := h
  refine (put_table h hn).mono ?_
  rintro e w' ⟨v, rfl, h'⟩
  exact ⟨v, rfl, m', h'.toRowR⟩
theorem two_getT (h : Rt w0 w t S R rows) (hd : Door w0) {v : Value} (hv : (v, bytesT S) ∈ rows) (hI : RtInv S) (hn : S.ver ≤ 1000000) :
    Calls Tryd.prog 18 #[v] w fun e w' => ∃ u, e = .returned (.tuple #[.pointer (some ⟨u, 0, none⟩), .int .i64 0]) ∧ TwoT w0 w' u (sortT S) t S R rows := by
  obtain ⟨m, hS⟩ := h
  have hb : (bytesT S).length ≤ 1073741824 := by
    have h1 := entM_len (inv_short hI) (ks := keysM S) (fun _ h => h)
    have h2 := hI.most
    rw [keysM_len] at h1
    unfold bytesT
    rw [List.length_append, flat_len]
    simp only [List.length_cons, List.length_nil]
    omega
  have := get_table hS hd v (bytesT S) hv hb
  rw [getT_put hI hn] at this
  refine this.mono ?_
  rintro e w' ⟨u, rfl, h'⟩
  exact ⟨u, rfl, m, h'⟩
end
end Go.Proofs.YtfncdgnhiinmjaaDoor
