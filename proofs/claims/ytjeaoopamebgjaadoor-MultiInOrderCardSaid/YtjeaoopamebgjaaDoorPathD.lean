/-
  Paths: the parent, the last name; in plain words and walked.
-/
import Derived.Test.YtjeaoopamebgjaaDoorPathC
import Derived.Test.YtjeaoopamebgjaaDoorSliceG
namespace Go.Av
open Go.RowKit
/-- A path of names, whatever they are. -/
def ofP (l : List Bs) : Bs := l.flatMap (fun x => 47 :: x)
def parentP (p : Bs) : Option Bs := if (partsP p).length < 2 then none else some (ofP (partsP p).dropLast)
theorem join_of : ∀ {l : List Bs}, l ≠ [] → 47 :: Lib.join l [47] = ofP l
  | [], h => absurd rfl h
  | x :: r, _ => by
    rw [Lib.join_cons]
    unfold Lib.joinTail ofP
    rw [List.flatMap_cons, List.cons_append]
    congr 1
theorem sumS_len : ∀ (l : List Bs), (ofP l).length = l.length + (l.map List.length).sum
  | [] => rfl
  | x :: r => by
    have := sumS_len r
    unfold ofP at this ⊢
    rw [List.flatMap_cons, List.length_append, this]
    simp only [List.length_cons, List.map_cons, List.sum_cons]
    omega
theorem cutS_of : ∀ (p : Bs), ofP (cutS p) = 47 :: p
  | [] => rfl
  | c :: r => by
    have ih := cutS_of r
    unfold cutS
    split
    · rename_i hc
      unfold ofP at ih ⊢
      rw [List.flatMap_cons, ih, hc]
      rfl
    · split
      · rename_i h0; exact absurd h0 (cutS_ne r)
      · rename_i x t hx
        unfold ofP at ih ⊢
        rw [hx, List.flatMap_cons] at ih
        rw [List.flatMap_cons]
        simp only [List.cons_append, List.cons.injEq, true_and] at ih ⊢
        exact ih
/-- A good path is that of its names. -/
theorem parts_of {p : Bs} (h : goodP p = true) : ofP (partsP p) = p := by
  unfold partsP
  rw [if_pos h, cutS_of]
  unfold goodP at h
  split at h
  · cases h
  · simp only [Bool.and_eq_true, decide_eq_true_eq] at h
    rw [h.1.1.1]
    rfl
theorem parts_good {p : Bs} (h : partsP p ≠ []) : goodP p = true := by
  unfold partsP at h
  split at h
  · assumption
  · exact absurd rfl h
theorem parts_len (p : Bs) : (ofP (partsP p)).length ≤ 200 := by
  by_cases h : goodP p = true
  · rw [parts_of h]; exact goodP_len h
  · unfold partsP; rw [if_neg h]; simp [ofP]
theorem ofP_drop (l : List Bs) : (ofP l.dropLast).length ≤ (ofP l).length := by
  by_cases h0 : l = []
  · subst h0; exact Nat.le_refl _
  · have h := List.dropLast_concat_getLast h0
    unfold ofP
    conv => rhs; rw [← h]
    rw [List.flatMap_append, List.length_append]
    exact Nat.le_add_right _ _
theorem sum_ge : ∀ {l : List Nat} {x : Nat}, x ∈ l → x ≤ l.sum
  | y :: l, x, h => by
    rw [List.sum_cons]
    rcases List.mem_cons.1 h with rfl | h
    · omega
    · have := sum_ge h; omega
theorem parent_len {p q : Bs} (h : parentP p = some q) : q.length ≤ 200 := by
  unfold parentP at h
  split at h
  · cases h
  · cases h
    exact Nat.le_trans (ofP_drop _) (parts_len p)
theorem name_len (p : Bs) : (nameP p).length ≤ 200 := by
  unfold nameP
  split
  · simp
  · rename_i x hx
    have hm := List.mem_of_getLast? hx
    have h1 := parts_len p
    have : x.length ≤ (ofP (partsP p)).length := by
      rw [sumS_len]
      have := sum_ge (List.mem_map_of_mem (f := List.length) hm)
      omega
    omega
end Go.Av
namespace Go.Proofs.YtjeaoopamebgjaaDoor
open Go.RowKit Go.Av
theorem infoStr : (Tryd.prog.info? 9).map (fun i => (i.zero, i.size, i.bytes)) = some (some (.string ByteArray.empty), 1, 16) := by kernel_rfl
/-- l[:k]. -/
theorem slice_take {P : Program} {t e : TypeId} {i : TypeInfo} (ht : P.underlying t = some (.slice e)) (hi : P.info? e = some i) (x : Addr) (hx : x.spot = none) (n c k : Nat) (hk : k ≤ c) (hc : 0 < c) (W : World) :
    (Instr.slice t (.slice (some x) n c) none (some (.int .i64 (k : Int))) none).run P W = .ok (.slice (some x) k c) W := by
  obtain ⟨xb, xo, xs⟩ := x
  dsimp only at hx
  subst hx
  simp [Instr.slice, run_underlying ht, Instr.sliceBounds, Instr.sliceBound, asIntOf, hk, sizeOf, typeInfo, hi, Result.andThen, Addr.add]
  try omega
theorem ownCells {w : World} {a : Option Addr} {n c : Nat} {xs : List Value} {D : List Nat} (h : OwnRow w 1 (.slice a n c) xs D) (h0 : 0 < n) :
    ∃ (g o : Nat), a = some ⟨g, o, none⟩ ∧ g < w.heap.size ∧ ∀ (i : Nat) x, xs[i]? = some x → w.cell? ⟨g, o + i, none⟩ = some x := by
  obtain ⟨E, hr, -⟩ := h.read
  obtain ⟨a', n', c', hv, hl, hn, hc, ha, hr⟩ := hr
  cases hv
  rcases hr with ⟨h2, -⟩ | ⟨g, off, h2, h3, h4, h5⟩
  · rw [h2] at hl; simp at hl; omega
  · exact ⟨g, off, h2, h4, h5⟩

set_option maxRecDepth 100000 in
set_option maxHeartbeats 1000000 in
theorem parent_any (s : ByteArray) (w : World) (hd : Door w) (hs : s.size ≤ maxLen) :
    Calls Tryd.prog 33 #[.string s] w fun e w' => e = .returned (.tuple #[sv ((parentP s.data.toList).getD []), .bool (parentP s.data.toList).isSome]) ∧ Upd w w' [] [] := by
  obtain ⟨i0, hi0, hz0, hz1, hz2⟩ := info_parts infoStr
  have hg := parts_any s w hd hs
  have hlen := ofP_drop (partsP s.data.toList)
  have hlen2 := parts_len s.data.toList
  obtain ⟨po, hpo⟩ : ∃ po, parentP s.data.toList = po := ⟨_, rfl⟩
  rw [hpo]
  unfold parentP at hpo
  obtain ⟨ps, hps⟩ : ∃ ps, partsP s.data.toList = ps := ⟨_, rfl⟩
  rw [hps] at hg hlen hlen2 hpo
  have HG := Lib.hid hg
  have HP := Lib.hid hpo
  clear hg hps hd hs hpo
  go_enter Tryd.func33, Tryd.ntmps33
  go_wp2_with fail
  refine HG.out.mono ?_
  rintro e w1 ⟨v, D, rfl, ho, hu⟩
  obtain ⟨a, n, c, rfl, hl, hn, hc, -⟩ := id ho
  rw [List.length_map, Nat.mul_one] at hl
  subst hl
  unfold maxLen at hc
  have HU := Lib.hid (hu.mono (fun _ h => h) (fun b hb => by cases hb) : Upd w w1 [] [])
  by_cases h2 : ps.length < 2
  · have h2' : decide ((ps.length : Int) < 2) = true := decide_eq_true (by omega)
    have HL := Lib.hid (show po = none by rw [← HP.out, if_pos h2])
    clear ho hu h2 hlen hlen2 HP
    go_wp2_with fail
    go_ret2
    rw [HL.out]
    exact ⟨rfl, HU.out⟩
  have h2' : decide ((ps.length : Int) < 2) = false := decide_eq_false (by omega)
  have HL := Lib.hid (show po = some (ofP ps.dropLast) by rw [← HP.out, if_neg h2])
  have hp2 : 2 ≤ ps.length := by omega
  have hps200 : ps.length ≤ 200 := by have := sumS_len ps; omega
  obtain ⟨g, o, rfl, hgl, hcell⟩ := ownCells ho (by omega)
  have hsl := slice_take (P := Tryd.prog) (t := 38) Tryd.underlying38 hi0 ⟨g, o, none⟩ rfl ps.length c (ps.length - 1) (by omega) (by omega)
  have hw : wrap64 ((ps.length : Int) - 1) = ((ps.length - 1 : Nat) : Int) := by rw [IntWalk.wrap64_in _ (by omega)]; omega
  obtain ⟨qs, hqs⟩ : ∃ qs, ps.dropLast = qs := ⟨_, rfl⟩
  have hql : qs.length = ps.length - 1 := by rw [← hqs, List.length_dropLast]
  have hq0 : qs ≠ [] := fun h => by rw [h] at hql; simp at hql; omega
  have hmm : (qs.map fun b => (⟨b.toArray⟩ : ByteArray)).map (·.data.toList) = qs := by
    rw [List.map_map]
    exact List.map_id _
  have hjo := join_of hq0
  rw [hqs] at hlen
  have hj := Tryd.strings_Join g o c (qs.map fun b => ⟨b.toArray⟩) ⟨#[47]⟩ w1 (fun j x hx => by
    rw [List.getElem?_map] at hx
    cases hy : qs[j]? with
    | none => rw [hy] at hx; cases hx
    | some y =>
      rw [hy] at hx
      cases hx
      refine hcell j _ ?_
      rw [List.getElem?_map]
      have : ps[j]? = some y := by
        rw [← hqs, List.getElem?_dropLast] at hy
        split at hy
        · exact hy
        · cases hy
      rw [this]
      rfl) hgl (by simp; omega) (by simp; omega) (by
    rw [hmm]
    have := congrArg List.length hjo
    simp only [List.length_cons] at this
    show (Lib.join qs [47]).length ≤ _
    omega)
  rw [List.length_map, hql, hmm, show (⟨#[47]⟩ : ByteArray).data.toList = [47] from rfl] at hj
  obtain ⟨js, hjs⟩ : ∃ js : ByteArray, js = ⟨(Lib.join qs [47]).toArray⟩ := ⟨_, rfl⟩
  have hjl : js.size ≤ 200 := by
    have := congrArg List.length hjo
    simp only [List.length_cons] at this
    rw [hjs]
    show (Lib.join qs [47]).toArray.size ≤ _
    rw [List.size_toArray]
    omega
  have HJO := Lib.hid (show sv (po.getD []) = .string (⟨#[47]⟩ ++ js) ∧ po.isSome = true by
    rw [HL.out, hqs, ← hjo]
    refine ⟨congrArg Value.string (WideShapes.bytes_inj ?_), rfl⟩
    rw [ByteArray.data_append, Array.toList_append, hjs]
    rfl)
  rw [← hjs] at hj
  have HJ := Lib.hid hj
  clear ho hu h2 hlen hlen2 HP HL hcell hqs hql hq0 hmm hjo hj hgl hjs
  go_wp2_with fail
  refine HJ.out.mono ?_
  rintro e w2 ⟨rfl, hb⟩
  have HU2 := Lib.hid (HU.out.trans (Upd.of_below hb))
  clear hb HJ
  go_wp2_with fail
  go_ret2
  rw [HJO.out.1, HJO.out.2]
  exact ⟨rfl, HU2.out⟩
set_option maxRecDepth 100000 in
set_option maxHeartbeats 1000000 in
theorem name_any1 (s : ByteArray) (w : World) (hd : Door w) (hs : s.size ≤ maxLen) :
    Calls Tryd.prog 36 #[.string s] w fun e w' => e = .returned (sv (nameP s.data.toList)) ∧ Upd w w' [] [] := by
  have hg := parts_any s w hd hs
  obtain ⟨nm, hnm⟩ : ∃ nm, nameP s.data.toList = nm := ⟨_, rfl⟩
  rw [hnm]
  unfold nameP at hnm
  obtain ⟨ps, hps⟩ : ∃ ps, partsP s.data.toList = ps := ⟨_, rfl⟩
  rw [hps] at hg hnm
  have HG := Lib.hid hg
  have HN := Lib.hid hnm
  clear hg hps hd hs hnm
  go_enter Tryd.func36, Tryd.ntmps36
  go_wp2_with fail
  refine HG.out.mono ?_
  rintro e w1 ⟨v, D, rfl, ho, hu⟩
  obtain ⟨a, n, c, rfl, hl, hn, hc, -⟩ := id ho
  rw [List.length_map, Nat.mul_one] at hl
  subst hl
  unfold maxLen at hc
  have HU := Lib.hid (hu.mono (fun _ h => h) (fun b hb => by cases hb) : Upd w w1 [] [])
  by_cases h0 : ps.length = 0
  · have h2' : ((ps.length : Int) == 0) = true := by simp [h0]
    have HL := Lib.hid (show nm = [] by rw [← HN.out, List.length_eq_zero_iff.1 h0]; rfl)
    clear ho hu h0 HN
    go_wp2_with fail
    go_ret
    rw [HL.out]
    exact ⟨rfl, HU.out⟩
  have h2' : ((ps.length : Int) == 0) = false := by rw [beq_eq_false_iff_ne]; omega
  obtain ⟨g, o, rfl, hgl, hcell⟩ := ownCells ho (by omega)
  have hlx := List.getLast?_eq_getElem? (l := ps)
  obtain ⟨x, hx⟩ : ∃ x, ps[ps.length - 1]? = some x := ⟨_, List.getElem?_eq_getElem (by omega)⟩
  have hc0 := hcell (ps.length - 1) (sv x) (by rw [List.getElem?_map, hx]; rfl)
  have HL := Lib.hid (show nm = x by rw [← HN.out, hlx, hx])
  have hw : wrap64 ((ps.length : Int) - 1) = ((ps.length - 1 : Nat) : Int) := by rw [IntWalk.wrap64_in _ (by omega)]; omega
  clear ho hu hcell hlx HN hx
  go_wp2_with fail
  go_ret
  rw [HL.out]
  exact ⟨rfl, HU.out⟩
end Go.Proofs.YtjeaoopamebgjaaDoor
