/-
  Texts of this claim, laid together.
-/
import Derived.Test.YtfncdgnhiinmjaaDoorMg3
import Derived.HandedShaped
import Derived.Handed

/-
  The document's own table in bytes, in plain words: it is read just when the program's is.
-/
namespace Go.Proofs.YtfncdgnhiinmjaaDoor
open Go.RowKit Go.Av Go.Maps Go.Sort

theorem getT_put40 {S : RtS} (hI : RtInv S) (hv : S.ver ≤ 1099511627776) : getT (bytesT S) = some (sortT S) := by
  have hv1 := hI.ver
  have hm := hI.most
  obtain ⟨o1, o2, o3⟩ := hI.ok
  have hkl := keysM_len S
  have e1 : cntR 4 (bytesT S, false) = (S.n, packI S.ver ++ (packI (S.mv.length : Int) ++ (keysM S).flatMap (entM S)), false) := by
    unfold bytesT
    simp only [List.flatMap_cons, List.flatMap_nil, List.append_nil, List.append_assoc]
    exact cntR_pack 4 S.n _ false (by omega) o2 (by decide)
  have e2 : i64R (packI S.ver ++ (packI (S.mv.length : Int) ++ (keysM S).flatMap (entM S)), false) = (S.ver, packI (S.mv.length : Int) ++ (keysM S).flatMap (entM S), false) := i64R_pack _ _ _ (by omega) (by omega)
  have e3 : cntR 50 (packI (S.mv.length : Int) ++ (keysM S).flatMap (entM S), false) = ((S.mv.length : Int), (keysM S).flatMap (entM S), false) := cntR_pack 50 _ _ false (by omega) (by omega) (by decide)
  unfold getT
  rw [e1]
  dsimp only
  rw [if_neg (by omega), e2]
  dsimp only
  rw [e3]
  dsimp only
  rw [Int.toNat_natCast, ← hkl]
  have := getTN_put hI (keysM S) [] [] ⟨S.n, 1, []⟩ (List.pairwise_cons.2 ⟨fun k hk h0 => by
    obtain ⟨-, e, he, hek⟩ := keysM_in hk
    have := (hI.names e he).2
    rw [hek] at this
    cases k with
    | nil => exact this rfl
    | cons c r => exact absurd h0 (by simp), keysM_sorted hI⟩) (fun _ h => h) rfl (fun _ _ => rfl) (by simp; omega)
  rw [List.append_nil] at this
  rw [this]
  unfold endT
  dsimp only
  have hml : (sortM S).length = S.mv.length := by
    unfold sortM
    rw [← hkl]
    have : ∀ ks : List Bs, (∀ k ∈ ks, k ∈ keysM S) → (ks.filterMap fun k => (lookM k S.mv).map fun v => (k, v)).length = ks.length := by
      intro ks
      induction ks with
      | nil => intro _; rfl
      | cons k ks ih =>
        intro h
        obtain ⟨⟨v, hv⟩, -⟩ := keysM_in (h k (by simp))
        rw [List.filterMap_cons, hv]
        simp only [Option.map_some, List.length_cons, ih (fun k hk => h k (by simp [hk]))]
    exact this _ (fun _ h => h)
  have hml2 : (([] : List (Bs × Int)) ++ (keysM S).filterMap fun k => (lookM k S.mv).map fun v => (k, v)).length = S.mv.length := by rw [List.nil_append]; exact hml
  rw [hml2]
  have c1 : decide (S.ver < 1 + ((keysM S).length : Int)) = false := decide_eq_false (by rw [hkl]; omega)
  have c2 : decide (1099511627776 < S.ver) = false := decide_eq_false (by omega)
  have c3 : (((S.mv.length : Int) == 0) && (S.ver != 1)) = false := by
    cases h0 : ((S.mv.length : Int) == 0) with
    | false => rfl
    | true =>
      have := hI.one (by simpa using h0)
      simp [this]
  rw [c1, c2, c3]
  simp [sortT, sortM]

theorem fold8 (b0 b1 b2 b3 b4 b5 b6 b7 : UInt8) : rdFold [b0, b1, b2, b3, b4, b5, b6, b7] = b0.toNat * 72057594037927936 + b1.toNat * 281474976710656 + b2.toNat * 1099511627776 + b3.toNat * 4294967296 + b4.toNat * 16777216 + b5.toNat * 65536 + b6.toNat * 256 + b7.toNat := by
  have h0 := b0.toNat_lt
  have h1 := b1.toNat_lt
  have h2 := b2.toNat_lt
  have h3 := b3.toNat_lt
  have h4 := b4.toNat_lt
  have h5 := b5.toNat_lt
  have h6 := b6.toNat_lt
  have h7 := b7.toNat_lt
  simp only [rdFold, List.foldl_cons, List.foldl_nil, rdStep]
  omega
theorem of_nat_eq {n : Nat} {b : UInt8} (h : n % 256 = b.toNat) : UInt8.ofNat n = b := by
  apply UInt8.toNat_inj.1
  rw [UInt8.toNat_ofNat']
  exact h
theorem pack_fold (b0 b1 b2 b3 b4 b5 b6 b7 : UInt8) : be8 (rdFold [b0, b1, b2, b3, b4, b5, b6, b7]) = [b0, b1, b2, b3, b4, b5, b6, b7] := by
  rw [fold8]
  have h0 := b0.toNat_lt
  have h1 := b1.toNat_lt
  have h2 := b2.toNat_lt
  have h3 := b3.toNat_lt
  have h4 := b4.toNat_lt
  have h5 := b5.toNat_lt
  have h6 := b6.toNat_lt
  have h7 := b7.toNat_lt
  unfold be8
  congr 1
  · exact of_nat_eq (by omega)
  congr 1
  · exact of_nat_eq (by omega)
  congr 1
  · exact of_nat_eq (by omega)
  congr 1
  · exact of_nat_eq (by omega)
  congr 1
  · exact of_nat_eq (by omega)
  congr 1
  · exact of_nat_eq (by omega)
  congr 1
  · exact of_nat_eq (by omega)
  congr 1
  exact of_nat_eq (by omega)
theorem rdI_inv {l : Bs} (h : 8 ≤ l.length) : l = packI (rdI l) ++ l.drop 8 := by
  match l, h with
  | b0 :: b1 :: b2 :: b3 :: b4 :: b5 :: b6 :: b7 :: r, _ =>
    have e : packI (rdI (b0 :: b1 :: b2 :: b3 :: b4 :: b5 :: b6 :: b7 :: r)) = [b0, b1, b2, b3, b4, b5, b6, b7] := by
      unfold rdI packI
      rw [show (b0 :: b1 :: b2 :: b3 :: b4 :: b5 :: b6 :: b7 :: r).take 8 = [b0, b1, b2, b3, b4, b5, b6, b7] from rfl, ← pack_fold]
      congr 1
      have hf : rdFold [b0, b1, b2, b3, b4, b5, b6, b7] < 18446744073709551616 := by
        rw [show ([b0, b1, b2, b3, b4, b5, b6, b7] : Bs) = [b0, b1, b2, b3, b4, b5, b6] ++ [b7] from rfl]
        unfold rdFold
        rw [List.foldl_append]
        exact rdStep_lt b7
      rw [pack_fold]
      generalize rdFold [b0, b1, b2, b3, b4, b5, b6, b7] = n at hf ⊢
      rw [IntKind.wrap_i64]
      omega
    rw [e]
    rfl
theorem i64_inv {d : Rd} (h : (i64R d).2.2 = false) : d.2 = false ∧ d.1 = packI (i64R d).1 ++ (i64R d).2.1 := by
  unfold i64R at h ⊢
  split at h
  · cases h
  · rename_i h8
    rw [if_neg h8]
    exact ⟨h, rdI_inv (by omega)⟩
theorem cnt_inv {m : Int} {d : Rd} (h : (cntR m d).2.2 = false) : d.2 = false ∧ d.1 = packI (cntR m d).1 ++ (cntR m d).2.1 := by
  unfold cntR cntS at h ⊢
  by_cases h8 : d.1.length < 8
  · rw [if_pos h8] at h; cases h
  · rw [if_neg h8] at h ⊢
    split at h
    · cases h
    · rename_i hb
      rw [if_neg hb]
      exact ⟨h, rdI_inv (by omega)⟩
theorem text_inv {m : Int} (hm : 0 ≤ m) {d : Rd} (h : (textR m d).2.2 = false) : d.2 = false ∧ d.1 = textB (textR m d).1 ++ (textR m d).2.1 := by
  have hb := cntR_bd hm d
  unfold textR at h ⊢
  split at h
  · cases h
  · rename_i hl
    rw [if_neg hl]
    obtain ⟨h1, h2⟩ := cnt_inv (m := m) (d := d) h
    refine ⟨h1, ?_⟩
    rw [h2]
    unfold textB
    have e : (((cntR m d).2.1.take (cntR m d).1.toNat).length : Int) = (cntR m d).1 := by rw [List.length_take]; omega
    rw [e, List.append_assoc]
    rw [← h2]
    conv => lhs; rw [h2]
    congr 1
    exact (List.take_append_drop _ _).symm

/-! ### what the document's table is read as -/
def getRN (n : Int) : Nat → Bs → Rd → List (Bs × Int) → Option (List (Bs × Int) × Rd)
  | 0, _, d, l => some (l, d)
  | k + 1, last, d, l => if d.2 = true then some (l, d) else
      if nameR (textR 40 d).1 = false ∨ (textR 40 d).1 ≤ last ∨ n ≤ (cntR 3 (textR 40 d).2).1 then none else
        getRN n k (textR 40 d).1 (cntR 3 (textR 40 d).2).2 (l ++ [((textR 40 d).1, (cntR 3 (textR 40 d).2).1)])
def endR (n v : Int) (c : Int) (o : Option (List (Bs × Int) × Rd)) : Option RtS := match o with
  | none => none
  | some (l, d) => if (!(!d.2 && d.1.isEmpty) || ((c == 0) && (v != 1))) = true then none else some ⟨n, v, l⟩
def getR (b : Bs) : Option RtS :=
  if (cntR 4 (b, false)).1 < 1 ∨ (i64R (cntR 4 (b, false)).2).1 < (cntR 50 (i64R (cntR 4 (b, false)).2).2).1 + 1 ∨ 1099511627776 < (i64R (cntR 4 (b, false)).2).1 then none else
    endR (cntR 4 (b, false)).1 (i64R (cntR 4 (b, false)).2).1 (cntR 50 (i64R (cntR 4 (b, false)).2).2).1
      (getRN (cntR 4 (b, false)).1 (cntR 50 (i64R (cntR 4 (b, false)).2).2).1.toNat [] (cntR 50 (i64R (cntR 4 (b, false)).2).2).2 [])

/-- What stands for a table in bytes. -/
structure EntsOK (n : Int) (last : Bs) (es : List (Bs × Int)) : Prop where
  rise : (last :: es.map (·.1)).Pairwise (fun a b => a < b)
  names : ∀ e ∈ es, nameR e.1 = true
  own : ∀ e ∈ es, 0 ≤ e.2 ∧ e.2 < n

theorem not_le_lt {a b : Bs} (h : ¬ a ≤ b) : b < a := by
  rcases List.le_total b a with hle | hle
  · by_cases hlt : b < a
    · exact hlt
    · exact absurd (List.le_antisymm hle hlt) (fun e => h (by rw [e]; exact List.le_refl _))
  · exact absurd hle h
theorem EntsOK.cons {n : Int} {last s : Bs} {c : Int} {es : List (Bs × Int)} (h : EntsOK n s es) (h1 : last < s) (h2 : nameR s = true) (h3 : 0 ≤ c) (h4 : c < n) : EntsOK n last ((s, c) :: es) := by
  refine ⟨?_, fun e he => ?_, fun e he => ?_⟩
  · rw [List.map_cons, List.pairwise_cons]
    refine ⟨fun x hx => ?_, h.rise⟩
    rcases List.mem_cons.1 hx with rfl | hx
    · exact h1
    · exact List.lt_trans h1 ((List.pairwise_cons.1 h.rise).1 x hx)
  · rcases List.mem_cons.1 he with rfl | he
    · exact h2
    · exact h.names e he
  · rcases List.mem_cons.1 he with rfl | he
    · exact ⟨h3, h4⟩
    · exact h.own e he
theorem getRN_inv {n : Int} : ∀ {k : Nat} {last : Bs} {d : Rd} {l l' : List (Bs × Int)} {d' : Rd}, getRN n k last d l = some (l', d') → d'.2 = false →
    d.2 = false ∧ ∃ es, l' = l ++ es ∧ es.length = k ∧ d.1 = es.flatMap entR ++ d'.1 ∧ EntsOK n last es
  | 0, last, d, l, l', d', h, hd => by
    cases h
    exact ⟨hd, [], by simp, rfl, rfl, ⟨by simp, by simp, by simp⟩⟩
  | k + 1, last, d, l, l', d', h, hd => by
    unfold getRN at h
    split at h
    · cases h; rename_i h2; rw [h2] at hd; cases hd
    · split at h
      · cases h
      · rename_i hn
        have hn1 : nameR (textR 40 d).1 = true := by
          cases hx : nameR (textR 40 d).1 with
          | true => rfl
          | false => exact absurd (.inl hx) hn
        obtain ⟨a1, es, rfl, a3, a4, a5⟩ := getRN_inv h hd
        obtain ⟨b1, b2⟩ := cnt_inv a1
        obtain ⟨c1, c2⟩ := text_inv (by decide) b1
        have hcb := cntR_bd (most := 3) (by decide) (textR 40 d).2
        refine ⟨c1, ((textR 40 d).1, (cntR 3 (textR 40 d).2).1) :: es, by simp, by simp [a3], ?_, a5.cons (not_le_lt fun h => hn (.inr (.inl h))) hn1 hcb.1 (by
          by_cases hx : n ≤ (cntR 3 (textR 40 d).2).1
          · exact absurd (.inr (.inr hx)) hn
          · omega)⟩
        rw [List.flatMap_cons]
        show _ = (textB (textR 40 d).1 ++ packI (cntR 3 (textR 40 d).2).1) ++ es.flatMap entR ++ d'.1
        rw [List.append_assoc, List.append_assoc, ← a4, ← b2]
        exact c2
theorem getTN_inv {n : Int} : ∀ {k : Nat} {last : Bs} {d : Rd} {S S' : RtS} {d' : Rd}, S.n = n → (∀ e ∈ S.mv, e.1 ≤ last) → getTN k last d S = some (S', d') → d'.2 = false →
    d.2 = false ∧ ∃ es, S' = { S with ver := S.ver + k, mv := S.mv ++ es } ∧ es.length = k ∧ d.1 = es.flatMap entR ++ d'.1 ∧ EntsOK n last es
  | 0, last, d, S, S', d', hn, hl, h, hd => by
    cases h
    exact ⟨hd, [], by simp, rfl, rfl, ⟨by simp, by simp, by simp⟩⟩
  | k + 1, last, d, S, S', d', hn, hl, h, hd => by
    unfold getTN at h
    split at h
    · cases h
    · rename_i hle
      split at h
      · cases h
      · rename_i hz
        have hz : (moveS S (textR 40 d).1 (cntR 4 (textR 40 d).2).1).1 = 0 := Classical.byContradiction fun h => hz h
        obtain ⟨hb, hS⟩ := move_ok hz
        obtain ⟨b1, b2, b3, b4⟩ := badM_false hb
        have hlt := not_le_lt hle
        have hno : lookM (textR 40 d).1 S.mv = none := by
          cases hx : lookM (textR 40 d).1 S.mv with
          | none => rfl
          | some v =>
            obtain ⟨l1, l2, he, -⟩ := lookM_some hx
            exact absurd (hl ((textR 40 d).1, v) (by rw [he]; simp)) hle
        have hset : setM (textR 40 d).1 (cntR 4 (textR 40 d).2).1 S.mv = S.mv ++ [((textR 40 d).1, (cntR 4 (textR 40 d).2).1)] := by unfold setM; rw [hno]
        rw [hset] at hS
        rw [hS] at h
        obtain ⟨a1, es, rfl, a3, a4, a5⟩ := getTN_inv (S := { S with ver := S.ver + 1, mv := S.mv ++ [((textR 40 d).1, (cntR 4 (textR 40 d).2).1)] }) hn (fun e he => by
          rcases List.mem_append.1 he with he | he
          · exact List.le_trans (hl e he) (List.le_of_lt hlt)
          · rw [List.mem_singleton.1 he]; exact List.le_refl _) h hd
        obtain ⟨c1, c2⟩ := cnt_inv a1
        obtain ⟨e1, e2⟩ := text_inv (by decide) c1
        have hnr : nameR (textR 40 d).1 = true := by
          obtain ⟨-, q, -, -, h4, h5⟩ := top_path (p := 47 :: (textR 40 d).1) (by rw [b1]; exact b2)
          rw [b1] at h4 h5
          rw [nameR_eq h4, h5]
        refine ⟨e1, ((textR 40 d).1, (cntR 4 (textR 40 d).2).1) :: es, ?_, by simp [a3], ?_, a5.cons hlt hnr b3 (by rw [← hn]; exact b4)⟩
        · simp only [List.append_assoc, List.singleton_append]
          congr 1
          push_cast
          omega
        · rw [List.flatMap_cons]
          show _ = (textB (textR 40 d).1 ++ packI (cntR 4 (textR 40 d).2).1) ++ es.flatMap entR ++ d'.1
          rw [List.append_assoc, List.append_assoc, ← a4, ← c2]
          exact e2
theorem EntsOK.inv {n ver : Int} {es : List (Bs × Int)} (h : EntsOK n [] es) (h1 : 1 ≤ n) (h4 : n ≤ 4) (h50 : es.length ≤ 50) (hv : 1 + (es.length : Int) ≤ ver) (h0 : es.length = 0 → ver = 1) : RtInv ⟨n, ver, es⟩ ∧ RiseM es := by
  have hr := (List.pairwise_cons.1 h.rise).2
  refine ⟨⟨⟨h1, h4, h.own⟩, hr.imp fun {a b} hab => lt_ne hab, fun e he => ?_, h50, hv, h0⟩, List.pairwise_map.1 hr⟩
  have hn := h.names e he
  have h47 : 47 ∉ e.1 := fun hm => by
    unfold nameR at hn
    simp only [Bool.and_eq_true] at hn
    have := List.all_eq_true.1 hn.2 47 hm
    simp at this
  have hne : e.1 ≠ [] := fun e0 => by rw [e0] at hn; simp [nameR] at hn
  rw [nameR_eq h47] at hn
  exact ⟨top_one hn h47, hne⟩
theorem getR_inv {b : Bs} {T : RtS} (h : getR b = some T) : RtInv T ∧ RiseM T.mv ∧ T.ver ≤ 1099511627776 ∧ bytesR T = b := by
  unfold getR at h
  split at h
  · cases h
  · rename_i hc
    simp only [not_or] at hc
    cases hg : getRN (cntR 4 (b, false)).1 (cntR 50 (i64R (cntR 4 (b, false)).2).2).1.toNat [] (cntR 50 (i64R (cntR 4 (b, false)).2).2).2 [] with
    | none => rw [hg] at h; cases h
    | some q =>
      obtain ⟨l, d⟩ := q
      rw [hg] at h
      unfold endR at h
      dsimp only at h
      split at h
      · cases h
      · rename_i he
        cases h
        simp only [Bool.or_eq_true, Bool.not_eq_true', Bool.and_eq_false_iff, Bool.not_eq_false', Bool.and_eq_true, beq_iff_eq, bne_iff_ne, not_or, not_and] at he
        have hd : d.2 = false := by
          cases hx : d.2 with
          | false => rfl
          | true => exact absurd hx he.1.1
        have hd1 : d.1 = [] := by
          have := he.1.2
          simp only [Bool.not_eq_false] at this
          simpa using this
        obtain ⟨a1, es, hes, a3, a4, a5⟩ := getRN_inv hg hd
        rw [List.nil_append] at hes
        subst es
        have hb4 := cntR_bd (most := 4) (by decide) (b, false)
        have hb5 := cntR_bd (most := 50) (by decide) (i64R (cntR 4 (b, false)).2).2
        obtain ⟨c1, c2⟩ := cnt_inv a1
        obtain ⟨e1, e2⟩ := i64_inv c1
        obtain ⟨f1, f2⟩ := cnt_inv e1
        obtain ⟨i1, i2⟩ := a5.inv (ver := (i64R (cntR 4 (b, false)).2).1) (by omega) hb4.2 (by omega) (by omega) (fun h0 => by
          have := he.2 (by omega)
          simpa using this)
        refine ⟨i1, i2, by dsimp only; omega, ?_⟩
        have hcl : ((l.length : Nat) : Int) = (cntR 50 (i64R (cntR 4 (b, false)).2).2).1 := by omega
        rw [hd1, List.append_nil] at a4
        unfold bytesR
        dsimp only
        rw [hcl, ← a4]
        simp only [List.flatMap_cons, List.flatMap_nil, List.append_nil, List.append_assoc]
        rw [← c2, ← e2]
        exact f2.symm
theorem rise_sort {T : RtS} (h : RtInv T) (hr : RiseM T.mv) : sortT T = T := by
  have : sortM T = T.mv := rise_ext (sort_rise h) hr fun k => ((sort_alike h).look k).symm
  unfold sortT
  rw [this]
theorem getT_inv {b : Bs} {S : RtS} (h : getT b = some S) : RtInv S ∧ RiseM S.mv ∧ S.ver ≤ 1099511627776 ∧ bytesT S = b := by
  unfold getT at h
  split at h
  · cases h
  · rename_i hc
    cases hg : getTN (cntR 50 (i64R (cntR 4 (b, false)).2).2).1.toNat [] (cntR 50 (i64R (cntR 4 (b, false)).2).2).2 ⟨(cntR 4 (b, false)).1, 1, []⟩ with
    | none => rw [hg] at h; cases h
    | some q =>
      obtain ⟨S1, d⟩ := q
      rw [hg] at h
      unfold endT at h
      dsimp only at h
      split at h
      · cases h
      · rename_i he
        cases h
        simp only [Bool.or_eq_true, Bool.not_eq_true', Bool.and_eq_false_iff, Bool.not_eq_false', Bool.and_eq_true, beq_iff_eq, bne_iff_ne, not_or, not_and, decide_eq_true_eq] at he
        have hd : d.2 = false := by
          cases hx : d.2 with
          | false => rfl
          | true => exact absurd hx he.1.1.1.1
        have hd1 : d.1 = [] := by
          have := he.1.1.1.2
          simp only [Bool.not_eq_false] at this
          simpa using this
        obtain ⟨a1, es, rfl, a3, a4, a5⟩ := getTN_inv (n := (cntR 4 (b, false)).1) rfl (by simp) hg hd
        have hb4 := cntR_bd (most := 4) (by decide) (b, false)
        have hb5 := cntR_bd (most := 50) (by decide) (i64R (cntR 4 (b, false)).2).2
        obtain ⟨c1, c2⟩ := cnt_inv a1
        obtain ⟨e1, e2⟩ := i64_inv c1
        obtain ⟨f1, f2⟩ := cnt_inv e1
        dsimp only [List.nil_append] at he ⊢
        obtain ⟨i1, i2⟩ := a5.inv (ver := (i64R (cntR 4 (b, false)).2).1) (by omega) hb4.2 (by omega) (by omega) (fun h0 => by
          have := he.2 (by simp [h0])
          simpa using this)
        refine ⟨i1, i2, by omega, ?_⟩
        rw [← bytesR_sort i1, rise_sort i1 i2]
        have hcl : ((es.length : Nat) : Int) = (cntR 50 (i64R (cntR 4 (b, false)).2).2).1 := by omega
        rw [hd1, List.append_nil] at a4
        unfold bytesR
        dsimp only
        rw [hcl, ← a4]
        simp only [List.flatMap_cons, List.flatMap_nil, List.append_nil, List.append_assoc]
        rw [← c2, ← e2]
        exact f2.symm
theorem getRN_put {n : Int} (hn : n ≤ 4) : ∀ {es : List (Bs × Int)} {last : Bs} {l : List (Bs × Int)}, EntsOK n last es → getRN n es.length last (es.flatMap entR, false) l = some (l ++ es, [], false)
  | [], last, l, _ => by simp [getRN]
  | (s, c) :: es, last, l, h => by
    have hn1 := h.names (s, c) (by simp)
    have ho := h.own (s, c) (by simp)
    dsimp only at hn1 ho
    have hsl : (s.length : Int) ≤ 40 := by
      unfold nameR at hn1
      simp only [Bool.and_eq_true, decide_eq_true_eq] at hn1
      omega
    have hr := List.pairwise_cons.1 h.rise
    have e1 : textR 40 (((s, c) :: es).flatMap entR, false) = (s, packI c ++ es.flatMap entR, false) := by
      rw [List.flatMap_cons]
      show textR 40 (textB s ++ packI c ++ es.flatMap entR, false) = _
      rw [List.append_assoc]
      exact textR_text 40 s _ false hsl (by decide)
    have e2 : cntR 3 (packI c ++ es.flatMap entR, false) = (c, es.flatMap entR, false) := cntR_pack 3 c _ false ho.1 (by omega) (by decide)
    rw [List.length_cons, getRN, e1]
    dsimp only
    rw [e2]
    dsimp only
    have hlt : last < s := hr.1 s (by simp)
    rw [if_neg (by simp), if_neg (by
      rintro (h | h | h)
      · rw [hn1] at h; cases h
      · exact h hlt
      · omega), getRN_put hn (l := l ++ [(s, c)]) ⟨hr.2, fun e he => h.names e (by simp [he]), fun e he => h.own e (by simp [he])⟩]
    simp
theorem getR_put {T : RtS} (hI : RtInv T) (hr : RiseM T.mv) (hv : T.ver ≤ 1099511627776) : getR (bytesR T) = some T := by
  have hv1 := hI.ver
  have hm := hI.most
  obtain ⟨o1, o2, o3⟩ := hI.ok
  have e1 : cntR 4 (bytesR T, false) = (T.n, packI T.ver ++ (packI (T.mv.length : Int) ++ T.mv.flatMap entR), false) := by
    unfold bytesR
    simp only [List.flatMap_cons, List.flatMap_nil, List.append_nil, List.append_assoc]
    exact cntR_pack 4 T.n _ false (by omega) o2 (by decide)
  have e2 : i64R (packI T.ver ++ (packI (T.mv.length : Int) ++ T.mv.flatMap entR), false) = (T.ver, packI (T.mv.length : Int) ++ T.mv.flatMap entR, false) := i64R_pack _ _ _ (by omega) (by omega)
  have e3 : cntR 50 (packI (T.mv.length : Int) ++ T.mv.flatMap entR, false) = ((T.mv.length : Int), T.mv.flatMap entR, false) := cntR_pack 50 _ _ false (by omega) (by omega) (by decide)
  have hE : EntsOK T.n [] T.mv := by
    refine ⟨?_, fun e he => ?_, o3⟩
    · rw [List.pairwise_cons]
      refine ⟨fun x hx => ?_, List.pairwise_map.2 hr⟩
      obtain ⟨e, he, rfl⟩ := List.mem_map.1 hx
      have := (hI.names e he).2
      cases hx : e.1 with
      | nil => exact absurd hx this
      | cons a r => exact List.nil_lt_cons a r
    · obtain ⟨b1, b2⟩ := hI.names e he
      obtain ⟨-, q, -, -, h4, h5⟩ := top_path (p := 47 :: e.1) (by rw [b1]; exact b2)
      rw [b1] at h4 h5
      rw [nameR_eq h4, h5]
  unfold getR
  rw [e1]
  dsimp only
  rw [e2]
  dsimp only
  rw [e3]
  dsimp only
  rw [if_neg (by omega), Int.toNat_natCast, getRN_put o2 hE]
  unfold endR
  dsimp only
  rw [if_neg]
  · rfl
  · intro h
    simp at h
    have := hI.one (by rw [h.1]; rfl)
    exact h.2 this
/-- Both read the same. -/
theorem get_same (b : Bs) : match getT b, getR b with
    | none, none => True
    | some S, some T => S.ver = T.ver ∧ S.n = T.n ∧ RtInv S ∧ S.ver ≤ 1099511627776 ∧ bytesT S = b
    | _, _ => False := by
  cases hS : getT b with
  | none =>
    cases hT : getR b with
    | none => trivial
    | some T =>
      obtain ⟨h1, h2, h3, h4⟩ := getR_inv hT
      have h5 : bytesT T = b := by rw [← bytesR_sort h1, rise_sort h1 h2, h4]
      have := getT_put40 h1 h3
      rw [h5, hS] at this
      cases this
  | some S =>
    obtain ⟨h1, h2, h3, h4⟩ := getT_inv hS
    have h5 := bytesR_sort h1
    rw [rise_sort h1 h2, h4] at h5
    have := getR_put h1 h2 h3
    rw [h5] at this
    rw [this]
    exact ⟨rfl, rfl, h1, h3, h4⟩
end Go.Proofs.YtfncdgnhiinmjaaDoor

/-
  The document's own reader: the walks.
-/
namespace Go.Proofs.YtfncdgnhiinmjaaDoor
open Go.RowKit Go.Av

/-- The document's reader at r: of the bytes B, which v says and which lie in E, it has read k. -/
def RdFAt (w : World) (r : Nat) (v : Value) (T : TypeId) (E : List Nat) (B : Bs) (k : Nat) (bad : Bool) : Prop :=
  w.heap[r]? = some (.cells #[v, .int .i64 (k : Int), .bool bad] T (0, 0)) ∧ ReadRow w 1 v (B.map bv) E ∧ (∀ x ∈ E, x ≠ r) ∧ k ≤ B.length
section
variable {w : World} {r : Nat} {v : Value} {T : TypeId} {E : List Nat} {B : Bs} {k : Nat} {bad : Bool}
theorem RdFAt.frame {w' : World} (h : RdFAt w r v T E B k bad) (hs : w'.heap = w.heap) : RdFAt w' r v T E B k bad := by
  obtain ⟨h1, h2, h3, h4⟩ := h
  exact ⟨by rw [hs]; exact h1, h2.frame (fun b _ => by rw [hs]), h3, h4⟩
def rdAbs (B : Bs) (k : Nat) (bad : Bool) : Rd := if bad then ([], true) else (B.drop k, false)
/-- What is left behind a call. -/
def RdFPost (w : World) (r : Nat) (v : Value) (T : TypeId) (E : List Nat) (B : Bs) (d : Rd) (ret : Ending) (e : Ending) (w' : World) : Prop := e = ret ∧ ∃ k bad, RdFAt w' r v T E B k bad ∧ rdAbs B k bad = d ∧ Upd w w' [r] [r]
theorem RdFAt.spoil (h : RdFAt w r v T E B k bad) : w.frozen? ⟨r, 2, none⟩ = false ∧ RdFAt (w.setCell ⟨r, 2, none⟩ (.bool true)) r v T E B k true ∧ Upd w (w.setCell ⟨r, 2, none⟩ (.bool true)) [r] [r] := by
  obtain ⟨h1, h2, h3, h4⟩ := h
  exact ⟨frz_of h1 2, ⟨heap_setCell_same w r 2 _ T (.bool true) h1, h2.frame (fun b hb => heap_setCell_other _ _ _ _ (fun e => h3 b hb e)), h3, h4⟩, Upd.set1 _ _ _ _ (by simp)⟩
theorem RdFAt.on (h : RdFAt w r v T E B k bad) (k' : Nat) (hk : k' ≤ B.length) : w.frozen? ⟨r, 1, none⟩ = false ∧ RdFAt (w.setCell ⟨r, 1, none⟩ (.int .i64 (k' : Int))) r v T E B k' bad ∧ Upd w (w.setCell ⟨r, 1, none⟩ (.int .i64 (k' : Int))) [r] [r] := by
  obtain ⟨h1, h2, h3, h4⟩ := h
  exact ⟨frz_of h1 1, ⟨heap_setCell_same w r 1 _ T (.int .i64 (k' : Int)) h1, h2.frame (fun b hb => heap_setCell_other _ _ _ _ (fun e => h3 b hb e)), h3, hk⟩, Upd.set1 _ _ _ _ (by simp)⟩
theorem RdFAt.cells (h : RdFAt w r v T E B k bad) : ∃ a c, B.length ≤ c ∧ c ≤ maxLen ∧ k ≤ B.length ∧ w.cell? ⟨r, 0, none⟩ = some (.slice a B.length c) ∧ w.cell? ⟨r, 1, none⟩ = some (.int .i64 (k : Int)) ∧ w.cell? ⟨r, 2, none⟩ = some (.bool bad) ∧
    (0 < B.length → ∃ x : Addr, a = some x ∧ x.spot = none ∧ ∀ (i : Nat) (h : i < B.length), w.cell? (x.add i) = some (bv B[i])) ∧ ∃ E, ReadRow w 1 (.slice a B.length c) (B.map bv) E := by
  obtain ⟨h1, h2, h3, h4⟩ := h
  obtain ⟨a, n, c, rfl, -⟩ := id h2
  obtain ⟨hn, hnc, hcm, hcell⟩ := row_cell h2
  rw [List.length_map] at hn
  subst hn
  refine ⟨a, c, hnc, hcm, h4, cell_of h1 0 rfl, cell_of h1 1 rfl, cell_of h1 2 rfl, fun h0 => ?_, E, h2⟩
  obtain ⟨x, rfl, hs, hx⟩ := hcell h0
  exact ⟨x, rfl, hs, fun i hi => hx i _ (by rw [List.getElem?_map, List.getElem?_eq_getElem hi]; rfl)⟩
end

theorem frozen_heap2 {w W : World} (h : W.heap = w.heap) (a : Addr) : W.cell? a = w.cell? a := by unfold World.cell?; rw [h]
theorem i64R_bad : i64R ([], true) = (0, [], true) := rfl
theorem rdAbs_true (B : Bs) (k : Nat) : rdAbs B k true = ([], true) := rfl
theorem rdAbs_false (B : Bs) (k : Nat) : rdAbs B k false = (B.drop k, false) := rfl

set_option maxRecDepth 100000 in
set_option maxHeartbeats 1000000 in
theorem rdf_i64 (r : Nat) (v : Value) (T : TypeId) (E : List Nat) (B : Bs) (k : Nat) (bad : Bool) (w : World) (h : RdFAt w r v T E B k bad) :
    Calls Tryd.prog 41 #[.pointer (some ⟨r, 0, none⟩)] w (RdFPost w r v T E B (i64R (rdAbs B k bad)).2 (.returned (.int .i64 (i64R (rdAbs B k bad)).1))) := by
  obtain ⟨a, c, hlc, hcm, hkB, c0, c1, c2, hel, -⟩ := h.cells
  unfold maxLen at hcm
  obtain ⟨y2, -⟩ := h.spoil
  have H := Lib.hid h
  have HE := Lib.hid hel
  clear h hel
  cases bad with
  | true =>
    go_enter Tryd.func41, Tryd.ntmps41
    go_wp2_with fail
    refine wp_region_M (fun W => W.cell? ⟨r, 0, none⟩ = some (.slice a B.length c) ∧ W.cell? ⟨r, 1, none⟩ = some (.int .i64 (k : Int)) ∧ W.cell? ⟨r, 2, none⟩ = some (.bool true)) 17 (by kernel_rfl) ?_
    refine wpAnyM_take (by kernel_rfl) (by intro c a d v w h; cases d <;> exact h) [(0, false), (1, false), (2, false), (3, true), (4, false), (5, false), (6, false), (7, false), (8, true), (9, false), (10, false), (11, false), (12, false), (13, true), (14, false), (15, false), (16, false)] (fuel := 0) (by kernel_rfl) ?_
    apply Exists.intro; refine ⟨?_, ⟨c0, c1, c2⟩, ?_⟩
    · iterate 17 ((first | (apply yieldN; (· (simp only [List.getElem?_toArray, List.getElem?_cons_succ, List.getElem?_cons_zero]; try rfl)); (· rfl)) | ((first | apply yieldP | apply yieldL); (· (simp only [List.getElem?_toArray, List.getElem?_cons_succ, List.getElem?_cons_zero]; try rfl)); (· rfl); (· (intros; go_simp; try with_reducible rfl)))); (· (simp only [Act.put, List.setIfInBounds_toArray, List.set_cons_zero, List.set_cons_succ]; try rfl)))
      exact rfl
    refine wpAnyM_done (by kernel_rfl) ?_ _
    go_wp2_with fail
    go_ret
    obtain ⟨-, h1, h2⟩ := (H.out.frame (w' := w.drew) rfl).spoil
    exact ⟨rfl, _, _, h1, rfl, (Upd.refl w [r]).drew.trans h2⟩
  | false =>
  obtain ⟨m, hm⟩ : ∃ m, B.length = k + m := ⟨B.length - k, by omega⟩
  have hw : IntKind.i64.wrap ((B.length : Int) - (k : Int)) = (m : Int) := by rw [IntWalk.i64_in _ (by omega)]; omega
  by_cases h8 : m < 8
  · have h8' : (m : Int) < 8 := by omega
    have HR := Lib.hid (show i64R (rdAbs B k false) = (0, [], true) by rw [rdAbs_false]; unfold i64R; rw [if_pos (by rw [List.length_drop]; omega)])
    clear hm
    go_enter Tryd.func41, Tryd.ntmps41
    go_wp2_with fail
    refine wp_region_M (fun W => W.cell? ⟨r, 0, none⟩ = some (.slice a B.length c) ∧ W.cell? ⟨r, 1, none⟩ = some (.int .i64 (k : Int)) ∧ W.cell? ⟨r, 2, none⟩ = some (.bool false)) 17 (by kernel_rfl) ?_
    refine wpAnyM_take (by kernel_rfl) (by intro c a d v w h; cases d <;> exact h) [(0, false), (1, false), (2, false), (3, true), (4, false), (5, false), (6, false), (7, false), (8, true), (9, false), (10, false), (11, false), (12, false), (13, true), (14, false), (15, false), (16, false)] (fuel := 0) (by kernel_rfl) ?_
    apply Exists.intro; refine ⟨?_, ⟨c0, c1, c2⟩, ?_⟩
    · iterate 17 ((first | (apply yieldN; (· (simp only [List.getElem?_toArray, List.getElem?_cons_succ, List.getElem?_cons_zero]; try rfl)); (· rfl)) | ((first | apply yieldP | apply yieldL); (· (simp only [List.getElem?_toArray, List.getElem?_cons_succ, List.getElem?_cons_zero]; try rfl)); (· rfl); (· (intros; go_simp; try with_reducible rfl)))); (· (simp only [Act.put, List.setIfInBounds_toArray, List.set_cons_zero, List.set_cons_succ]; try rfl)))
      exact rfl
    refine wpAnyM_done (by kernel_rfl) ?_ _
    go_wp2_with fail
    go_ret
    obtain ⟨-, h1, h2⟩ := (H.out.frame (w' := w.drew) rfl).spoil
    rw [HR.out]
    exact ⟨rfl, _, _, h1, rfl, (Upd.refl w [r]).drew.trans h2⟩
  have h8' : ¬ (m : Int) < 8 := by omega
  have hk8 : k + 8 ≤ B.length := by omega
  have HR := Lib.hid (show i64R (rdAbs B k false) = (rdI (B.drop k), B.drop (k + 8), false) by
    rw [rdAbs_false]; unfold i64R; rw [if_neg (by rw [List.length_drop]; omega)]; simp [List.drop_drop])
  obtain ⟨x, rfl, hxs, hx⟩ := HE.out (by omega)
  have HX := Lib.hid hx
  obtain ⟨y1, -⟩ := H.out.on (k + 8) hk8
  have hm8 : 8 ≤ m := by omega
  have HM := Lib.hid hm
  clear hx h8 hm
  go_enter Tryd.func41, Tryd.ntmps41
  go_wp2_with fail
  refine wp_region_M (fun W => W.cell? ⟨r, 0, none⟩ = some (.slice (some x) B.length c) ∧ W.cell? ⟨r, 1, none⟩ = some (.int .i64 (k : Int)) ∧ W.cell? ⟨r, 2, none⟩ = some (.bool false)) 17 (by kernel_rfl) ?_
  refine wpAnyM_take (by kernel_rfl) (by intro c a d v w h; cases d <;> exact h) [(0, false), (1, false), (2, false), (3, true), (4, false), (5, false), (6, false), (7, false), (8, true), (9, false), (10, false), (11, false), (12, false), (13, true), (14, false), (15, false), (16, false)] (fuel := 0) (by kernel_rfl) ?_
  apply Exists.intro; refine ⟨?_, ⟨c0, c1, c2⟩, ?_⟩
  · iterate 17 ((first | (apply yieldN; (· (simp only [List.getElem?_toArray, List.getElem?_cons_succ, List.getElem?_cons_zero]; try rfl)); (· rfl)) | ((first | apply yieldP | apply yieldL); (· (simp only [List.getElem?_toArray, List.getElem?_cons_succ, List.getElem?_cons_zero]; try rfl)); (· rfl); (· (intros; go_simp; try with_reducible rfl)))); (· (simp only [Act.put, List.setIfInBounds_toArray, List.set_cons_zero, List.set_cons_succ]; try rfl)))
    exact rfl
  refine wpAnyM_done (by kernel_rfl) ?_ _
  go_wp2_with fail
  go_loopg [3, 4] 8 (fun g s i wr => ∃ m : Nat, m ≤ 8 ∧ g = 8 - m ∧ i = .int .i64 m ∧ s = .int .u64 (rdFold ((B.drop k).take m)) ∧ wr.heap = w.heap ∧ Upd w wr [] [])
  case atStart => exact ⟨0, by omega, rfl, rfl, rfl, rfl, (Upd.refl w []).drew⟩
  case round =>
    obtain ⟨j, hj, hk, rfl, rfl, hh, hu⟩ := hrel
    have k0 := (frozen_heap2 hh _).trans c0
    have k1 := (frozen_heap2 hh _).trans c1
    by_cases hlt : j < 8
    · have hjB : k + j < B.length := by have := HM.out; omega
      have kx := (frozen_heap2 hh _).trans (HX.out (k + j) hjB)
      have hgd : (B.drop k)[j]? = some B[k + j] := by rw [List.getElem?_drop, List.getElem?_eq_getElem hjB]
      unfold bv at kx
      obtain ⟨u, hu8⟩ : ∃ u, B[k + j] = u := ⟨_, rfl⟩
      rw [hu8] at kx hgd
      obtain ⟨xv, hxv⟩ : ∃ xv : Nat, xv = u.toNat := ⟨_, rfl⟩
      have hxl : xv < 256 := by rw [hxv]; exact UInt8.toNat_lt _
      rw [← hxv] at kx
      have hjn := rd_join (rdFold ((B.drop k).take j)) xv hxl u hxv.symm
      obtain ⟨f0, hf0⟩ : ∃ f0, f0 = rdFold ((B.drop k).take j) := ⟨_, rfl⟩
      rw [← hf0] at hjn ⊢
      obtain ⟨q, hq⟩ : ∃ q, k + j = q := ⟨_, rfl⟩
      have hkj : IntKind.i64.wrap ((k : Int) + (j : Int)) = (q : Int) := by rw [IntWalk.i64_in _ (by omega)]; omega
      rw [hq] at kx
      have HJ := Lib.hid hjn
      have HF := Lib.hid (show _ ∧ _ ∧ _ ∧ _ from ⟨hf0, hgd, hh, hu⟩)
      have hb1 : q < B.length := by omega
      clear hjn hf0 hxv hu8 hgd hh hu hq hjB
      go_wp2_with fail
      refine wp_region_M (fun W => W.cell? ⟨r, 0, none⟩ = some (.slice (some x) B.length c) ∧ W.cell? ⟨r, 1, none⟩ = some (.int .i64 (k : Int)) ∧ W.cell? (x.add q) = some (.int .u8 (xv : Int))) 17 (by kernel_rfl) ?_
      refine wpAnyM_take (by kernel_rfl) (by intro c a d v w h; cases d <;> exact h) [(0, false), (1, false), (2, false), (3, false), (4, false), (5, true), (6, false), (7, false), (8, false), (9, true), (10, false), (11, false), (12, false), (13, true), (14, true), (15, false), (16, false)] (fuel := 0) (by kernel_rfl) ?_
      apply Exists.intro; refine ⟨?_, ⟨k0, k1, kx⟩, ?_⟩
      · iterate 17 ((first | (apply yieldN; (· (simp only [List.getElem?_toArray, List.getElem?_cons_succ, List.getElem?_cons_zero]; try rfl)); (· rfl)) | ((first | apply yieldP | apply yieldL); (· (simp only [List.getElem?_toArray, List.getElem?_cons_succ, List.getElem?_cons_zero]; try rfl)); (· rfl); (· (intros; go_simp; try with_reducible rfl)))); (· (simp only [Act.put, List.setIfInBounds_toArray, List.set_cons_zero, List.set_cons_succ]; try rfl)))
        exact rfl
      refine wpAnyM_done (by kernel_rfl) ?_ _
      go_wp2_with fail
      go_roundg (8 - (j + 1))
      case rel =>
        obtain ⟨hf0, hgd, hh, hu⟩ := HF.out
        refine ⟨j + 1, by omega, rfl, by go_num, ?_, hh, hu.drew⟩
        have e : rdFold ((B.drop k).take (j + 1)) = rdStep (rdFold ((B.drop k).take j)) u := by
          unfold rdFold
          obtain ⟨hl, hg⟩ := List.getElem?_eq_some_iff.1 hgd
          rw [List.take_succ_eq_append_getElem hl, List.foldl_append, hg]
          rfl
        rw [show IntKind.u64.wrap (xv : Int) = (xv : Int) by rw [IntKind.wrap_u64]; omega, HJ.out, hf0, e]
      case measure => omega
    obtain rfl : j = 8 := by omega
    have y1 : wr.frozen? ⟨r, 1, none⟩ = false := by unfold World.frozen? at y1 ⊢; rw [hh]; exact y1
    have HU := Lib.hid (show _ ∧ _ from ⟨hu, hh⟩)
    clear hu hh
    go_wp2_with fail
    go_ret
    obtain ⟨hu, hh⟩ := HU.out
    obtain ⟨-, h1, h2⟩ := (H.out.frame (w' := wr) hh).on (k + 8) hk8
    rw [show ((k + 8 : Nat) : Int) = (k : Int) + 8 by omega] at h1 h2
    rw [HR.out]
    refine ⟨congrArg (fun z => Ending.returned (.int .i64 z)) (wrap_is _), _, _, h1, by rw [rdAbs_false], ?_⟩
    exact (hu.mono (by simp) (fun b hb => .inr hb)).trans h2

theorem cnt_i64 (most : Int) (B : Bs) (k : Nat) (bad : Bool) : cntR most (rdAbs B k bad) =
    if (i64R (rdAbs B k bad)).2.2 = true ∨ (i64R (rdAbs B k bad)).1 < 0 ∨ most < (i64R (rdAbs B k bad)).1 then (0, [], true) else ((i64R (rdAbs B k bad)).1, (i64R (rdAbs B k bad)).2) := by
  cases bad with
  | true => rfl
  | false =>
    rw [rdAbs_false]
    unfold cntR cntS i64R
    by_cases h8 : (B.drop k).length < 8
    · simp only [if_pos h8]
      simp
    · simp only [if_neg h8]
      by_cases hv : rdI (B.drop k) < 0 ∨ most < rdI (B.drop k)
      · rw [if_pos hv, if_pos (.inr hv)]
      · rw [if_neg hv, if_neg (by simpa using hv)]
set_option maxRecDepth 100000 in
set_option maxHeartbeats 1000000 in
theorem rdf_count (r : Nat) (v : Value) (T : TypeId) (E : List Nat) (B : Bs) (k : Nat) (bad : Bool) (most : Int) (w : World) (h : RdFAt w r v T E B k bad) :
    Calls Tryd.prog 40 #[.pointer (some ⟨r, 0, none⟩), .int .i64 most] w (RdFPost w r v T E B (cntR most (rdAbs B k bad)).2 (.returned (.int .i64 (cntR most (rdAbs B k bad)).1))) := by
  have hc := cnt_i64 most B k bad
  have hi := rdf_i64 r v T E B k bad w h
  obtain ⟨q, hq⟩ : ∃ q, cntR most (rdAbs B k bad) = q := ⟨_, rfl⟩
  rw [hq] at hc ⊢
  obtain ⟨z, hz⟩ : ∃ z, i64R (rdAbs B k bad) = z := ⟨_, rfl⟩
  rw [hz] at hc hi
  clear hq hz h
  obtain ⟨nv, d⟩ := z
  dsimp only at hc hi
  have HI := Lib.hid hi
  have HC := Lib.hid hc
  clear hi hc
  go_enter Tryd.func40, Tryd.ntmps40
  go_wp2_with fail
  refine HI.out.mono ?_
  rintro e w1 ⟨rfl, k1, bad1, h1, hd, hu⟩
  obtain ⟨a, c, -, -, -, -, -, c2, -⟩ := h1.cells
  obtain ⟨y2, h2, hu2⟩ := h1.spoil
  have HB := Lib.hid (show RdFPost w r v T E B ([], true) (.returned (.int .i64 0)) (.returned (.int .i64 0)) (w1.setCell ⟨r, 2, none⟩ (.bool true)) from ⟨rfl, _, _, h2, rfl, hu.trans hu2⟩)
  have HG := Lib.hid (show RdFPost w r v T E B d (.returned (.int .i64 nv)) (.returned (.int .i64 nv)) w1 from ⟨rfl, _, _, h1, hd, hu⟩)
  have HD := Lib.hid hd
  clear h1 h2 hu hu2 hd HI
  cases bad1 with
  | true =>
    have HQ := Lib.hid (show q = (0, [], true) by rw [HC.out, if_pos (.inl (by rw [← HD.out]; rfl))])
    go_wp2_with fail
    go_ret
    rw [HQ.out]
    exact HB.out
  | false =>
  have hd2 : d.2 = false := by rw [← HD.out]; rfl
  by_cases h0 : nv < 0
  · have HQ := Lib.hid (show q = (0, [], true) by rw [HC.out, if_pos (.inr (.inl h0))])
    clear hd2
    go_wp2_with fail
    go_ret
    rw [HQ.out]
    exact HB.out
  by_cases hm : most < nv
  · have HQ := Lib.hid (show q = (0, [], true) by rw [HC.out, if_pos (.inr (.inr hm))])
    clear hd2
    go_wp2_with fail
    go_ret
    rw [HQ.out]
    exact HB.out
  have HQ := Lib.hid (show q = (nv, d) by rw [HC.out, if_neg (by rw [hd2]; simp; omega)])
  clear hd2
  go_wp2_with fail
  go_ret
  rw [HQ.out]
  exact HG.out

set_option maxRecDepth 100000 in
set_option maxHeartbeats 1000000 in
theorem rdf_end (r : Nat) (v : Value) (T : TypeId) (E : List Nat) (B : Bs) (k : Nat) (bad : Bool) (w : World) (h : RdFAt w r v T E B k bad) :
    Calls Tryd.prog 44 #[.pointer (some ⟨r, 0, none⟩)] w fun e w' => e = .returned (.bool (!(rdAbs B k bad).2 && (rdAbs B k bad).1.isEmpty)) ∧ Upd w w' [] [] ∧ w'.heap = w.heap := by
  obtain ⟨a, c, hlc, hcm, hkB, c0, c1, c2, -, -⟩ := h.cells
  clear h
  cases bad with
  | true =>
    go_enter Tryd.func44, Tryd.ntmps44
    go_wp2_with fail
    refine wp_region_M (fun W => W.cell? ⟨r, 0, none⟩ = some (.slice a B.length c) ∧ W.cell? ⟨r, 1, none⟩ = some (.int .i64 (k : Int)) ∧ W.cell? ⟨r, 2, none⟩ = some (.bool true)) 18 (by kernel_rfl) ?_
    refine wpAnyM_take (by kernel_rfl) (by intro c a d v w h; cases d <;> exact h) [(0, false), (1, false), (2, false), (3, true), (4, false), (5, false), (6, false), (7, false), (8, false), (9, true), (10, false), (11, false), (12, false), (13, true), (14, false), (15, false), (16, false), (17, false)] (fuel := 0) (by kernel_rfl) ?_
    apply Exists.intro; refine ⟨?_, ⟨c0, c1, c2⟩, ?_⟩
    · iterate 18 ((first | (apply yieldN; (· (simp only [List.getElem?_toArray, List.getElem?_cons_succ, List.getElem?_cons_zero]; try rfl)); (· rfl)) | ((first | apply yieldP | apply yieldL); (· (simp only [List.getElem?_toArray, List.getElem?_cons_succ, List.getElem?_cons_zero]; try rfl)); (· rfl); (· (intros; go_simp; try with_reducible rfl)))); (· (simp only [Act.put, List.setIfInBounds_toArray, List.set_cons_zero, List.set_cons_succ]; try rfl)))
      exact rfl
    refine wpAnyM_done (by kernel_rfl) ?_ _
    go_wp2_with fail
    go_ret
    exact ⟨rfl, (Upd.refl w []).drew, rfl⟩
  | false =>
  obtain ⟨b, hb⟩ : ∃ b, ((k : Int) == (B.length : Int)) = b := ⟨_, rfl⟩
  have HB := Lib.hid (show (!(rdAbs B k false).2 && (rdAbs B k false).1.isEmpty) = b by
    rw [rdAbs_false, ← hb]
    simp only [Bool.not_false, Bool.true_and]
    cases hx : (B.drop k).isEmpty with
    | true =>
      have : B.length ≤ k := by simpa using hx
      simp; omega
    | false =>
      have : ¬ B.length ≤ k := by simpa using hx
      simp; omega)
  rw [HB.out]
  clear HB
  go_enter Tryd.func44, Tryd.ntmps44
  go_wp2_with fail
  refine wp_region_M (fun W => W.cell? ⟨r, 0, none⟩ = some (.slice a B.length c) ∧ W.cell? ⟨r, 1, none⟩ = some (.int .i64 (k : Int)) ∧ W.cell? ⟨r, 2, none⟩ = some (.bool false)) 18 (by kernel_rfl) ?_
  refine wpAnyM_take (by kernel_rfl) (by intro c a d v w h; cases d <;> exact h) [(0, false), (1, false), (2, false), (3, true), (4, false), (5, false), (6, false), (7, false), (8, false), (9, true), (10, false), (11, false), (12, false), (13, true), (14, false), (15, false), (16, false), (17, false)] (fuel := 0) (by kernel_rfl) ?_
  apply Exists.intro; refine ⟨?_, ⟨c0, c1, c2⟩, ?_⟩
  · iterate 18 ((first | (apply yieldN; (· (simp only [List.getElem?_toArray, List.getElem?_cons_succ, List.getElem?_cons_zero]; try rfl)); (· rfl)) | ((first | apply yieldP | apply yieldL); (· (simp only [List.getElem?_toArray, List.getElem?_cons_succ, List.getElem?_cons_zero]; try rfl)); (· rfl); (· (intros; go_simp; try with_reducible rfl)))); (· (simp only [Act.put, List.setIfInBounds_toArray, List.set_cons_zero, List.set_cons_succ]; try rfl)))
    exact rfl
  refine wpAnyM_done (by kernel_rfl) ?_ _
  go_wp2_with fail
  go_ret
  exact ⟨rfl, (Upd.refl w []).drew, rfl⟩

set_option maxRecDepth 100000 in
set_option maxHeartbeats 1000000 in
theorem rdf_text (r : Nat) (v : Value) (T : TypeId) (E : List Nat) (B : Bs) (k : Nat) (bad : Bool) (most : Int) (hm : 0 ≤ most) (w : World) (h : RdFAt w r v T E B k bad) :
    Calls Tryd.prog 42 #[.pointer (some ⟨r, 0, none⟩), .int .i64 most] w (RdFPost w r v T E B (textR most (rdAbs B k bad)).2 (.returned (sv (textR most (rdAbs B k bad)).1))) := by
  obtain ⟨i0, hi0, hz0, hz1, hz2⟩ := info_parts info5
  have hc := rdf_count r v T E B k bad most w h
  have hbd := cntR_bd hm (rdAbs B k bad)
  have htx : textR most (rdAbs B k bad) = textR most (rdAbs B k bad) := rfl
  conv at htx => rhs; unfold textR
  obtain ⟨q, hq⟩ : ∃ q, cntR most (rdAbs B k bad) = q := ⟨_, rfl⟩
  rw [hq] at hc hbd
  simp only [hq] at htx
  obtain ⟨n, d⟩ := q
  dsimp only at htx hbd hc
  obtain ⟨m, rfl⟩ : ∃ m : Nat, n = m := ⟨n.toNat, by omega⟩
  rw [Int.toNat_natCast] at htx
  have HC := Lib.hid hc
  clear hc hq h hbd
  obtain ⟨tx, htx2⟩ : ∃ tx, textR most (rdAbs B k bad) = tx := ⟨_, rfl⟩
  rw [htx2] at htx ⊢
  clear htx2
  have HT := Lib.hid htx
  clear htx
  go_enter Tryd.func42, Tryd.ntmps42
  go_wp2_with fail
  refine HC.out.mono ?_
  rintro e w1 ⟨rfl, k1, bad1, h1, hd, hu⟩
  obtain ⟨a, c, hlc, hcm, hkB, c0, c1, c2, hel, E1, hrow⟩ := h1.cells
  unfold maxLen at hcm
  have HB := Lib.hid (show ∀ W : World, W.heap = w1.heap → Upd w W [r] [r] → RdFPost w r v T E B ([], true) (.returned (sv [])) (.returned (sv [])) (W.setCell ⟨r, 2, none⟩ (.bool true)) from fun W hW hU => by
    obtain ⟨-, h2, hu2⟩ := (h1.frame (w' := W) hW).spoil
    exact ⟨rfl, _, _, h2, rfl, hU.trans hu2⟩)
  obtain ⟨y2, -⟩ := h1.spoil
  have HU := Lib.hid hu
  have HD := Lib.hid hd
  cases bad1 with
  | true =>
    have HQ := Lib.hid (show tx = ([], [], true) by
      rw [HT.out, ← HD.out, rdAbs_true]
      dsimp only
      split <;> simp)
    clear h1 hu hd hel hrow HC
    go_wp2_with fail
    refine wp_region_M (fun W => W.cell? ⟨r, 0, none⟩ = some (.slice a B.length c) ∧ W.cell? ⟨r, 1, none⟩ = some (.int .i64 (k1 : Int)) ∧ W.cell? ⟨r, 2, none⟩ = some (.bool true)) 18 (by kernel_rfl) ?_
    refine wpAnyM_take (by kernel_rfl) (by intro c a d v w h; cases d <;> exact h) [(0, false), (1, false), (2, false), (3, true), (4, false), (5, false), (6, false), (7, false), (8, true), (9, false), (10, false), (11, false), (12, false), (13, true), (14, false), (15, false), (16, false), (17, false)] (fuel := 0) (by kernel_rfl) ?_
    apply Exists.intro; refine ⟨?_, ⟨c0, c1, c2⟩, ?_⟩
    · iterate 18 ((first | (apply yieldN; (· (simp only [List.getElem?_toArray, List.getElem?_cons_succ, List.getElem?_cons_zero]; try rfl)); (· rfl)) | ((first | apply yieldP | apply yieldL); (· (simp only [List.getElem?_toArray, List.getElem?_cons_succ, List.getElem?_cons_zero]; try rfl)); (· rfl); (· (intros; go_simp; try with_reducible rfl)))); (· (simp only [Act.put, List.setIfInBounds_toArray, List.set_cons_zero, List.set_cons_succ]; try rfl)))
      exact rfl
    refine wpAnyM_done (by kernel_rfl) ?_ _
    go_wp2_with fail
    go_ret
    rw [HQ.out]
    exact HB.out w1.drew rfl HU.out.drew
  | false =>
  obtain ⟨z, hz⟩ : ∃ z, B.length = k1 + z := ⟨B.length - k1, by omega⟩
  have hw : IntKind.i64.wrap ((B.length : Int) - (k1 : Int)) = (z : Int) := by rw [IntWalk.i64_in _ (by omega)]; omega
  have hdl : (B.drop k1).length = z := by rw [List.length_drop]; omega
  by_cases hlt : z < m
  · have HQ := Lib.hid (show tx = ([], [], true) by
      rw [HT.out, ← HD.out, rdAbs_false]
      dsimp only
      rw [if_pos (by rw [hdl]; omega)])
    clear h1 hu hd hel hrow HC hz hdl
    go_wp2_with fail
    refine wp_region_M (fun W => W.cell? ⟨r, 0, none⟩ = some (.slice a B.length c) ∧ W.cell? ⟨r, 1, none⟩ = some (.int .i64 (k1 : Int)) ∧ W.cell? ⟨r, 2, none⟩ = some (.bool false)) 18 (by kernel_rfl) ?_
    refine wpAnyM_take (by kernel_rfl) (by intro c a d v w h; cases d <;> exact h) [(0, false), (1, false), (2, false), (3, true), (4, false), (5, false), (6, false), (7, false), (8, true), (9, false), (10, false), (11, false), (12, false), (13, true), (14, false), (15, false), (16, false), (17, false)] (fuel := 0) (by kernel_rfl) ?_
    apply Exists.intro; refine ⟨?_, ⟨c0, c1, c2⟩, ?_⟩
    · iterate 18 ((first | (apply yieldN; (· (simp only [List.getElem?_toArray, List.getElem?_cons_succ, List.getElem?_cons_zero]; try rfl)); (· rfl)) | ((first | apply yieldP | apply yieldL); (· (simp only [List.getElem?_toArray, List.getElem?_cons_succ, List.getElem?_cons_zero]; try rfl)); (· rfl); (· (intros; go_simp; try with_reducible rfl)))); (· (simp only [Act.put, List.setIfInBounds_toArray, List.set_cons_zero, List.set_cons_succ]; try rfl)))
      exact rfl
    refine wpAnyM_done (by kernel_rfl) ?_ _
    go_wp2_with fail
    go_ret
    rw [HQ.out]
    exact HB.out w1.drew rfl HU.out.drew
  have HQ := Lib.hid (show tx = ((B.drop k1).take m, B.drop (k1 + m), false) by
    rw [HT.out, ← HD.out, rdAbs_false]
    dsimp only
    rw [if_neg (by rw [hdl]; omega)]
    simp [List.drop_drop])
  have hkm : k1 + m ≤ B.length := by omega
  obtain ⟨a', hsl, E', hr', -⟩ := slice_cut (P := Tryd.prog) (t := 47) Tryd.underlying47 hi0 hz1 hrow k1 (k1 + m) (by omega) hkm
  rw [show k1 + m - k1 = m by omega] at hsl hr'
  obtain ⟨q, hq⟩ : ∃ q, k1 + m = q := ⟨_, rfl⟩
  rw [hq] at hsl
  have hwq : IntKind.i64.wrap ((k1 : Int) + (m : Int)) = (q : Int) := by rw [IntWalk.i64_in _ (by omega)]; omega
  have hcv : ∀ W : World, W.heap = w1.heap → _ := fun W hW => conv_str (P := Tryd.prog) (src := 47) (dst := 9) Tryd.underlying47 Tryd.underlying5 Tryd.underlying9 hr' W (fun b _ => by rw [hW])
  have k0 := fun (W : World) (hW : W.heap = w1.heap) => (frozen_heap2 hW _).trans c0
  have kk1 := fun (W : World) (hW : W.heap = w1.heap) => (frozen_heap2 hW _).trans c1
  have k2 := fun (W : World) (hW : W.heap = w1.heap) => (frozen_heap2 hW _).trans c2
  have y1 : w1.frozen? ⟨r, 1, none⟩ = false := (h1.on (k1 + m) hkm).1
  have HH := Lib.hid (show _ ∧ _ from ⟨h1, hq⟩)
  have hzm : ¬ (z : Int) < (m : Int) := by omega
  clear h1 hu hd hel hrow HC hz hdl hr' hlt hq
  go_wp2_with fail
  refine wp_region_M (fun W => W.heap = w1.heap) 18 (by kernel_rfl) ?_
  refine wpAnyM_take (by kernel_rfl) (by intro c a d v w h; cases d <;> exact h) [(0, false), (1, false), (2, false), (3, true), (4, false), (5, false), (6, false), (7, false), (8, true), (9, false), (10, false), (11, false), (12, false), (13, true), (14, false), (15, false), (16, false), (17, false)] (fuel := 0) (by kernel_rfl) ?_
  apply Exists.intro; refine ⟨?_, rfl, ?_⟩
  · iterate 18 ((first | (apply yieldN; (· (simp only [List.getElem?_toArray, List.getElem?_cons_succ, List.getElem?_cons_zero]; try rfl)); (· rfl)) | ((first | apply yieldP | apply yieldL); (· (simp only [List.getElem?_toArray, List.getElem?_cons_succ, List.getElem?_cons_zero]; try rfl)); (· rfl); (· (intros; go_simp; try with_reducible rfl)))); (· (simp only [Act.put, List.setIfInBounds_toArray, List.set_cons_zero, List.set_cons_succ]; try rfl)))
    exact rfl
  refine wpAnyM_done (by kernel_rfl) ?_ _
  go_wp2_with fail
  have y1 : w1.frozen? ⟨r, 1, none⟩ = false := y1
  obtain ⟨w2, hw2⟩ : ∃ w2, w2 = w1.drew := ⟨_, rfl⟩
  have hh2 : w2.heap = w1.heap := by rw [hw2]; rfl
  have HU2 := Lib.hid (show Upd w w2 [r] [r] from by rw [hw2]; exact HU.out.drew)
  have y1 : w2.frozen? ⟨r, 1, none⟩ = false := by unfold World.frozen? at y1 ⊢; rw [hh2]; exact y1
  rw [← hw2]
  clear hw2
  refine wp_region_M (fun W => W.heap = w1.heap) 17 (by kernel_rfl) ?_
  refine wpAnyM_take (by kernel_rfl) (by intro c a d v w h; cases d <;> exact h) [(0, false), (1, false), (2, false), (3, true), (4, false), (5, false), (6, false), (7, true), (8, false), (9, false), (10, false), (11, true), (12, false), (13, false), (14, false), (15, true), (16, false)] (fuel := 0) (by kernel_rfl) ?_
  apply Exists.intro; refine ⟨?_, hh2, ?_⟩
  · iterate 17 ((first | (apply yieldN; (· (simp only [List.getElem?_toArray, List.getElem?_cons_succ, List.getElem?_cons_zero]; try rfl)); (· rfl)) | ((first | apply yieldP | apply yieldL); (· (simp only [List.getElem?_toArray, List.getElem?_cons_succ, List.getElem?_cons_zero]; try rfl)); (· rfl); (· (intros; go_simp; try with_reducible rfl)))); (· (simp only [Act.put, List.setIfInBounds_toArray, List.set_cons_zero, List.set_cons_succ]; try rfl)))
    exact rfl
  refine wpAnyM_done (by kernel_rfl) ?_ _
  go_wp2_with fail
  go_ret
  rw [HQ.out]
  obtain ⟨h1, hq⟩ := HH.out
  obtain ⟨-, h2, hu2⟩ := (h1.frame (w' := w2) hh2).on (k1 + m) hkm
  rw [hq] at h2 hu2
  exact ⟨rfl, _, _, h2.frame rfl, by rw [← hq]; rfl, (HU2.out.trans hu2).drew⟩

/-- The document's reader beside all else; what it reads is one of the rows. -/
def RdF (w0 w : World) (r : Nat) (d : Rd) (R : List Thing) (rows : List (Value × Bs)) : Prop :=
  ∃ v T B k bad, (v, B) ∈ rows ∧ k ≤ B.length ∧ rdAbs B k bad = d ∧ Sep w0 w (ThCell r (.cells #[v, .int .i64 (k : Int), .bool bad] T (0, 0)) :: R) rows
section
variable {w0 w : World} {r : Nat} {d : Rd} {R : List Thing} {rows : List (Value × Bs)}
theorem RdF.use (h : RdF w0 w r d R rows) : ∃ v T E B k bad, RdFAt w r v T E B k bad ∧ rdAbs B k bad = d ∧ ∀ w' k' bad', RdFAt w' r v T E B k' bad' → Upd w w' [r] [r] → RdF w0 w' r (rdAbs B k' bad') R rows := by
  obtain ⟨v, T, B, k, bad, hm, hk, hd, hS⟩ := h
  obtain ⟨D, ⟨hb, rfl⟩, hr, back⟩ := hS.use
  obtain ⟨E, hE, hdis⟩ := hr _ hm
  refine ⟨v, T, E, B, k, bad, ⟨hb, hE, fun x hx e => hdis x hx (by simp [e]), hk⟩, hd, fun w' k' bad' h' hu => ?_⟩
  exact ⟨v, T, B, k', bad', hm, h'.2.2.2, rfl, back w' [r] (ThCell r (.cells #[v, .int .i64 (k' : Int), .bool bad'] T (0, 0))) hu ⟨h'.1, rfl⟩⟩
theorem RdF.i64 (h : RdF w0 w r d R rows) :
    Calls Tryd.prog 41 #[.pointer (some ⟨r, 0, none⟩)] w fun e w' => e = .returned (.int .i64 (i64R d).1) ∧ RdF w0 w' r (i64R d).2 R rows := by
  obtain ⟨v, T, E, B, k, bad, hP, rfl, back⟩ := h.use
  refine (rdf_i64 r v T E B k bad w hP).mono ?_
  rintro e w' ⟨rfl, k', bad', h', e', hu⟩
  exact ⟨rfl, by rw [← e']; exact back w' _ _ h' hu⟩
theorem RdF.count (h : RdF w0 w r d R rows) (most : Int) :
    Calls Tryd.prog 40 #[.pointer (some ⟨r, 0, none⟩), .int .i64 most] w fun e w' => e = .returned (.int .i64 (cntR most d).1) ∧ RdF w0 w' r (cntR most d).2 R rows := by
  obtain ⟨v, T, E, B, k, bad, hP, rfl, back⟩ := h.use
  refine (rdf_count r v T E B k bad most w hP).mono ?_
  rintro e w' ⟨rfl, k', bad', h', e', hu⟩
  exact ⟨rfl, by rw [← e']; exact back w' _ _ h' hu⟩
theorem RdF.text (h : RdF w0 w r d R rows) (most : Int) (hm : 0 ≤ most) :
    Calls Tryd.prog 42 #[.pointer (some ⟨r, 0, none⟩), .int .i64 most] w fun e w' => e = .returned (sv (textR most d).1) ∧ RdF w0 w' r (textR most d).2 R rows := by
  obtain ⟨v, T, E, B, k, bad, hP, rfl, back⟩ := h.use
  refine (rdf_text r v T E B k bad most hm w hP).mono ?_
  rintro e w' ⟨rfl, k', bad', h', e', hu⟩
  exact ⟨rfl, by rw [← e']; exact back w' _ _ h' hu⟩
theorem RdF.keep (h : RdF w0 w r d R rows) {w' : World} {D' : List Nat} (hu : Upd w w' [] D') : RdF w0 w' r d R rows := by
  obtain ⟨v, T, B, k, bad, hm, hk, hd, hS⟩ := h
  exact ⟨v, T, B, k, bad, hm, hk, hd, hS.keep hu⟩
theorem RdF.ends (h : RdF w0 w r d R rows) :
    Calls Tryd.prog 44 #[.pointer (some ⟨r, 0, none⟩)] w fun e w' => e = .returned (.bool (!d.2 && d.1.isEmpty)) ∧ RdF w0 w' r d R rows := by
  obtain ⟨v, T, E, B, k, bad, hP, rfl, back⟩ := h.use
  refine (rdf_end r v T E B k bad w hP).mono ?_
  rintro e w' ⟨rfl, hu, hh⟩
  exact ⟨rfl, h.keep hu⟩
/-- Is it Bad? -/
theorem RdF.isBad (h : RdF w0 w r d R rows) : w.cell? ⟨r, 2, none⟩ = some (.bool d.2) ∧ (d.2 = true → d.1 = []) := by
  obtain ⟨v, T, E, B, k, bad, hP, rfl, back⟩ := h.use
  refine ⟨?_, ?_⟩
  · cases bad <;> exact cell_of hP.1 2 rfl
  · cases bad
    · intro h; cases h
    · intro _; rfl
/-- A new one. -/
theorem RdF.made {v : Value} {b : Bs} (h : Sep w0 w R rows) (hv : (v, b) ∈ rows) (T : TypeId) : RdF w0 (w.alloc (.cells #[v, .int .i64 0, .bool false] T (0, 0))) w.heap.size (b, false) R rows :=
  ⟨v, T, b, 0, false, hv, Nat.zero_le _, rfl, h.newCell _⟩
theorem RdF.drop (h : RdF w0 w r d R rows) : Sep w0 w R rows := by
  obtain ⟨v, T, B, k, bad, hm, hk, hd, hS⟩ := h
  exact hS.drop
theorem RdF.to (h : RdF w0 w r d R rows) : ∃ X, Sep w0 w (X :: R) rows ∧ ∀ w' R' rows', (∀ x ∈ rows, x ∈ rows') → Sep w0 w' (X :: R') rows' → RdF w0 w' r d R' rows' := by
  obtain ⟨v, T, B, k, bad, hm, hk, hd, hS⟩ := h
  exact ⟨_, hS, fun w' R' rows' hs h' => ⟨v, T, B, k, bad, hs _ hm, hk, hd, h'⟩⟩
end
end Go.Proofs.YtfncdgnhiinmjaaDoor

/-
  The document's own table: GetTable.
-/
namespace Go.Proofs.YtfncdgnhiinmjaaDoor
open Go.RowKit Go.Av Go.Sort
section
variable {w0 w : World} {R : List Thing} {rows : List (Value × Bs)}
def GetRPost (w0 : World) (R : List Thing) (rows : List (Value × Bs)) (o : Option RtS) (e : Ending) (w' : World) : Prop :=
  match o with
  | none => e = .returned (.tuple #[.pointer none, .bool false]) ∧ Sep w0 w' R rows
  | some T => ∃ t, e = .returned (.tuple #[.pointer (some ⟨t, 0, none⟩), .bool true]) ∧ Sep w0 w' (ThRf t T :: R) rows

set_option maxRecDepth 100000 in
set_option maxHeartbeats 8000000 in
theorem get_ref (h : Sep w0 w R rows) (v : Value) (b : Bs) (hv : (v, b) ∈ rows) : Calls Tryd.prog 21 #[v] w (GetRPost w0 R rows (getR b)) := by
  obtain ⟨i0, hi0, hz0, hz1, hz2⟩ := info_parts infoMv
  have H0 := Lib.hid (RdF.made h hv 80)
  have hsz : ∃ a n c, v = .slice a n c := by
    obtain ⟨E, hE⟩ := h.get hv
    obtain ⟨a, n, c, h1, -⟩ := hE
    exact ⟨a, n, c, h1⟩
  obtain ⟨a0, n0, c0, rfl⟩ := hsz
  clear h hv
  have hgt : getR b = getR b := rfl
  conv at hgt => rhs; unfold getR
  have hb4 := cntR_bd (most := 4) (by decide) (b, false)
  obtain ⟨q, hq⟩ : ∃ q, cntR 4 (b, false) = q := ⟨_, rfl⟩
  simp only [hq] at hgt
  rw [hq] at hb4
  obtain ⟨n, d0⟩ := q
  obtain ⟨q2, hq2⟩ : ∃ q, i64R d0 = q := ⟨_, rfl⟩
  simp only [hq2] at hgt
  obtain ⟨ver, d1⟩ := q2
  have hb5 := cntR_bd (most := 50) (by decide) d1
  obtain ⟨q3, hq3⟩ : ∃ q, cntR 50 d1 = q := ⟨_, rfl⟩
  dsimp only at hgt hb4
  simp only [hq3] at hgt
  rw [hq3] at hb5
  obtain ⟨cN, d2⟩ := q3
  dsimp only at hgt hb5
  obtain ⟨N, rfl⟩ : ∃ N : Nat, cN = N := ⟨cN.toNat, by omega⟩
  rw [Int.toNat_natCast] at hgt
  have HQ := Lib.hid (show _ ∧ _ ∧ _ from ⟨hq, hq2, hq3⟩)
  obtain ⟨gt, hgt2⟩ : ∃ gt, getR b = gt := ⟨_, rfl⟩
  rw [hgt2] at hgt ⊢
  clear hq hq2 hq3 hgt2
  have HG := Lib.hid hgt
  clear hgt
  go_enter Tryd.func21, Tryd.ntmps21
  go_wp2_with fail
  have hc := H0.out.count 4
  rw [HQ.out.1] at hc
  refine hc.mono ?_
  rintro e w1 ⟨rfl, h1⟩
  have H1 := Lib.hid h1
  clear h1 hc H0
  go_wp2_with fail
  have hc := H1.out.i64
  rw [HQ.out.2.1] at hc
  refine hc.mono ?_
  rintro e w2 ⟨rfl, h2⟩
  obtain ⟨X, hX, back⟩ := h2.to
  have hT : RdF w0 (w2.alloc (.cells #[.int .i64 n, .int .i64 ver, .slice none 0 0] 55 (0, 0))) w.heap.size d1 (rfTh w2.heap.size (.slice none 0 0) ⟨n, ver, []⟩ ++ R) rows :=
    back _ _ rows (fun _ h => h) (((hX.nilRow 2).newCell (.cells #[.int .i64 n, .int .i64 ver, .slice none 0 0] 55 (0, 0))).perm (List.perm_middle (l₁ := [_, _])))
  have H2 := Lib.hid hT
  clear h2 hX back hT hc H1
  go_wp2_with fail
  obtain ⟨t, ht⟩ : ∃ t, t = w2.heap.size := ⟨_, rfl⟩
  obtain ⟨r, hr⟩ : ∃ r, r = w.heap.size := ⟨_, rfl⟩
  rw [← ht, ← hr] at H2
  rw [← ht, ← hr]
  obtain ⟨w3, hw3⟩ : ∃ z, z = w2.alloc (.cells #[.int .i64 n, .int .i64 ver, .slice none 0 0] 55 (0, 0)) := ⟨_, rfl⟩
  rw [← hw3] at H2 ⊢
  clear ht hr hw3
  have hc := H2.out.count 50
  rw [HQ.out.2.2] at hc
  refine hc.mono ?_
  rintro e w4 ⟨rfl, h4⟩
  obtain ⟨X, hX, -⟩ := h4.to
  have hb := (hX.drop).blk
  have c0 := cell_of hb 0 rfl
  have c1 := cell_of hb 1 rfl
  rw [show (#[Value.int .i64 n, .int .i64 ver, .slice none 0 0] : Array Value)[0] = .int .i64 n from rfl] at c0
  rw [show (#[Value.int .i64 n, .int .i64 ver, .slice none 0 0] : Array Value)[1] = .int .i64 ver from rfl] at c1
  have H4 := Lib.hid h4
  have HR := Lib.hid (show Sep w0 w4 R rows from (hX.drop).drop.drop)
  clear h4 hX hb hc H2
  by_cases hn1 : n < 1
  · have HGG := Lib.hid (show gt = none by rw [HG.out, if_pos (.inl hn1)])
    go_wp2_with fail
    go_ret2
    rw [HGG.out]
    exact ⟨rfl, HR.out⟩
  by_cases hv1 : ver < (N : Int) + 1
  · have HGG := Lib.hid (show gt = none by rw [HG.out, if_pos (.inr (.inl hv1))])
    go_wp2_with fail
    go_ret2
    rw [HGG.out]
    exact ⟨rfl, HR.out⟩
  by_cases hv2 : 1099511627776 < ver
  · have HGG := Lib.hid (show gt = none by rw [HG.out, if_pos (.inr (.inr hv2))])
    go_wp2_with fail
    go_ret2
    rw [HGG.out]
    exact ⟨rfl, HR.out⟩
  have hgt := HG.out
  rw [if_neg (by omega)] at hgt
  have HG := Lib.hid hgt
  clear hgt HR
  go_wp2_with fail
  go_loopg [7, 8] N (fun k vl vi wr => ∃ (j : Nat) (l : List (Bs × Int)) (last : ByteArray) (d : Rd) (u : Value), j ≤ N ∧ k = N - j ∧ l.length = j ∧ vi = .int .i64 (j : Int) ∧ vl = .string last ∧ RdF w0 wr r d (rfTh t u ⟨n, ver, l⟩ ++ R) rows ∧
    getRN n N [] d2 [] = getRN n (N - j) last.data.toList d l)
  case atStart => exact ⟨0, [], ⟨#[]⟩, d2, _, Nat.zero_le _, rfl, rfl, rfl, rfl, H4.out, rfl⟩
  case round =>
    obtain ⟨j, l, last, d, u, hj, hk, hlj, hvi, hvl, hC, hg⟩ := hrel
    subst hvi hvl
    clear H4 c0 c1
    obtain ⟨X, hX, -⟩ := hC.to
    obtain ⟨au, nu, cu, rfl, hlu, hnu, hcu⟩ := (hX.pick 2 rfl rfl).rowLen
    rw [mcell_len] at hlu
    have hlu : l.length * 2 = nu * 2 := hlu
    obtain rfl : nu = j := by omega
    clear hX
    obtain ⟨X, hX, -⟩ := hC.to
    have hbk := (hX.drop).blk
    have c0 := cell_of hbk 0 rfl
    have c1 := cell_of hbk 1 rfl
    have c2 : wr.cell? ⟨t, 2, none⟩ = some (.slice au nu cu) := cell_of hbk 2 rfl
    rw [show (#[Value.int .i64 n, .int .i64 ver, .slice au nu cu] : Array Value)[0] = .int .i64 n from rfl] at c0
    rw [show (#[Value.int .i64 n, .int .i64 ver, .slice au nu cu] : Array Value)[1] = .int .i64 ver from rfl] at c1
    obtain ⟨cb, hbe⟩ := hC.isBad
    have HRT := Lib.hid (show Sep w0 wr R rows ∧ Sep w0 wr (ThRf t ⟨n, ver, l⟩ :: R) rows from ⟨(hX.drop).drop.drop, rf_iff.2 ⟨.slice au nu cu, hX.drop⟩⟩)
    obtain ⟨bd, hbd⟩ : ∃ bd, d.2 = bd := ⟨_, rfl⟩
    rw [hbd] at cb
    have HBD := Lib.hid hbd
    have HBE := Lib.hid hbe
    have HC := Lib.hid hC
    have HGN := Lib.hid hg
    clear hX hbk hC hg hbe hbd
    by_cases hlt : nu < N
    case neg =>
      obtain rfl : nu = N := by omega
      have hge : gt = if (!(!d.2 && d.1.isEmpty) || (((nu : Int) == 0) && (ver != 1))) = true then none else some ⟨n, ver, l⟩ := by
        rw [HG.out, HGN.out, Nat.sub_self]
        rfl
      obtain ⟨eb, heb⟩ : ∃ eb, (!d.2 && d.1.isEmpty) = eb := ⟨_, rfl⟩
      rw [heb] at hge
      have hE := HC.out.ends
      rw [heb] at hE
      have HE := Lib.hid hE
      have HGE := Lib.hid hge
      obtain ⟨z1, hz1'⟩ : ∃ z, ((nu : Int) == 0) = z := ⟨_, rfl⟩
      obtain ⟨z2, hz2'⟩ : ∃ z, (ver != 1) = z := ⟨_, rfl⟩
      rw [hz1', hz2'] at HGE
      clear hge hE heb
      have HU := Lib.hid (show ∀ W, RdF w0 W r d (rfTh t (.slice au nu cu) ⟨n, ver, l⟩ ++ R) rows → W.cell? ⟨t, 1, none⟩ = some (.int .i64 ver) ∧ Sep w0 W R rows ∧ Sep w0 W (ThRf t ⟨n, ver, l⟩ :: R) rows from fun W h => by
        obtain ⟨X, hX, -⟩ := h.to
        exact ⟨cell_of (hX.drop).blk 1 rfl, (hX.drop).drop.drop, rf_iff.2 ⟨.slice au nu cu, hX.drop⟩⟩)
      cases eb with
      | false =>
        go_wp2_with fail
        refine HE.out.mono ?_
        rintro e w6 ⟨rfl, h6⟩
        have H6 := Lib.hid (HU.out _ h6)
        clear h6
        go_wp2_with fail
        go_ret2
        rw [HGE.out, if_pos (by simp)]
        exact ⟨rfl, H6.out.2.1⟩
      | true =>
      cases z1 with
      | false =>
        go_wp2_with fail
        refine HE.out.mono ?_
        rintro e w6 ⟨rfl, h6⟩
        have H6 := Lib.hid (HU.out _ h6)
        clear h6
        go_wp2_with fail
        go_ret2
        rw [HGE.out, if_neg (by simp)]
        exact ⟨t, rfl, H6.out.2.2⟩
      | true =>
      cases z2 with
      | false =>
        go_wp2_with fail
        refine HE.out.mono ?_
        rintro e w6 ⟨rfl, h6⟩
        have H6 := Lib.hid (HU.out _ h6)
        have q1 := H6.out.1
        clear h6
        go_wp2_with fail
        go_ret2
        rw [HGE.out, if_neg (by simp)]
        exact ⟨t, rfl, H6.out.2.2⟩
      | true =>
        go_wp2_with fail
        refine HE.out.mono ?_
        rintro e w6 ⟨rfl, h6⟩
        have H6 := Lib.hid (HU.out _ h6)
        have q1 := H6.out.1
        clear h6
        go_wp2_with fail
        go_ret2
        rw [HGE.out, if_pos (by simp)]
        exact ⟨rfl, H6.out.2.1⟩
    cases bd with
    | true =>
      have hge : gt = none := by
        rw [HG.out, HGN.out, show N - nu = (N - (nu + 1)) + 1 by omega]
        unfold getRN
        rw [if_pos HBD.out]
        unfold endR
        dsimp only
        rw [HBD.out]
        rfl
      have HGE := Lib.hid hge
      have hE := HC.out.ends
      rw [HBD.out] at hE
      have HE := Lib.hid hE
      have HU := Lib.hid (show ∀ W, RdF w0 W r d (rfTh t (.slice au nu cu) ⟨n, ver, l⟩ ++ R) rows → Sep w0 W R rows from fun W h => by
        obtain ⟨X, hX, -⟩ := h.to
        exact (hX.drop).drop.drop)
      clear hge hE
      go_wp2_with fail
      refine HE.out.mono ?_
      rintro e w6 ⟨rfl, h6⟩
      have H6 := Lib.hid (HU.out _ h6)
      clear h6
      go_wp2_with fail
      go_ret2
      rw [HGE.out]
      exact ⟨rfl, H6.out⟩
    | false =>
    have hg2 : N - nu = (N - (nu + 1)) + 1 := by omega
    have hg := HGN.out
    rw [hg2] at hg
    conv at hg => rhs; unfold getRN
    rw [if_neg (by rw [HBD.out]; simp)] at hg
    have htl := textR_len 40 (by decide) d
    have htx := HC.out.text 40 (by decide)
    obtain ⟨q, hq⟩ : ∃ q, textR 40 d = q := ⟨_, rfl⟩
    simp only [hq] at hg
    rw [hq] at htl htx
    obtain ⟨s, da⟩ := q
    dsimp only at hg htl htx
    have hcb := cntR_bd (most := 3) (by decide) da
    obtain ⟨q2, hq2⟩ : ∃ q, cntR 3 da = q := ⟨_, rfl⟩
    simp only [hq2] at hg
    rw [hq2] at hcb
    obtain ⟨c, db⟩ := q2
    dsimp only at hg hcb
    have HTX := Lib.hid htx
    have HQ2 := Lib.hid hq2
    obtain ⟨sb, hsb⟩ : ∃ sb : ByteArray, sb = ⟨s.toArray⟩ := ⟨_, rfl⟩
    have hsb2 : sb.data.toList = s := by rw [hsb]
    have hsz : sb.size ≤ 1000 := by rw [hsb]; show s.toArray.size ≤ _; simp; omega
    have hsvb : sv s = .string sb := by rw [hsb]; rfl
    rw [hsvb] at HTX
    rw [← hsb2] at hg
    have HG2 := Lib.hid hg
    clear hq hq2 hg htl htx hsb hsvb c0 c1 c2
    go_wp2_with fail
    refine HTX.out.mono ?_
    rintro e w6 ⟨rfl, h6⟩
    have hct := h6.count 3
    rw [HQ2.out] at hct
    have HCT := Lib.hid hct
    clear h6 hct HTX
    go_wp2_with fail
    refine HCT.out.mono ?_
    rintro e w7 ⟨rfl, h7⟩
    have H7 := Lib.hid h7
    clear h7 HCT cb
    go_wp2_with fail
    obtain ⟨X, hX, back⟩ := H7.out.to
    have h8 := (hX.newCell (.cells #[.string sb, .int .i64 c] 82 (0, 0)))
    obtain ⟨x, hxx⟩ : ∃ x, x = w7.heap.size := ⟨_, rfl⟩
    rw [← hxx] at h8
    rw [← hxx]
    obtain ⟨w8, hw8⟩ : ∃ z, z = w7.alloc (.cells #[.string sb, .int .i64 c] 82 (0, 0)) := ⟨_, rfl⟩
    rw [← hw8] at h8
    rw [← hw8]
    have hbx := h8.blk
    have x0 := cell_of hbx 0 rfl
    have x1 := cell_of hbx 1 rfl
    rw [show (#[Value.string sb, .int .i64 c] : Array Value)[0] = .string sb from rfl] at x0
    rw [show (#[Value.string sb, .int .i64 c] : Array Value)[1] = .int .i64 c from rfl] at x1
    have hbt := (h8.drop).drop.blk
    have t0 := cell_of hbt 0 rfl
    have t2 : w8.cell? ⟨t, 2, none⟩ = some (.slice au nu cu) := cell_of hbt 2 rfl
    rw [show (#[Value.int .i64 n, .int .i64 ver, .slice au nu cu] : Array Value)[0] = .int .i64 n from rfl] at t0
    have H8 := Lib.hid (show _ ∧ _ from ⟨h8, back⟩)
    have HR8 := Lib.hid (show Sep w0 w8 R rows from (h8.drop).drop.drop.drop)
    have hnmA := isName_any sb w8.drew (by unfold maxLen; omega)
    obtain ⟨nm, hnm⟩ : ∃ nm, nameR sb.data.toList = nm := ⟨_, rfl⟩
    rw [hnm] at hnmA
    have HNM := Lib.hid hnmA
    have HNE := Lib.hid hnm
    have hiff := str_le sb last
    have HIF := Lib.hid hiff
    clear hX back h8 hbx hbt hnmA hnm hiff hxx hw8 H7
    cases nm with
    | false =>
      have HGN2 := Lib.hid (show gt = none by rw [HG.out, HG2.out, if_pos (.inl HNE.out)]; rfl)
      go_wp2_with fail
      refine wp_region_M (fun W => W.cell? ⟨x, 0, none⟩ = some (.string sb) ∧ W.cell? ⟨x, 1, none⟩ = some (.int .i64 c) ∧ W.cell? ⟨t, 0, none⟩ = some (.int .i64 n)) 19 (by kernel_rfl) ?_
      refine wpAnyM_take (by kernel_rfl) (by intro c a d v w h; cases d <;> exact h) [(0, false), (1, true)] (fuel := 17) (by kernel_rfl) ?_
      apply Exists.intro; refine ⟨?_, ⟨x0, x1, t0⟩, ?_⟩
      · iterate 2 ((first | (apply yieldN; (· (simp only [List.getElem?_toArray, List.getElem?_cons_succ, List.getElem?_cons_zero]; try rfl)); (· rfl)) | ((first | apply yieldP | apply yieldL); (· (simp only [List.getElem?_toArray, List.getElem?_cons_succ, List.getElem?_cons_zero]; try rfl)); (· rfl); (· (intros; go_simp; try with_reducible rfl)))); (· (simp only [Act.put, List.setIfInBounds_toArray, List.set_cons_zero, List.set_cons_succ]; try rfl)))
        exact rfl
      refine wpAnyM_one (fuel := 16) (i := 2) (by kernel_rfl) (by rfl) (fun K hK => ?_)    -- CALL
      go_wp2_with fail
      refine HNM.out.mono ?_
      rintro e w10 ⟨rfl, hW⟩
      subst w10
      go_wp2_with fail
      refine hK _ _ ⟨x0, x1, t0⟩ ?_
      clear hK
      refine wpAnyM_take (by kernel_rfl) (by intro c a d v w h; cases d <;> exact h) [(3, false), (4, false), (5, false), (6, true), (7, false), (8, false), (9, false), (10, false), (11, false), (12, true), (13, false), (14, false), (15, false), (16, true), (17, false), (18, false)] (fuel := 0) (by kernel_rfl) ?_
      apply Exists.intro; refine ⟨?_, ⟨x0, x1, t0⟩, ?_⟩
      · iterate 16 ((first | (apply yieldN; (· (simp only [List.getElem?_toArray, List.getElem?_cons_succ, List.getElem?_cons_zero]; try rfl)); (· rfl)) | ((first | apply yieldP | apply yieldL); (· (simp only [List.getElem?_toArray, List.getElem?_cons_succ, List.getElem?_cons_zero]; try rfl)); (· rfl); (· (intros; go_simp; try with_reducible rfl)))); (· (simp only [Act.put, List.setIfInBounds_toArray, List.set_cons_zero, List.set_cons_succ]; try rfl)))
        exact rfl
      refine wpAnyM_done (by kernel_rfl) ?_ _
      go_wp2_with fail
      go_ret2
      rw [HGN2.out]
      exact ⟨rfl, HR8.out.drew⟩
    | true =>
    cases hl1 : Op.bytesLess sb.toList last.toList with
    | true =>
      have HGN2 := Lib.hid (show gt = none by rw [HG.out, HG2.out, if_pos (.inr (.inl (HIF.out.2 (.inl hl1))))]; rfl)
      go_wp2_with fail
      refine wp_region_M (fun W => W.cell? ⟨x, 0, none⟩ = some (.string sb) ∧ W.cell? ⟨x, 1, none⟩ = some (.int .i64 c) ∧ W.cell? ⟨t, 0, none⟩ = some (.int .i64 n)) 19 (by kernel_rfl) ?_
      refine wpAnyM_take (by kernel_rfl) (by intro c a d v w h; cases d <;> exact h) [(0, false), (1, true)] (fuel := 17) (by kernel_rfl) ?_
      apply Exists.intro; refine ⟨?_, ⟨x0, x1, t0⟩, ?_⟩
      · iterate 2 ((first | (apply yieldN; (· (simp only [List.getElem?_toArray, List.getElem?_cons_succ, List.getElem?_cons_zero]; try rfl)); (· rfl)) | ((first | apply yieldP | apply yieldL); (· (simp only [List.getElem?_toArray, List.getElem?_cons_succ, List.getElem?_cons_zero]; try rfl)); (· rfl); (· (intros; go_simp; try with_reducible rfl)))); (· (simp only [Act.put, List.setIfInBounds_toArray, List.set_cons_zero, List.set_cons_succ]; try rfl)))
        exact rfl
      refine wpAnyM_one (fuel := 16) (i := 2) (by kernel_rfl) (by rfl) (fun K hK => ?_)    -- CALL
      go_wp2_with fail
      refine HNM.out.mono ?_
      rintro e w10 ⟨rfl, hW⟩
      subst w10
      go_wp2_with fail
      refine hK _ _ ⟨x0, x1, t0⟩ ?_
      clear hK
      refine wpAnyM_take (by kernel_rfl) (by intro c a d v w h; cases d <;> exact h) [(3, false), (4, false), (5, false), (6, true), (7, false), (8, false), (9, false), (10, false), (11, false), (12, true), (13, false), (14, false), (15, false), (16, true), (17, false), (18, false)] (fuel := 0) (by kernel_rfl) ?_
      apply Exists.intro; refine ⟨?_, ⟨x0, x1, t0⟩, ?_⟩
      · iterate 16 ((first | (apply yieldN; (· (simp only [List.getElem?_toArray, List.getElem?_cons_succ, List.getElem?_cons_zero]; try rfl)); (· rfl)) | ((first | apply yieldP | apply yieldL); (· (simp only [List.getElem?_toArray, List.getElem?_cons_succ, List.getElem?_cons_zero]; try rfl)); (· rfl); (· (intros; go_simp; try with_reducible rfl)))); (· (simp only [Act.put, List.setIfInBounds_toArray, List.set_cons_zero, List.set_cons_succ]; try rfl)))
        exact rfl
      refine wpAnyM_done (by kernel_rfl) ?_ _
      go_wp2_with fail
      go_ret2
      rw [HGN2.out]
      exact ⟨rfl, HR8.out.drew⟩
    | false =>
    cases hl2 : (sb.toList == last.toList) with
    | true =>
      have HGN2 := Lib.hid (show gt = none by rw [HG.out, HG2.out, if_pos (.inr (.inl (HIF.out.2 (.inr hl2))))]; rfl)
      go_wp2_with fail
      refine wp_region_M (fun W => W.cell? ⟨x, 0, none⟩ = some (.string sb) ∧ W.cell? ⟨x, 1, none⟩ = some (.int .i64 c) ∧ W.cell? ⟨t, 0, none⟩ = some (.int .i64 n)) 19 (by kernel_rfl) ?_
      refine wpAnyM_take (by kernel_rfl) (by intro c a d v w h; cases d <;> exact h) [(0, false), (1, true)] (fuel := 17) (by kernel_rfl) ?_
      apply Exists.intro; refine ⟨?_, ⟨x0, x1, t0⟩, ?_⟩
      · iterate 2 ((first | (apply yieldN; (· (simp only [List.getElem?_toArray, List.getElem?_cons_succ, List.getElem?_cons_zero]; try rfl)); (· rfl)) | ((first | apply yieldP | apply yieldL); (· (simp only [List.getElem?_toArray, List.getElem?_cons_succ, List.getElem?_cons_zero]; try rfl)); (· rfl); (· (intros; go_simp; try with_reducible rfl)))); (· (simp only [Act.put, List.setIfInBounds_toArray, List.set_cons_zero, List.set_cons_succ]; try rfl)))
        exact rfl
      refine wpAnyM_one (fuel := 16) (i := 2) (by kernel_rfl) (by rfl) (fun K hK => ?_)    -- CALL
      go_wp2_with fail
      refine HNM.out.mono ?_
      rintro e w10 ⟨rfl, hW⟩
      subst w10
      go_wp2_with fail
      refine hK _ _ ⟨x0, x1, t0⟩ ?_
      clear hK
      refine wpAnyM_take (by kernel_rfl) (by intro c a d v w h; cases d <;> exact h) [(3, false), (4, false), (5, false), (6, true), (7, false), (8, false), (9, false), (10, false), (11, false), (12, true), (13, false), (14, false), (15, false), (16, true), (17, false), (18, false)] (fuel := 0) (by kernel_rfl) ?_
      apply Exists.intro; refine ⟨?_, ⟨x0, x1, t0⟩, ?_⟩
      · iterate 16 ((first | (apply yieldN; (· (simp only [List.getElem?_toArray, List.getElem?_cons_succ, List.getElem?_cons_zero]; try rfl)); (· rfl)) | ((first | apply yieldP | apply yieldL); (· (simp only [List.getElem?_toArray, List.getElem?_cons_succ, List.getElem?_cons_zero]; try rfl)); (· rfl); (· (intros; go_simp; try with_reducible rfl)))); (· (simp only [Act.put, List.setIfInBounds_toArray, List.set_cons_zero, List.set_cons_succ]; try rfl)))
        exact rfl
      refine wpAnyM_done (by kernel_rfl) ?_ _
      go_wp2_with fail
      go_ret2
      rw [HGN2.out]
      exact ⟨rfl, HR8.out.drew⟩
    | false =>
    by_cases hcn : n ≤ c
    · have HGN2 := Lib.hid (show gt = none by rw [HG.out, HG2.out, if_pos (.inr (.inr hcn))]; rfl)
      skip
      go_wp2_with fail
      refine wp_region_M (fun W => W.cell? ⟨x, 0, none⟩ = some (.string sb) ∧ W.cell? ⟨x, 1, none⟩ = some (.int .i64 c) ∧ W.cell? ⟨t, 0, none⟩ = some (.int .i64 n)) 19 (by kernel_rfl) ?_
      refine wpAnyM_take (by kernel_rfl) (by intro c a d v w h; cases d <;> exact h) [(0, false), (1, true)] (fuel := 17) (by kernel_rfl) ?_
      apply Exists.intro; refine ⟨?_, ⟨x0, x1, t0⟩, ?_⟩
      · iterate 2 ((first | (apply yieldN; (· (simp only [List.getElem?_toArray, List.getElem?_cons_succ, List.getElem?_cons_zero]; try rfl)); (· rfl)) | ((first | apply yieldP | apply yieldL); (· (simp only [List.getElem?_toArray, List.getElem?_cons_succ, List.getElem?_cons_zero]; try rfl)); (· rfl); (· (intros; go_simp; try with_reducible rfl)))); (· (simp only [Act.put, List.setIfInBounds_toArray, List.set_cons_zero, List.set_cons_succ]; try rfl)))
        exact rfl
      refine wpAnyM_one (fuel := 16) (i := 2) (by kernel_rfl) (by rfl) (fun K hK => ?_)    -- CALL
      go_wp2_with fail
      refine HNM.out.mono ?_
      rintro e w10 ⟨rfl, hW⟩
      subst w10
      go_wp2_with fail
      refine hK _ _ ⟨x0, x1, t0⟩ ?_
      clear hK
      refine wpAnyM_take (by kernel_rfl) (by intro c a d v w h; cases d <;> exact h) [(3, false), (4, false), (5, false), (6, true), (7, false), (8, false), (9, false), (10, false), (11, false), (12, true), (13, false), (14, false), (15, false), (16, true), (17, false), (18, false)] (fuel := 0) (by kernel_rfl) ?_
      apply Exists.intro; refine ⟨?_, ⟨x0, x1, t0⟩, ?_⟩
      · iterate 16 ((first | (apply yieldN; (· (simp only [List.getElem?_toArray, List.getElem?_cons_succ, List.getElem?_cons_zero]; try rfl)); (· rfl)) | ((first | apply yieldP | apply yieldL); (· (simp only [List.getElem?_toArray, List.getElem?_cons_succ, List.getElem?_cons_zero]; try rfl)); (· rfl); (· (intros; go_simp; try with_reducible rfl)))); (· (simp only [Act.put, List.setIfInBounds_toArray, List.set_cons_zero, List.set_cons_succ]; try rfl)))
        exact rfl
      refine wpAnyM_done (by kernel_rfl) ?_ _
      go_wp2_with fail
      go_ret2
      rw [HGN2.out]
      exact ⟨rfl, HR8.out.drew⟩
    have hg3 := HG2.out
    rw [if_neg (by
      rintro (h | h | h)
      · rw [HNE.out] at h; cases h
      · rcases HIF.out.1 h with h | h
        · rw [hl1] at h; cases h
        · rw [hl2] at h; cases h
      · exact hcn h)] at hg3
    have HG3 := Lib.hid hg3
    clear hg3 HG2
    go_wp2_with fail
    refine wp_region_M (fun W => W.cell? ⟨x, 0, none⟩ = some (.string sb) ∧ W.cell? ⟨x, 1, none⟩ = some (.int .i64 c) ∧ W.cell? ⟨t, 0, none⟩ = some (.int .i64 n)) 19 (by kernel_rfl) ?_
    refine wpAnyM_take (by kernel_rfl) (by intro c a d v w h; cases d <;> exact h) [(0, false), (1, true)] (fuel := 17) (by kernel_rfl) ?_
    apply Exists.intro; refine ⟨?_, ⟨x0, x1, t0⟩, ?_⟩
    · iterate 2 ((first | (apply yieldN; (· (simp only [List.getElem?_toArray, List.getElem?_cons_succ, List.getElem?_cons_zero]; try rfl)); (· rfl)) | ((first | apply yieldP | apply yieldL); (· (simp only [List.getElem?_toArray, List.getElem?_cons_succ, List.getElem?_cons_zero]; try rfl)); (· rfl); (· (intros; go_simp; try with_reducible rfl)))); (· (simp only [Act.put, List.setIfInBounds_toArray, List.set_cons_zero, List.set_cons_succ]; try rfl)))
      exact rfl
    refine wpAnyM_one (fuel := 16) (i := 2) (by kernel_rfl) (by rfl) (fun K hK => ?_)    -- CALL
    go_wp2_with fail
    refine HNM.out.mono ?_
    rintro e w10 ⟨rfl, hW⟩
    subst w10
    go_wp2_with fail
    refine hK _ _ ⟨x0, x1, t0⟩ ?_
    clear hK
    refine wpAnyM_take (by kernel_rfl) (by intro c a d v w h; cases d <;> exact h) [(3, false), (4, false), (5, false), (6, true), (7, false), (8, false), (9, false), (10, false), (11, false), (12, true), (13, false), (14, false), (15, false), (16, true), (17, false), (18, false)] (fuel := 0) (by kernel_rfl) ?_
    apply Exists.intro; refine ⟨?_, ⟨x0, x1, t0⟩, ?_⟩
    · iterate 16 ((first | (apply yieldN; (· (simp only [List.getElem?_toArray, List.getElem?_cons_succ, List.getElem?_cons_zero]; try rfl)); (· rfl)) | ((first | apply yieldP | apply yieldL); (· (simp only [List.getElem?_toArray, List.getElem?_cons_succ, List.getElem?_cons_zero]; try rfl)); (· rfl); (· (intros; go_simp; try with_reducible rfl)))); (· (simp only [Act.put, List.setIfInBounds_toArray, List.set_cons_zero, List.set_cons_succ]; try rfl)))
      exact rfl
    refine wpAnyM_done (by kernel_rfl) ?_ _
    go_wp2_with fail
    obtain ⟨w9, hw9⟩ : ∃ z, z = w8.drew := ⟨_, rfl⟩
    have h9 : Sep w0 w9 (ThCell x (.cells #[.string sb, .int .i64 c] 82 (0, 0)) :: X :: (rfTh t (.slice au nu cu) ⟨n, ver, l⟩ ++ R)) rows := by rw [hw9]; exact H8.out.1.drew
    have x0 : w9.cell? ⟨x, 0, none⟩ = some (.string sb) := by rw [hw9]; exact x0
    have x1 : w9.cell? ⟨x, 1, none⟩ = some (.int .i64 c) := by rw [hw9]; exact x1
    have t2 : w9.cell? ⟨t, 2, none⟩ = some (.slice au nu cu) := by rw [hw9]; exact t2
    rw [← hw9]
    have H9 := Lib.hid (show _ ∧ _ from ⟨h9, H8.out.2⟩)
    clear hw9 h9 t0 H8 HR8 HNM
    go_wp2_with fail
    refine wp_region_M (fun W => W.cell? ⟨t, 2, none⟩ = some (.slice au nu cu) ∧ W.cell? ⟨x, 0, none⟩ = some (.string sb) ∧ W.cell? ⟨x, 1, none⟩ = some (.int .i64 c)) 8 (by kernel_rfl) ?_
    refine wpAnyM_take (by kernel_rfl) (by intro c a d v w h; cases d <;> exact h) [(0, false), (1, false), (2, false), (3, false), (4, true), (5, true)] (fuel := 5) (by kernel_rfl) ?_
    apply Exists.intro; refine ⟨?_, ⟨t2, x0, x1⟩, ?_⟩
    · iterate 6 ((first | (apply yieldN; (· (simp only [List.getElem?_toArray, List.getElem?_cons_succ, List.getElem?_cons_zero]; try rfl)); (· rfl)) | ((first | apply yieldP | apply yieldL); (· (simp only [List.getElem?_toArray, List.getElem?_cons_succ, List.getElem?_cons_zero]; try rfl)); (· rfl); (· (intros; go_simp; try with_reducible rfl)))); (· (simp only [Act.put, List.setIfInBounds_toArray, List.set_cons_zero, List.set_cons_succ]; try rfl)))
      exact rfl
    refine wpAnyM_one (fuel := 4) (i := 6) (by kernel_rfl) (by rfl) (fun K hK => ?_)    -- buildSlice
    go_wp2_with fail
    have ub := (Upd.refl w9 []).drew.trans (Upd.alloc0 w9.drew (.cells #[.string sb, .int .i64 c] 82) [])
    have hrb := cell2_new w9.drew (.string sb) (.int .i64 c) 82
    have k2 := upd_cell ub t2
    have q0 := upd_cell ub x0
    have q1 := upd_cell ub x1
    refine hK _ (w9.drew.alloc (.cells #[.string sb, .int .i64 c] 82)) ⟨k2, q0, q1⟩ ?_
    clear hK t2 x0 x1
    obtain ⟨g5, hg5⟩ : ∃ z, z = w9.drew.heap.size := ⟨_, rfl⟩
    obtain ⟨wa, hwa⟩ : ∃ z, z = w9.drew.alloc (.cells #[.string sb, .int .i64 c] 82) := ⟨_, rfl⟩
    rw [← hwa] at hrb ub k2 q0 q1 ⊢
    rw [← hg5] at hrb
    first | rw [← hg5] | (rw [show w9.heap.size = g5 from hg5.symm])
    have hsa := (H9.out.1.keep ub).pick 3 rfl rfl
    obtain ⟨D, hP, -, bk2⟩ := hsa.use
    have hP : OwnRow wa 2 (.slice au nu cu) (l.flatMap mcell) D := hP
    obtain ⟨m1, hm1, hsrc⟩ := hrb.src (P := Tryd.prog) (tx := 53) Tryd.underlying53 (by intro v hv; simp only [List.mem_cons, List.not_mem_nil, or_false] at hv; rcases hv with rfl | rfl <;> rfl)
    obtain rfl : m1 = 1 := by simp at hm1; omega
    have HBD2 := Lib.hid (show ∀ n', (l.flatMap mcell).length = n' * 2 → n' + 1 ≤ 140737488355328 ∧ (n' + 1) * i0.bytes ≤ 140737488355328 from fun n' hn' => by rw [mcell_len] at hn'; rw [hz2]; omega)
    have HBK := Lib.hid (show _ ∧ _ from ⟨bk2, ub⟩)
    clear hsa hwa hg5 bk2 hm1 ub hrb
    refine wpAnyM_one (fuel := 3) (i := 7) (by kernel_rfl) (by rfl) (fun K hK => ?_)    -- b:append
    refine wpList_app rfl _ _ 53 53 rfl 2 _ _ _ rfl hP _ i0 _ Tryd.underlying53 hi0 hz0 hz1 rfl _ _ _ rfl hsrc HBD2.out ?_
    intro a7 n7 c7 w10 D7 hown7 hu7
    have hs7 : Sep w0 w10 (ThRow 2 (.slice a7 n7 c7) (l.flatMap mcell ++ [Value.string sb, Value.int .i64 c]) :: ThCell x (.cells #[.string sb, .int .i64 c] 82 (0, 0)) :: X :: ThCell t (.cells #[.int .i64 n, .int .i64 ver, .slice au nu cu] 55 (0, 0)) :: R) rows :=
      HBK.out.1 w10 D7 (ThRow 2 (.slice a7 n7 c7) (l.flatMap mcell ++ [Value.string sb, Value.int .i64 c])) hu7 hown7
    have ht7 := hs7.pick 3 rfl rfl
    have hx7 := hs7.pick 1 rfl rfl
    have k7 : w10.cell? ⟨t, 2, none⟩ = some (.slice au nu cu) := cell_of ht7.blk 2 rfl
    have q07 : w10.cell? ⟨x, 0, none⟩ = some (.string sb) := cell_of hx7.blk 0 rfl
    have q17 : w10.cell? ⟨x, 1, none⟩ = some (.int .i64 c) := cell_of hx7.blk 1 rfl
    have y7 := frz_of ht7.blk 2
    have hfin : Sep w0 (w10.setCell ⟨t, 2, none⟩ (.slice a7 n7 c7)) (ThCell t (.cells #[.int .i64 n, .int .i64 ver, .slice a7 n7 c7] 55 (0, 0)) :: ThRow 2 (.slice a7 n7 c7) (l.flatMap mcell ++ [Value.string sb, Value.int .i64 c]) :: ThCell x (.cells #[.string sb, .int .i64 c] 82 (0, 0)) :: X :: R) rows := ht7.set 2 (.slice a7 n7 c7)
    have hsv : Value.string sb = sv sb.data.toList := by unfold sv; simp
    have hcl : (l ++ [(sb.data.toList, c)]).flatMap mcell = l.flatMap mcell ++ [Value.string sb, Value.int .i64 c] := by rw [hsv]; simp [mcell]
    have hend : RdF w0 (w10.setCell ⟨t, 2, none⟩ (.slice a7 n7 c7)) r db (rfTh t (.slice a7 n7 c7) ⟨n, ver, l ++ [(sb.data.toList, c)]⟩ ++ R) rows := by
      refine H9.out.2 _ _ rows (fun _ h => h) ?_
      have h1 := ((hfin.pick 2 rfl rfl).drop).pick 2 rfl rfl
      show Sep w0 _ (X :: ThCell t (.cells #[.int .i64 n, .int .i64 ver, .slice a7 n7 c7] 55 (0, 0)) :: ThRow 2 (.slice a7 n7 c7) ((l ++ [(sb.data.toList, c)]).flatMap mcell) :: R) rows
      rw [hcl]
      exact h1
    have HEND := Lib.hid (show _ ∧ _ from ⟨hend, HG3.out⟩)
    clear hs7 ht7 hx7 hfin hsv hcl hend hown7 hu7 hsrc hP k2 q0 q1 HBK HG3
    go_wp2_with fail
    refine hK _ _ ⟨k7, q07, q17⟩ ?_
    clear hK
    refine wpAnyM_of_any _ _ _ _ (by decide) ?_
    refine wpAny_list [8, 9, 10] (fuel := 0) (by kernel_rfl) ?_
    simp only [List.filterMap_cons, List.filterMap_nil, List.getElem?_toArray, List.getElem?_cons_succ, List.getElem?_cons_zero]
    go_wp2_with fail
    go_roundg (N - (nu + 1))
    case rel => exact ⟨nu + 1, l ++ [(sb.data.toList, c)], sb, db, .slice a7 n7 c7, by omega, rfl, by simp; omega, by go_num, rfl, HEND.out.1, HEND.out.2⟩
    case measure => omega
end
end Go.Proofs.YtfncdgnhiinmjaaDoor

/-
  Regions whose order is drawn: an operation whose guard says no.
-/
namespace Go.Av
section
variable {P : Program} {ops : Array Oper} {Q : Exit → Act → World → Prop} {md : Region.Mode} {S : World → Prop}
theorem wpAnyM_skip {N i : Nat} {o : Oper} {fuel : Nat} {listed : Array Bool} {a a' : Act} {w : World} (hr : Region.ready md ops listed = [i]) (ho : ops[i]? = some o) (hw : Region.wanted o (yielded ops a.tmps) = false) (ha : a' = a.put o.dst undef) (hS : S w)
    (h : wpAnyM P md ops Q S N fuel (listed.setIfInBounds i true) a' w) : wpAnyM P md ops Q S N (fuel + 1) listed a w := by
  refine wpAnyM_one hr ho (fun K hK => ?_)
  unfold wpList
  rw [if_neg (by rw [hw]; simp)]
  unfold wpList
  rw [← ha]
  exact hK _ _ hS h
end
end Go.Av

/-
  RouteReads: any bytes, and some table's with one changed, are a table, or none, as the document says.
-/
namespace Go.Proofs.YtfncdgnhiinmjaaDoor
open Go.RowKit Go.Av

theorem infoRow : (Tryd.prog.info? 47).map (fun i => (i.zero, i.size, i.bytes)) = some (some (.slice none 0 0), 1, 24) := by kernel_rfl
theorem idx0 (a b : Option Addr) (n c m d : Nat) (W : World) : (Instr.index 49 (.agg #[.slice a n c, .slice b m d]) (.int .i64 0)).run Tryd.prog W = .ok (.slice a n c) W := by
  obtain ⟨i0, hi0, hz0, hz1, hz2⟩ := info_parts infoRow
  simp [Instr.index, run_underlying Tryd.underlying49, asIntOf, sizeOf, typeInfo, hi0, hz1, part, go_sem]
theorem idx1 (a b : Option Addr) (n c m d : Nat) (W : World) : (Instr.index 49 (.agg #[.slice a n c, .slice b m d]) (.int .i64 1)).run Tryd.prog W = .ok (.slice b m d) W := by
  obtain ⟨i0, hi0, hz0, hz1, hz2⟩ := info_parts infoRow
  simp [Instr.index, run_underlying Tryd.underlying49, asIntOf, sizeOf, typeInfo, hi0, hz1, part, go_sem]
/-- What is read of the two tables and the bytes. -/
def ReadsF (t : Nat) (vr nr : Int) (v : Value) (b : Bs) (W : World) : Prop :=
  (convert 47 9 v).run Tryd.prog W = .ok (.string ⟨b.toArray⟩) W ∧ W.cell? ⟨t, 1, none⟩ = some (.int .i64 vr) ∧ W.cell? ⟨t, 0, none⟩ = some (.int .i64 nr)
theorem reads_facts {w0 W : World} {t : Nat} {T : RtS} {R : List Thing} {rows : List (Value × Bs)} {v : Value} {b : Bs} (h : Sep w0 W (ThRf t T :: R) rows) (hv : (v, b) ∈ rows) : ReadsF t T.ver T.n v b W := by
  obtain ⟨E, hE⟩ := h.get hv
  exact ⟨conv_str (P := Tryd.prog) (src := 47) (dst := 9) Tryd.underlying47 Tryd.underlying5 Tryd.underlying9 hE W (fun _ _ => rfl), rf_ver h, rf_shards h⟩



set_option maxRecDepth 100000 in
set_option maxHeartbeats 16000000 in
theorem routeReads_walk (n : Int) (a1 : Option Addr) (len1 cap1 : Nat) (l : List (ByteArray × Int)) (at_ by_ : Int) (a4 : Option Addr) (len4 cap4 : Nat) (z4 : List Int) (w : World) (hd : Door w) (h1 : IsMvs w a1 len1 cap1 l) (hby : (Lit.int .u8 by_).wf = true) (h4 : IsBytes w a4 len4 cap4 z4) :
    Calls Tryd.prog 6 #[.int .i64 n, .slice a1 len1 cap1, .int .i64 at_, .int .u8 by_, .slice a4 len4 cap4] w fun e w' => e = .returned (.bool true) ∧ Below w.heap.size w w' := by
  have hk2 : 0 ≤ by_ ∧ by_ < 256 := by
    simp only [Lit.wf, Bool.and_eq_true, decide_eq_true_eq] at hby
    have h1 : IntKind.u8.min = 0 := by decide
    have h2 : IntKind.u8.max = 255 := by decide
    rw [h1, h2] at hby
    omega
  obtain ⟨yn, rfl⟩ : ∃ yn : Nat, by_ = yn := ⟨by_.toNat, by omega⟩
  have hyn : yn < 256 := by omega
  obtain ⟨hla, hlca, hca, haa, hac, hax⟩ := h1
  subst hla
  unfold maxLen at hca
  obtain ⟨b, E4, hlb, hr4⟩ := h4.read
  have hcap4 : len4 ≤ cap4 ∧ cap4 ≤ maxLen := by
    obtain ⟨a, n, c, hv, -, hn, hc, -⟩ := hr4
    cases hv
    exact ⟨hn, hc⟩
  unfold maxLen at hcap4
  subst hlb
  have HAC := Lib.hid (show _ ∧ _ ∧ _ from ⟨haa, hac, hax⟩)
  have HB4 := Lib.hid (show ∃ E, ReadRow w 1 (.slice a4 b.length cap4) (b.map bv) E from ⟨E4, hr4⟩)
  have HD := Lib.hid hd
  clear haa hac hax hd h4 hr4 hby hk2
  by_cases hn1 : n < 1
  · skip
    go_enter Tryd.func6, Tryd.ntmps6
    go_wp2_with fail
    refine (awake16_any _ HD.out).mono ?_
    rintro e w1 ⟨rfl, hu1⟩
    go_wp2_with fail
    go_ret
    exact ⟨rfl, hu1.below⟩
  by_cases hn4 : 4 < n
  · skip
    go_enter Tryd.func6, Tryd.ntmps6
    go_wp2_with fail
    refine (awake16_any _ HD.out).mono ?_
    rintro e w1 ⟨rfl, hu1⟩
    go_wp2_with fail
    go_ret
    exact ⟨rfl, hu1.below⟩
  by_cases hl20 : 20 < l.length
  · skip
    go_enter Tryd.func6, Tryd.ntmps6
    go_wp2_with fail
    refine (awake16_any _ HD.out).mono ?_
    rintro e w1 ⟨rfl, hu1⟩
    go_wp2_with fail
    go_ret
    exact ⟨rfl, hu1.below⟩
  by_cases hb500 : 500 < b.length
  · skip
    go_enter Tryd.func6, Tryd.ntmps6
    go_wp2_with fail
    refine (awake16_any _ HD.out).mono ?_
    rintro e w1 ⟨rfl, hu1⟩
    go_wp2_with fail
    go_ret
    exact ⟨rfl, hu1.below⟩
  have HN := Lib.hid (show 1 ≤ n ∧ n ≤ 4 by omega)
  go_enter Tryd.func6, Tryd.ntmps6
  go_wp2_with fail
  refine (awake16_any _ HD.out).mono ?_
  rintro e w1 ⟨rfl, hu1⟩
  go_wp2_with fail
  have HBR := Lib.hid (show Sep w w1 [] [(.slice a4 b.length cap4, b)] from by
    obtain ⟨E, hE⟩ := HB4.out
    exact ((Sep.start w).old hE).keep hu1)
  refine (rt_new HBR.out n HN.out.1 HN.out.2).mono ?_
  rintro e w2 ⟨t, rfl, H⟩
  have HT := Lib.hid (tb_iff.2 H)
  have HI0 := Lib.hid (inv_new (n := n) HN.out.1 HN.out.2)
  clear H hu1
  go_wp2_with fail
  go_loopg [13] l.length (fun k v wr => ∃ (p : Nat) (S : RtS), p ≤ l.length ∧ k = l.length - p ∧ v = .int .i64 (p : Int) ∧ Sep w wr [ThTb t S] [(.slice a4 b.length cap4, b)] ∧ RtInv S ∧ S.ver ≤ 1 + p)
  case atStart => exact ⟨0, _, Nat.zero_le _, rfl, rfl, HT.out, HI0.out, by simp⟩
  case round =>
    clear HT HI0
    obtain ⟨p, S, hpl, hk, hv3, H, hinv, hv2⟩ := hrel
    subst hv3
    have HI := Lib.hid hinv
    have hv1 := hinv.ver
    clear hinv
    by_cases hlt : p < l.length
    case pos =>
      obtain ⟨x, hxa⟩ : ∃ x, a1 = some x := by
        cases a1 with
        | none => exact absurd (HAC.out.1 rfl) (by omega)
        | some x => exact ⟨x, rfl⟩
      subst hxa
      obtain ⟨g0, g1⟩ := HAC.out.2.1 x rfl p hlt
      have hsz := HAC.out.2.2 _ (List.getElem_mem hlt)
      obtain ⟨q0, hq0⟩ : ∃ q, l[p] = q := ⟨_, rfl⟩
      rw [hq0] at g0 g1 hsz
      obtain ⟨ts, sh⟩ := q0
      dsimp only at g0 g1 hsz
      have UP := Lib.hid (show ∀ W, Below w.heap.size w W → W.cell? (x.add (p * 2)) = some (.string ts) ∧ W.cell? ⟨(x.add (p * 2)).block, (x.add (p * 2)).off + 1, none⟩ = some (.int .i64 sh) from fun W hbl => by
        have k0 : W.cell? (x.add (p * 2)) = some (.string ts) := (hbl.cell (World.block_lt_of_cell? w _ g0)).trans g0
        have k1 := (hbl.cell (World.block_lt_of_cell? w _ g1)).trans g1
        rw [add_field k0 1] at k1
        exact ⟨k0, k1⟩)
      clear g0 g1
      obtain ⟨g0, g1⟩ := UP.out wr H.below
      unfold maxLen at hsz
      clear hq0
      by_cases hs100 : 100 < ts.size
      · have HBB := Lib.hid H.below
        clear H
        go_wp2_with fail
        go_ret
        exact ⟨rfl, HBB.out⟩
      obtain ⟨m1, m2, m3⟩ := move_n S ts.data.toList sh
      have HM := Lib.hid (move_any (tb_iff.1 H.drew) HD.out ts sh (by omega) (by omega) (by omega))
      clear H m1
      go_wp2_with fail
      refine wp_region_M (fun W => W.cell? (x.add (p * 2)) = some (.string ts) ∧ W.cell? ⟨(x.add (p * 2)).block, (x.add (p * 2)).off + 1, none⟩ = some (.int .i64 sh)) 12 (by kernel_rfl) ?_
      refine wpAnyM_take (by kernel_rfl) (by intro c a d v w h; cases d <;> exact h) [(0, false), (1, false), (2, false), (3, false), (4, false), (5, true), (6, false), (7, false), (8, false), (9, false), (10, true)] (fuel := 1) (by kernel_rfl) ?_
      apply Exists.intro; refine ⟨?_, ⟨g0, g1⟩, ?_⟩
      · iterate 11 ((first | (apply yieldN; (· (simp only [List.getElem?_toArray, List.getElem?_cons_succ, List.getElem?_cons_zero]; try rfl)); (· rfl)) | ((first | apply yieldP | apply yieldL); (· (simp only [List.getElem?_toArray, List.getElem?_cons_succ, List.getElem?_cons_zero]; try rfl)); (· rfl); (· (intros; go_simp; try with_reducible rfl)))); (· (simp only [Act.put, List.setIfInBounds_toArray, List.set_cons_zero, List.set_cons_succ]; try rfl)))
        exact rfl
      clear g0 g1
      refine wpAnyM_one (fuel := 0) (i := 11) (by kernel_rfl) (by rfl) (fun K hK => ?_)    -- CALL
      go_wp2_with fail
      refine HM.out.mono ?_
      rintro e w5 ⟨rfl, h⟩
      have HX := Lib.hid (tb_iff.2 h)
      have HS := Lib.hid (UP.out w5 h.below)
      clear h HM
      go_wp2_with fail
      refine hK _ _ HS.out ?_
      clear hK
      refine wpAnyM_done (by kernel_rfl) ?_ _
      go_wp2_with fail
      go_roundg (l.length - (p + 1))
      case rel => exact ⟨p + 1, _, by omega, rfl, by go_num, HX.out, inv_move HI.out _ _, by omega⟩
      case measure => omega
    have HP := Lib.hid (put_table (tb_iff.1 H) (inv_short HI.out))
    have HBL := Lib.hid (show (bytesT S).length ≤ 1000000 by
      have h1 := entM_len (inv_short HI.out) (ks := keysM S) (fun _ h => h)
      have h2 := HI.out.most
      rw [keysM_len] at h1
      unfold bytesT
      rw [List.length_append, flat_len]
      simp only [List.length_cons, List.length_nil]
      omega)
    clear H hv1 hv2
    go_wp2_with fail
    refine HP.out.mono ?_
    rintro e w3 ⟨v, rfl, h⟩
    have h3 : Sep w w3 [ThRow 1 v ((bytesT S).map bv), ThTb t S] [(.slice a4 b.length cap4, b)] := by
      obtain ⟨m, h⟩ := h
      exact (tb_iff.2 ⟨m, (h.perm (List.perm_middle (l₁ := rtTh t m S))).perm (List.perm_middle (l₁ := rtTh t m S)).symm⟩).swap
    obtain ⟨bs, hbs⟩ : ∃ bs, bytesT S = bs := ⟨_, rfl⟩
    rw [hbs] at h3 HBL
    obtain ⟨av, nv, cv, rfl, hlv, hnv, hcv⟩ := h3.rowLen
    rw [List.length_map, Nat.mul_one] at hlv
    subst hlv
    unfold maxLen at hcv
    have hbl := HBL.out
    have H3 := Lib.hid h3
    clear h h3 hbs HP
    by_cases hat : 0 ≤ at_ ∧ at_ < bs.length
    case neg =>
      have HRW := Lib.hid (show Sep w w3 [] [(.slice av bs.length cv, bs), (.slice a4 b.length cap4, b)] from (H3.out.toRow).drop)
      by_cases hat0 : 0 ≤ at_
      case' pos => have hat1 : ¬ at_ < bs.length := fun h => hat ⟨hat0, h⟩
      all_goals
        clear hat H3
        go_wp2_with fail
        go_loopg [91] 2 (fun k vi wr => ∃ p : Nat, p ≤ 2 ∧ k = 2 - p ∧ vi = .int .i64 (p : Int) ∧ Sep w wr [] [(.slice av bs.length cv, bs), (.slice a4 b.length cap4, b)])
        case atStart => exact ⟨0, by omega, rfl, rfl, HRW.out⟩
        case round =>
          obtain ⟨p, hp2, hk, hvi, H⟩ := hrel
          clear HRW
          have H := Lib.hid H
          subst hvi
          by_cases hpe : p = 2
          · subst hpe
            have hvi : Value.int .i64 ((2 : Nat) : Int) = .int .i64 2 := rfl
            rw [hvi]
            go_wp2_with fail
            go_ret
            exact ⟨rfl, H.out.below⟩
          have hp1 : p < 2 := by omega
          have hix : ∃ yv yb, (∀ W, (Instr.index 49 (.agg #[.slice av bs.length cv, .slice a4 b.length cap4]) (.int .i64 (p : Int))).run Tryd.prog W = .ok yv W) ∧ (yv, yb) ∈ [(Value.slice av bs.length cv, bs), (.slice a4 b.length cap4, b)] ∧ yb.length ≤ 1073741824 := by
            rcases (show p = 0 ∨ p = 1 by omega) with rfl | rfl
            · exact ⟨_, bs, idx0 av a4 bs.length cv b.length cap4, by simp, by omega⟩
            · exact ⟨_, b, idx1 av a4 bs.length cv b.length cap4, by simp, by omega⟩
          obtain ⟨yv, yb, hix, hym, hyl⟩ := hix
          have HYM := Lib.hid hym
          clear hym
          have hgt := get_table H.out HD.out yv yb HYM.out hyl
          have hsame := get_same yb
          obtain ⟨o1, ho1⟩ : ∃ o, getT yb = o := ⟨_, rfl⟩
          obtain ⟨o2, ho2⟩ : ∃ o, getR yb = o := ⟨_, rfl⟩
          rw [ho1, ho2] at hsame
          rw [ho1] at hgt
          have HGT := Lib.hid hgt
          have HO2 := Lib.hid ho2
          clear hgt ho1 ho2
          cases o1 with
          | none =>
            cases o2 with
            | some _ => exact absurd hsame id
            | none =>
            clear hsame
            go_wp2_with fail
            refine HGT.out.mono ?_
            rintro e w5 ⟨rfl, h5⟩
            have hgr := get_ref h5 yv yb HYM.out
            rw [HO2.out] at hgr
            have HGR := Lib.hid hgr
            clear h5 hgr HGT
            go_wp2_with fail
            refine HGR.out.mono ?_
            rintro e w6 ⟨rfl, h6⟩
            have HX := Lib.hid h6
            clear h6 HGR H
            go_wp2_with fail
            refine wp_region_M (fun W => True) 27 (by kernel_rfl) ?_
            refine wpAnyM_take (by kernel_rfl) (by intro c a d v w h; cases d <;> exact h) [(0, false), (1, false), (2, false), (5, false), (6, true)] (fuel := 22) (by kernel_rfl) ?_
            apply Exists.intro; refine ⟨?_, trivial, ?_⟩
            · iterate 5 ((first | (apply yieldN; (· (simp only [List.getElem?_toArray, List.getElem?_cons_succ, List.getElem?_cons_zero]; try rfl)); (· rfl)) | ((first | apply yieldP | apply yieldL); (· (simp only [List.getElem?_toArray, List.getElem?_cons_succ, List.getElem?_cons_zero]; try rfl)); (· rfl); (· (intros; go_simp; try with_reducible rfl)))); (· (simp only [Act.put, List.setIfInBounds_toArray, List.set_cons_zero, List.set_cons_succ]; try rfl)))
              exact rfl
            apply wpAnyM_skip (fuel := 21) (i := 3)
            · kernel_rfl
            · simp only [List.getElem?_toArray, List.getElem?_cons_succ, List.getElem?_cons_zero]; try rfl
            · rfl
            · simp only [Act.put, List.setIfInBounds_toArray, List.set_cons_zero, List.set_cons_succ]; try rfl
            · exact trivial
            refine wpAnyM_take (by kernel_rfl) (by intro c a d v w h; cases d <;> exact h) [(4, true), (7, false), (8, false), (9, false), (11, false), (12, false), (13, false), (14, true)] (fuel := 13) (by kernel_rfl) ?_
            apply Exists.intro; refine ⟨?_, trivial, ?_⟩
            · iterate 8 ((first | (apply yieldN; (· (simp only [List.getElem?_toArray, List.getElem?_cons_succ, List.getElem?_cons_zero]; try rfl)); (· rfl)) | ((first | apply yieldP | apply yieldL); (· (simp only [List.getElem?_toArray, List.getElem?_cons_succ, List.getElem?_cons_zero]; try rfl)); (· rfl); (· (intros; go_simp; try with_reducible rfl)))); (· (simp only [Act.put, List.setIfInBounds_toArray, List.set_cons_zero, List.set_cons_succ]; try rfl)))
              exact rfl
            apply wpAnyM_skip (fuel := 12) (i := 10)
            · kernel_rfl
            · simp only [List.getElem?_toArray, List.getElem?_cons_succ, List.getElem?_cons_zero]; try rfl
            · rfl
            · simp only [Act.put, List.setIfInBounds_toArray, List.set_cons_zero, List.set_cons_succ]; try rfl
            · exact trivial
            refine wpAnyM_take (by kernel_rfl) (by intro c a d v w h; cases d <;> exact h) [(15, false), (16, false), (17, false), (18, false), (20, false), (21, false), (22, false), (23, true)] (fuel := 4) (by kernel_rfl) ?_
            apply Exists.intro; refine ⟨?_, trivial, ?_⟩
            · iterate 8 ((first | (apply yieldN; (· (simp only [List.getElem?_toArray, List.getElem?_cons_succ, List.getElem?_cons_zero]; try rfl)); (· rfl)) | ((first | apply yieldP | apply yieldL); (· (simp only [List.getElem?_toArray, List.getElem?_cons_succ, List.getElem?_cons_zero]; try rfl)); (· rfl); (· (intros; go_simp; try with_reducible rfl)))); (· (simp only [Act.put, List.setIfInBounds_toArray, List.set_cons_zero, List.set_cons_succ]; try rfl)))
              exact rfl
            apply wpAnyM_skip (fuel := 3) (i := 19)
            · kernel_rfl
            · simp only [List.getElem?_toArray, List.getElem?_cons_succ, List.getElem?_cons_zero]; try rfl
            · rfl
            · simp only [Act.put, List.setIfInBounds_toArray, List.set_cons_zero, List.set_cons_succ]; try rfl
            · exact trivial
            refine wpAnyM_take (by kernel_rfl) (by intro c a d v w h; cases d <;> exact h) [(24, false), (25, false), (26, false)] (fuel := 0) (by kernel_rfl) ?_
            apply Exists.intro; refine ⟨?_, trivial, ?_⟩
            · iterate 3 ((first | (apply yieldN; (· (simp only [List.getElem?_toArray, List.getElem?_cons_succ, List.getElem?_cons_zero]; try rfl)); (· rfl)) | ((first | apply yieldP | apply yieldL); (· (simp only [List.getElem?_toArray, List.getElem?_cons_succ, List.getElem?_cons_zero]; try rfl)); (· rfl); (· (intros; go_simp; try with_reducible rfl)))); (· (simp only [Act.put, List.setIfInBounds_toArray, List.set_cons_zero, List.set_cons_succ]; try rfl)))
              exact rfl
            refine wpAnyM_done (by kernel_rfl) ?_ _
            go_wp2_with fail
            go_roundg (2 - (p+1))
            case rel => exact ⟨(p+1), by omega, rfl, by go_num, HX.out.drew⟩
            case measure => omega
          | some S =>
            cases o2 with
            | none => exact absurd hsame id
            | some T =>
            obtain ⟨hs1, hs2, hs3, hs4, hs5⟩ := hsame
            have HS := Lib.hid (show _ ∧ _ ∧ _ ∧ _ from ⟨hs1, hs2, inv_short hs3, hs5⟩)
            clear hs1 hs2 hs3 hs4 hs5
            go_wp2_with fail
            refine HGT.out.mono ?_
            rintro e w5 ⟨t5, rfl, h5⟩
            have hgr := get_ref (tb_iff.2 h5) yv yb HYM.out
            rw [HO2.out] at hgr
            have HGR := Lib.hid hgr
            clear h5 hgr HGT
            go_wp2_with fail
            refine HGR.out.mono ?_
            rintro e w6 ⟨t6, rfl, h6⟩
            have HX := Lib.hid (show Sep w w6.drew [ThRf t6 T, ThTb t5 S] [(.slice av bs.length cv, bs), (.slice a4 b.length cap4, b)] from h6.drew)
            have HF := Lib.hid (reads_facts (v := yv) (b := yb) HX.out HYM.out)
            have HP := Lib.hid (tb_put (HX.out.pick 1 rfl rfl) HS.out.2.2.1)
            clear h6 HGR H
            obtain ⟨vr, hvr⟩ : ∃ vr, S.ver = vr := ⟨_, rfl⟩
            obtain ⟨nr, hnr⟩ : ∃ nr, S.n = nr := ⟨_, rfl⟩
            have HSV := Lib.hid (show S.ver = vr ∧ S.n = nr ∧ T.ver = vr ∧ T.n = nr from ⟨hvr, hnr, by rw [← hvr]; exact HS.out.1.symm, by rw [← hnr]; exact HS.out.2.1.symm⟩)
            clear hvr hnr
            have hvv : (vr != vr) = false := by simp
            have hnn : (nr != nr) = false := by simp
            have HF := Lib.hid (show ReadsF t6 vr nr yv yb w6.drew from by rw [← HSV.out.2.2.1, ← HSV.out.2.2.2]; exact HF.out)
            go_wp2_with fail
            refine wp_region_M (fun W => (convert 47 9 yv).run Tryd.prog W = .ok (.string ⟨yb.toArray⟩) W ∧ W.cell? ⟨t6, 1, none⟩ = some (.int .i64 vr) ∧ W.cell? ⟨t6, 0, none⟩ = some (.int .i64 nr)) 27 (by kernel_rfl) ?_
            refine wpAnyM_take (by kernel_rfl) (by intro c a d v w h; cases d <;> exact h) [(0, false), (1, false), (2, false), (5, false), (6, true)] (fuel := 22) (by kernel_rfl) ?_
            apply Exists.intro; refine ⟨?_, HF.out, ?_⟩
            · iterate 5 ((first | (apply yieldN; (· (simp only [List.getElem?_toArray, List.getElem?_cons_succ, List.getElem?_cons_zero]; try rfl)); (· rfl)) | ((first | apply yieldP | apply yieldL); (· (simp only [List.getElem?_toArray, List.getElem?_cons_succ, List.getElem?_cons_zero]; try rfl)); (· rfl); (· (intros; go_simp; try with_reducible rfl)))); (· (simp only [Act.put, List.setIfInBounds_toArray, List.set_cons_zero, List.set_cons_succ]; try rfl)))
              exact rfl
            refine wpAnyM_one (fuel := 21) (i := 3) (by kernel_rfl) (by rfl) (fun K hK => ?_)    -- CALL
            go_wp2_with fail
            refine HP.out.mono ?_
            rintro e w7 ⟨v7, rfl, h⟩
            have h7 : Sep w w7 [ThTb t5 S, ThRf t6 T] [(v7, yb), (.slice av bs.length cv, bs), (.slice a4 b.length cap4, b)] := by
              have h := h
              rw [HS.out.2.2.2] at h
              exact h
            obtain ⟨E7, hr7⟩ := h7.get (v := v7) (b := yb) (by simp)
            have hcv := conv_str (P := Tryd.prog) (src := 47) (dst := 9) Tryd.underlying47 Tryd.underlying5 Tryd.underlying9 hr7 w7 (fun _ _ => rfl)
            have HF7 := Lib.hid (show ReadsF t6 vr nr yv yb w7 from by rw [← HSV.out.2.2.1, ← HSV.out.2.2.2]; exact reads_facts (v := yv) (b := yb) (h7.pick 1 rfl rfl) (List.mem_cons_of_mem _ HYM.out))
            have H7 := Lib.hid h7
            clear h h7 hr7 HP HX HF
            go_wp2_with fail
            refine hK _ _ HF7.out ?_
            clear hK
            refine wpAnyM_one (fuel := 20) (i := 4) (by kernel_rfl) (by rfl) (fun K hK => ?_)
            go_wp2_with fail
            refine hK _ _ HF7.out ?_
            clear hK hcv
            refine wpAnyM_take (by kernel_rfl) (by intro c a d v w h; cases d <;> exact h) [(7, false), (8, false), (9, false), (11, false), (12, false), (13, false), (14, true)] (fuel := 13) (by kernel_rfl) ?_
            apply Exists.intro; refine ⟨?_, HF7.out, ?_⟩
            · iterate 7 ((first | (apply yieldN; (· (simp only [List.getElem?_toArray, List.getElem?_cons_succ, List.getElem?_cons_zero]; try rfl)); (· rfl)) | ((first | apply yieldP | apply yieldL); (· (simp only [List.getElem?_toArray, List.getElem?_cons_succ, List.getElem?_cons_zero]; try rfl)); (· rfl); (· (intros; go_simp; try with_reducible rfl)))); (· (simp only [Act.put, List.setIfInBounds_toArray, List.set_cons_zero, List.set_cons_succ]; try rfl)))
              exact rfl
            refine wpAnyM_one (fuel := 12) (i := 10) (by kernel_rfl) (by rfl) (fun K hK => ?_)    -- CALL
            have hver := rt_version (tb_iff.1 H7.out)
            rw [HSV.out.1] at hver
            have HVC := Lib.hid hver
            have hshr := rt_shards (tb_iff.1 H7.out)
            rw [HSV.out.2.1] at hshr
            have HVS := Lib.hid hshr
            clear hver hshr
            go_wp2_with fail
            refine HVC.out.mono ?_
            rintro e w8 ⟨rfl, hW⟩
            subst w8
            go_wp2_with fail
            refine hK _ _ HF7.out ?_
            clear hK HVC
            refine wpAnyM_take (by kernel_rfl) (by intro c a d v w h; cases d <;> exact h) [(15, false), (16, false), (17, false), (18, false), (20, false), (21, false), (22, false), (23, true)] (fuel := 4) (by kernel_rfl) ?_
            apply Exists.intro; refine ⟨?_, HF7.out, ?_⟩
            · iterate 8 ((first | (apply yieldN; (· (simp only [List.getElem?_toArray, List.getElem?_cons_succ, List.getElem?_cons_zero]; try rfl)); (· rfl)) | ((first | apply yieldP | apply yieldL); (· (simp only [List.getElem?_toArray, List.getElem?_cons_succ, List.getElem?_cons_zero]; try rfl)); (· rfl); (· (intros; go_simp; try with_reducible rfl)))); (· (simp only [Act.put, List.setIfInBounds_toArray, List.set_cons_zero, List.set_cons_succ]; try rfl)))
              exact rfl
            refine wpAnyM_one (fuel := 3) (i := 19) (by kernel_rfl) (by rfl) (fun K hK => ?_)    -- CALL
            go_wp2_with fail
            refine HVS.out.mono ?_
            rintro e w8 ⟨rfl, hW⟩
            subst w8
            go_wp2_with fail
            refine hK _ _ HF7.out ?_
            clear hK HVS
            refine wpAnyM_take (by kernel_rfl) (by intro c a d v w h; cases d <;> exact h) [(24, false), (25, false), (26, false)] (fuel := 0) (by kernel_rfl) ?_
            apply Exists.intro; refine ⟨?_, HF7.out, ?_⟩
            · iterate 3 ((first | (apply yieldN; (· (simp only [List.getElem?_toArray, List.getElem?_cons_succ, List.getElem?_cons_zero]; try rfl)); (· rfl)) | ((first | apply yieldP | apply yieldL); (· (simp only [List.getElem?_toArray, List.getElem?_cons_succ, List.getElem?_cons_zero]; try rfl)); (· rfl); (· (intros; go_simp; try with_reducible rfl)))); (· (simp only [Act.put, List.setIfInBounds_toArray, List.set_cons_zero, List.set_cons_succ]; try rfl)))
              exact rfl
            refine wpAnyM_done (by kernel_rfl) ?_ _
            go_wp2_with fail
            go_roundg (2 - (p+1))
            case rel => exact ⟨(p+1), by omega, rfl, by go_num, (H7.out.drop.drop).drop_row⟩
            case measure => omega
    obtain ⟨i, rfl⟩ : ∃ i : Nat, at_ = i := ⟨at_.toNat, by omega⟩
    have hil : i < bs.length := by omega
    obtain ⟨y, rfl, hys, hcy⟩ := H3.out.rowCell (i := i) (x := bv bs[i]) (by rw [List.getElem?_map, List.getElem?_eq_getElem hil]; rfl)
    obtain ⟨xn, hxn⟩ : ∃ xn, bs[i].toNat = xn := ⟨_, rfl⟩
    have hxl : xn < 256 := by rw [← hxn]; exact UInt8.toNat_lt _
    unfold bv at hcy
    rw [hxn] at hcy
    have hxor := u8_xor_nat xn yn hxl hyn
    obtain ⟨zn, hzn⟩ : ∃ zn, xn ^^^ yn = zn := ⟨_, rfl⟩
    rw [hzn] at hxor
    have hzl : zn < 256 := by rw [← hzn]; exact Nat.xor_lt_two_pow (n := 8) hxl hyn
    obtain ⟨f1, -, -, f4⟩ := H3.out.rowSet (i := i) hil (.int .u8 (zn : Int))
    obtain ⟨bs2, hbs2⟩ : ∃ z, z = bs.set i (UInt8.ofNat zn) := ⟨_, rfl⟩
    have hbm : (bs.map bv).set i (.int .u8 (zn : Int)) = bs2.map bv := by
      rw [hbs2, List.map_set]
      congr 1
      unfold bv
      rw [UInt8.toNat_ofNat', Nat.mod_eq_of_lt hzl]
    have hl2 : bs2.length = bs.length := by rw [hbs2, List.length_set]
    rw [hbm] at f4
    have HRW := Lib.hid (show Sep w _ [] [(.slice (some y) bs.length cv, bs2), (.slice a4 b.length cap4, b)] from (f4.toRow).drop)
    have hbl2 : bs2.length ≤ 1000000 := by omega
    clear hbm hbs2 hzn hxn f4 H3
    go_wp2_with fail
    go_loopg [91] 2 (fun k vi wr => ∃ p : Nat, p ≤ 2 ∧ k = 2 - p ∧ vi = .int .i64 (p : Int) ∧ Sep w wr [] [(.slice (some y) bs.length cv, bs2), (.slice a4 b.length cap4, b)])
    case atStart => exact ⟨0, by omega, rfl, rfl, HRW.out⟩
    case round =>
      obtain ⟨p, hp2, hk, hvi, H⟩ := hrel
      clear HRW
      have H := Lib.hid H
      subst hvi
      by_cases hpe : p = 2
      · subst hpe
        have hvi : Value.int .i64 ((2 : Nat) : Int) = .int .i64 2 := rfl
        rw [hvi]
        go_wp2_with fail
        go_ret
        exact ⟨rfl, H.out.below⟩
      have hp1 : p < 2 := by omega
      have hix : ∃ yv yb, (∀ W, (Instr.index 49 (.agg #[.slice (some y) bs.length cv, .slice a4 b.length cap4]) (.int .i64 (p : Int))).run Tryd.prog W = .ok yv W) ∧ (yv, yb) ∈ [(Value.slice (some y) bs.length cv, bs2), (.slice a4 b.length cap4, b)] ∧ yb.length ≤ 1073741824 := by
        rcases (show p = 0 ∨ p = 1 by omega) with rfl | rfl
        · exact ⟨_, bs2, idx0 (some y) a4 bs.length cv b.length cap4, by simp, by omega⟩
        · exact ⟨_, b, idx1 (some y) a4 bs.length cv b.length cap4, by simp, by omega⟩
      obtain ⟨yv, yb, hix, hym, hyl⟩ := hix
      have HYM := Lib.hid hym
      clear hym
      have hgt := get_table H.out HD.out yv yb HYM.out hyl
      have hsame := get_same yb
      obtain ⟨o1, ho1⟩ : ∃ o, getT yb = o := ⟨_, rfl⟩
      obtain ⟨o2, ho2⟩ : ∃ o, getR yb = o := ⟨_, rfl⟩
      rw [ho1, ho2] at hsame
      rw [ho1] at hgt
      have HGT := Lib.hid hgt
      have HO2 := Lib.hid ho2
      clear hgt ho1 ho2
      cases o1 with
      | none =>
        cases o2 with
        | some _ => exact absurd hsame id
        | none =>
        clear hsame
        go_wp2_with fail
        refine HGT.out.mono ?_
        rintro e w5 ⟨rfl, h5⟩
        have hgr := get_ref h5 yv yb HYM.out
        rw [HO2.out] at hgr
        have HGR := Lib.hid hgr
        clear h5 hgr HGT
        go_wp2_with fail
        refine HGR.out.mono ?_
        rintro e w6 ⟨rfl, h6⟩
        have HX := Lib.hid h6
        clear h6 HGR H
        go_wp2_with fail
        refine wp_region_M (fun W => True) 27 (by kernel_rfl) ?_
        refine wpAnyM_take (by kernel_rfl) (by intro c a d v w h; cases d <;> exact h) [(0, false), (1, false), (2, false), (5, false), (6, true)] (fuel := 22) (by kernel_rfl) ?_
        apply Exists.intro; refine ⟨?_, trivial, ?_⟩
        · iterate 5 ((first | (apply yieldN; (· (simp only [List.getElem?_toArray, List.getElem?_cons_succ, List.getElem?_cons_zero]; try rfl)); (· rfl)) | ((first | apply yieldP | apply yieldL); (· (simp only [List.getElem?_toArray, List.getElem?_cons_succ, List.getElem?_cons_zero]; try rfl)); (· rfl); (· (intros; go_simp; try with_reducible rfl)))); (· (simp only [Act.put, List.setIfInBounds_toArray, List.set_cons_zero, List.set_cons_succ]; try rfl)))
          exact rfl
        apply wpAnyM_skip (fuel := 21) (i := 3)
        · kernel_rfl
        · simp only [List.getElem?_toArray, List.getElem?_cons_succ, List.getElem?_cons_zero]; try rfl
        · rfl
        · simp only [Act.put, List.setIfInBounds_toArray, List.set_cons_zero, List.set_cons_succ]; try rfl
        · exact trivial
        refine wpAnyM_take (by kernel_rfl) (by intro c a d v w h; cases d <;> exact h) [(4, true), (7, false), (8, false), (9, false), (11, false), (12, false), (13, false), (14, true)] (fuel := 13) (by kernel_rfl) ?_
        apply Exists.intro; refine ⟨?_, trivial, ?_⟩
        · iterate 8 ((first | (apply yieldN; (· (simp only [List.getElem?_toArray, List.getElem?_cons_succ, List.getElem?_cons_zero]; try rfl)); (· rfl)) | ((first | apply yieldP | apply yieldL); (· (simp only [List.getElem?_toArray, List.getElem?_cons_succ, List.getElem?_cons_zero]; try rfl)); (· rfl); (· (intros; go_simp; try with_reducible rfl)))); (· (simp only [Act.put, List.setIfInBounds_toArray, List.set_cons_zero, List.set_cons_succ]; try rfl)))
          exact rfl
        apply wpAnyM_skip (fuel := 12) (i := 10)
        · kernel_rfl
        · simp only [List.getElem?_toArray, List.getElem?_cons_succ, List.getElem?_cons_zero]; try rfl
        · rfl
        · simp only [Act.put, List.setIfInBounds_toArray, List.set_cons_zero, List.set_cons_succ]; try rfl
        · exact trivial
        refine wpAnyM_take (by kernel_rfl) (by intro c a d v w h; cases d <;> exact h) [(15, false), (16, false), (17, false), (18, false), (20, false), (21, false), (22, false), (23, true)] (fuel := 4) (by kernel_rfl) ?_
        apply Exists.intro; refine ⟨?_, trivial, ?_⟩
        · iterate 8 ((first | (apply yieldN; (· (simp only [List.getElem?_toArray, List.getElem?_cons_succ, List.getElem?_cons_zero]; try rfl)); (· rfl)) | ((first | apply yieldP | apply yieldL); (· (simp only [List.getElem?_toArray, List.getElem?_cons_succ, List.getElem?_cons_zero]; try rfl)); (· rfl); (· (intros; go_simp; try with_reducible rfl)))); (· (simp only [Act.put, List.setIfInBounds_toArray, List.set_cons_zero, List.set_cons_succ]; try rfl)))
          exact rfl
        apply wpAnyM_skip (fuel := 3) (i := 19)
        · kernel_rfl
        · simp only [List.getElem?_toArray, List.getElem?_cons_succ, List.getElem?_cons_zero]; try rfl
        · rfl
        · simp only [Act.put, List.setIfInBounds_toArray, List.set_cons_zero, List.set_cons_succ]; try rfl
        · exact trivial
        refine wpAnyM_take (by kernel_rfl) (by intro c a d v w h; cases d <;> exact h) [(24, false), (25, false), (26, false)] (fuel := 0) (by kernel_rfl) ?_
        apply Exists.intro; refine ⟨?_, trivial, ?_⟩
        · iterate 3 ((first | (apply yieldN; (· (simp only [List.getElem?_toArray, List.getElem?_cons_succ, List.getElem?_cons_zero]; try rfl)); (· rfl)) | ((first | apply yieldP | apply yieldL); (· (simp only [List.getElem?_toArray, List.getElem?_cons_succ, List.getElem?_cons_zero]; try rfl)); (· rfl); (· (intros; go_simp; try with_reducible rfl)))); (· (simp only [Act.put, List.setIfInBounds_toArray, List.set_cons_zero, List.set_cons_succ]; try rfl)))
          exact rfl
        refine wpAnyM_done (by kernel_rfl) ?_ _
        go_wp2_with fail
        go_roundg (2 - (p+1))
        case rel => exact ⟨(p+1), by omega, rfl, by go_num, HX.out.drew⟩
        case measure => omega
      | some S =>
        cases o2 with
        | none => exact absurd hsame id
        | some T =>
        obtain ⟨hs1, hs2, hs3, hs4, hs5⟩ := hsame
        have HS := Lib.hid (show _ ∧ _ ∧ _ ∧ _ from ⟨hs1, hs2, inv_short hs3, hs5⟩)
        clear hs1 hs2 hs3 hs4 hs5
        go_wp2_with fail
        refine HGT.out.mono ?_
        rintro e w5 ⟨t5, rfl, h5⟩
        have hgr := get_ref (tb_iff.2 h5) yv yb HYM.out
        rw [HO2.out] at hgr
        have HGR := Lib.hid hgr
        clear h5 hgr HGT
        go_wp2_with fail
        refine HGR.out.mono ?_
        rintro e w6 ⟨t6, rfl, h6⟩
        have HX := Lib.hid (show Sep w w6.drew [ThRf t6 T, ThTb t5 S] [(.slice (some y) bs.length cv, bs2), (.slice a4 b.length cap4, b)] from h6.drew)
        have HF := Lib.hid (reads_facts (v := yv) (b := yb) HX.out HYM.out)
        have HP := Lib.hid (tb_put (HX.out.pick 1 rfl rfl) HS.out.2.2.1)
        clear h6 HGR H
        obtain ⟨vr, hvr⟩ : ∃ vr, S.ver = vr := ⟨_, rfl⟩
        obtain ⟨nr, hnr⟩ : ∃ nr, S.n = nr := ⟨_, rfl⟩
        have HSV := Lib.hid (show S.ver = vr ∧ S.n = nr ∧ T.ver = vr ∧ T.n = nr from ⟨hvr, hnr, by rw [← hvr]; exact HS.out.1.symm, by rw [← hnr]; exact HS.out.2.1.symm⟩)
        clear hvr hnr
        have hvv : (vr != vr) = false := by simp
        have hnn : (nr != nr) = false := by simp
        have HF := Lib.hid (show ReadsF t6 vr nr yv yb w6.drew from by rw [← HSV.out.2.2.1, ← HSV.out.2.2.2]; exact HF.out)
        go_wp2_with fail
        refine wp_region_M (fun W => (convert 47 9 yv).run Tryd.prog W = .ok (.string ⟨yb.toArray⟩) W ∧ W.cell? ⟨t6, 1, none⟩ = some (.int .i64 vr) ∧ W.cell? ⟨t6, 0, none⟩ = some (.int .i64 nr)) 27 (by kernel_rfl) ?_
        refine wpAnyM_take (by kernel_rfl) (by intro c a d v w h; cases d <;> exact h) [(0, false), (1, false), (2, false), (5, false), (6, true)] (fuel := 22) (by kernel_rfl) ?_
        apply Exists.intro; refine ⟨?_, HF.out, ?_⟩
        · iterate 5 ((first | (apply yieldN; (· (simp only [List.getElem?_toArray, List.getElem?_cons_succ, List.getElem?_cons_zero]; try rfl)); (· rfl)) | ((first | apply yieldP | apply yieldL); (· (simp only [List.getElem?_toArray, List.getElem?_cons_succ, List.getElem?_cons_zero]; try rfl)); (· rfl); (· (intros; go_simp; try with_reducible rfl)))); (· (simp only [Act.put, List.setIfInBounds_toArray, List.set_cons_zero, List.set_cons_succ]; try rfl)))
          exact rfl
        refine wpAnyM_one (fuel := 21) (i := 3) (by kernel_rfl) (by rfl) (fun K hK => ?_)    -- CALL
        go_wp2_with fail
        refine HP.out.mono ?_
        rintro e w7 ⟨v7, rfl, h⟩
        have h7 : Sep w w7 [ThTb t5 S, ThRf t6 T] [(v7, yb), (.slice (some y) bs.length cv, bs2), (.slice a4 b.length cap4, b)] := by
          have h := h
          rw [HS.out.2.2.2] at h
          exact h
        obtain ⟨E7, hr7⟩ := h7.get (v := v7) (b := yb) (by simp)
        have hcv := conv_str (P := Tryd.prog) (src := 47) (dst := 9) Tryd.underlying47 Tryd.underlying5 Tryd.underlying9 hr7 w7 (fun _ _ => rfl)
        have HF7 := Lib.hid (show ReadsF t6 vr nr yv yb w7 from by rw [← HSV.out.2.2.1, ← HSV.out.2.2.2]; exact reads_facts (v := yv) (b := yb) (h7.pick 1 rfl rfl) (List.mem_cons_of_mem _ HYM.out))
        have H7 := Lib.hid h7
        clear h h7 hr7 HP HX HF
        go_wp2_with fail
        refine hK _ _ HF7.out ?_
        clear hK
        refine wpAnyM_one (fuel := 20) (i := 4) (by kernel_rfl) (by rfl) (fun K hK => ?_)
        go_wp2_with fail
        refine hK _ _ HF7.out ?_
        clear hK hcv
        refine wpAnyM_take (by kernel_rfl) (by intro c a d v w h; cases d <;> exact h) [(7, false), (8, false), (9, false), (11, false), (12, false), (13, false), (14, true)] (fuel := 13) (by kernel_rfl) ?_
        apply Exists.intro; refine ⟨?_, HF7.out, ?_⟩
        · iterate 7 ((first | (apply yieldN; (· (simp only [List.getElem?_toArray, List.getElem?_cons_succ, List.getElem?_cons_zero]; try rfl)); (· rfl)) | ((first | apply yieldP | apply yieldL); (· (simp only [List.getElem?_toArray, List.getElem?_cons_succ, List.getElem?_cons_zero]; try rfl)); (· rfl); (· (intros; go_simp; try with_reducible rfl)))); (· (simp only [Act.put, List.setIfInBounds_toArray, List.set_cons_zero, List.set_cons_succ]; try rfl)))
          exact rfl
        refine wpAnyM_one (fuel := 12) (i := 10) (by kernel_rfl) (by rfl) (fun K hK => ?_)    -- CALL
        have hver := rt_version (tb_iff.1 H7.out)
        rw [HSV.out.1] at hver
        have HVC := Lib.hid hver
        have hshr := rt_shards (tb_iff.1 H7.out)
        rw [HSV.out.2.1] at hshr
        have HVS := Lib.hid hshr
        clear hver hshr
        go_wp2_with fail
        refine HVC.out.mono ?_
        rintro e w8 ⟨rfl, hW⟩
        subst w8
        go_wp2_with fail
        refine hK _ _ HF7.out ?_
        clear hK HVC
        refine wpAnyM_take (by kernel_rfl) (by intro c a d v w h; cases d <;> exact h) [(15, false), (16, false), (17, false), (18, false), (20, false), (21, false), (22, false), (23, true)] (fuel := 4) (by kernel_rfl) ?_
        apply Exists.intro; refine ⟨?_, HF7.out, ?_⟩
        · iterate 8 ((first | (apply yieldN; (· (simp only [List.getElem?_toArray, List.getElem?_cons_succ, List.getElem?_cons_zero]; try rfl)); (· rfl)) | ((first | apply yieldP | apply yieldL); (· (simp only [List.getElem?_toArray, List.getElem?_cons_succ, List.getElem?_cons_zero]; try rfl)); (· rfl); (· (intros; go_simp; try with_reducible rfl)))); (· (simp only [Act.put, List.setIfInBounds_toArray, List.set_cons_zero, List.set_cons_succ]; try rfl)))
          exact rfl
        refine wpAnyM_one (fuel := 3) (i := 19) (by kernel_rfl) (by rfl) (fun K hK => ?_)    -- CALL
        go_wp2_with fail
        refine HVS.out.mono ?_
        rintro e w8 ⟨rfl, hW⟩
        subst w8
        go_wp2_with fail
        refine hK _ _ HF7.out ?_
        clear hK HVS
        refine wpAnyM_take (by kernel_rfl) (by intro c a d v w h; cases d <;> exact h) [(24, false), (25, false), (26, false)] (fuel := 0) (by kernel_rfl) ?_
        apply Exists.intro; refine ⟨?_, HF7.out, ?_⟩
        · iterate 3 ((first | (apply yieldN; (· (simp only [List.getElem?_toArray, List.getElem?_cons_succ, List.getElem?_cons_zero]; try rfl)); (· rfl)) | ((first | apply yieldP | apply yieldL); (· (simp only [List.getElem?_toArray, List.getElem?_cons_succ, List.getElem?_cons_zero]; try rfl)); (· rfl); (· (intros; go_simp; try with_reducible rfl)))); (· (simp only [Act.put, List.setIfInBounds_toArray, List.set_cons_zero, List.set_cons_succ]; try rfl)))
          exact rfl
        refine wpAnyM_done (by kernel_rfl) ?_ _
        go_wp2_with fail
        go_roundg (2 - (p+1))
        case rel => exact ⟨(p+1), by omega, rfl, by go_num, (H7.out.drop.drop).drop_row⟩
        case measure => omega
end Go.Proofs.YtfncdgnhiinmjaaDoor

/-
  A row whose world bears variables that are laid, and has its shape: both are kept for the walk.
-/
namespace Go.Av
variable {H : Type} {enc : TypeId × Value → H}
theorem handed_both {a : Assume} {C : Checked} {os : Os} {f : FuncId} {fn : Func} {s : ChangeSpec} {conds : List PathCond} {apart fresh handsOn again : Bool} {X : World → Array Value → Prop}
    (hX : ∀ (w w' : World) (args : Array Value), w.heap = w'.heap → X w args → X w' args)
    (own : ownKnob C.prog.godebug = none) (started : os.Started) (noInit : C.prog.inits.idxOf? f = none) (hfn : C.prog.funcs[f]? = some fn)
    (witness : ∃ (w : World) (tape : Tape) (i : Input), w.os = os ∧ (w.forCall tape i).Shaped C.prog ∧ i.vars = [] ∧ Input.okWide C.prog (w.forCall tape i) .any w.heap.size f i ∧
      ((s.pre enc C.prog fn conds apart (w.forCall tape i).memory i.args ∧ X (w.forCall tape i).memory i.args) ∧ sizedMet enc C.prog fn (OpenSpec.ofChange s) apart (w.forCall tape i).memory i.args) ∧ a.holds C.prog (lone (Frame.enter C.prog f i.args .normal) [] (w.forCall tape i)))
    (contract : ∀ (W : World) (base : Nat) (args : Array Value) (ds gs : List (DataW H)) (before : List MemPlace),
      (∀ (j : Nat) t v, fn.params[j]? = some t → args[j]? = some v → Value.okWide C.prog W .any base t v) →
      DataW.Whole enc C.prog fn.params.toList s.vars apart W args.toList ds gs before →
      W.ShapedOpen C.prog → X W args →
      Calls C.prog f args W fun e W' => ∃ v, e = .returned v ∧ s.post enc C.prog fn apart fresh handsOn again W args v W') :
    ReturnsInHanded a C os f .any (fun w args => (s.pre enc C.prog fn conds apart w args ∧ X w args) ∧ sizedMet enc C.prog fn (OpenSpec.ofChange s) apart w args) (s.post enc C.prog fn apart fresh handsOn again) := by
  refine returnsInHanded_of_calls own started noInit witness ?_
  intro w tape i _ hsh _ hok hpre hholds
  obtain ⟨_, _, _, fn', hfn', _, _, _, _, hval⟩ := hok
  have e : fn' = fn := Option.some.inj (hfn'.symm.trans hfn)
  subst e
  obtain ⟨⟨⟨ds, gs, before, hw, hc⟩, hx⟩, hz⟩ := hpre
  have hw' := DataW.Whole.of_heap (w' := w.forCall tape i) (by rfl) hw
  refine (contract (w.forCall tape i) w.heap.size i.args ds gs before hval hw' hsh (hX _ _ _ (by rfl) hx)).mono fun e W' ⟨v, he, hp⟩ => ?_
  subst he
  exact ChangeSpec.post_blind hp
end Go.Av
namespace Go.Proofs.YtfncdgnhiinmjaaDoor
open Go.Av
theorem door_of {W : World} (h : W.ShapedOpen Tryd.prog) : Door W := Tryd.laysM146.s1_3 W h
end Go.Proofs.YtfncdgnhiinmjaaDoor
