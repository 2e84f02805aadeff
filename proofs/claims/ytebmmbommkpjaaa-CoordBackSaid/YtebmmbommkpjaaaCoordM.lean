/-
  Decisions in bytes, in plain words: what is written, what is read; what is written is read as it was.
-/
import Derived.Test.YtebmmbommkpjaaaCoordL
import Derived.Test.YtebmmbommkpjaaaPackC
namespace Go.Proofs.Ytebmmbommkpjaaa
open Go.RowKit Go.Av

/-- An entry's bytes. -/
def entB (id : Int) (x : EntS) : Bs := packI id ++ (numsS x.shards ++ (x.votes.flatMap packI ++ (packI x.dec ++ numsS x.owes)))
def entK (S : CoS) (id : Int) : Bs := match lookS id S with | some x => entB id x | none => []
/-- All bytes. -/
def bytesS (S : CoS) : Bs := packI S.length ++ (keysS S).flatMap (entK S)

/-! ### a reader, in plain words -/
abbrev Rd := Bs × Bool
def i64R (r : Rd) : Int × Rd := if r.1.length < 8 then (0, [], true) else (rdI r.1, r.1.drop 8, r.2)
def cntR (most : Int) (r : Rd) : Int × Rd := ((cntS r.1 r.2 most).2.2, (cntS r.1 r.2 most).1, (cntS r.1 r.2 most).2.1)
def cntN (most : Int) : Nat → Rd → List Int × Rd
  | 0, r => ([], r)
  | n + 1, r => ((cntR most r).1 :: (cntN most n (cntR most r).2).1, (cntN most n (cntR most r).2).2)
def readR (r : Rd) : List Int × Rd := cntN 3 (cntR 4 r).1.toNat (cntR 4 r).2

theorem cntN_snoc (most : Int) : ∀ (n : Nat) (r : Rd), cntN most (n + 1) r = ((cntN most n r).1 ++ [(cntR most (cntN most n r).2).1], (cntR most (cntN most n r).2).2)
  | 0, r => rfl
  | n + 1, r => by
    rw [cntN, cntN_snoc most n]
    rfl
theorem cntN_len (most : Int) : ∀ (n : Nat) (r : Rd), (cntN most n r).1.length = n
  | 0, r => rfl
  | n + 1, r => by rw [cntN, List.length_cons, cntN_len most n]
theorem cntR_bd {most : Int} (h : 0 ≤ most) (r : Rd) : 0 ≤ (cntR most r).1 ∧ (cntR most r).1 ≤ most := by
  unfold cntR cntS
  split
  · exact ⟨Int.le_refl _, h⟩
  · split
    · exact ⟨Int.le_refl _, h⟩
    · simp only; omega

/-- What was read. -/
def entR (r : Rd) : (Int × EntS) × Rd :=
  let a := i64R r
  let s := readR a.2
  let v := cntN 2 s.1.length s.2
  let d := cntR 2 v.2
  let o := readR d.2
  ((a.1, ⟨s.1, v.1, d.1, o.1⟩), o.2)
def againstS (l : List Int) : Nat := l.countP fun v => v == 2
/-- Can calls have made it? -/
def goodS (x : EntS) : Bool :=
  if x.shards.length = 0 ∨ risS x.shards = false ∨ risS x.owes = false ∨ (x.owes.any fun s => !(x.shards.contains s)) = true ∨ 1 < againstS x.votes then false
  else if x.dec = 0 then (decide (againstS x.votes = 0) && !wholeS x.votes && decide (x.owes.length = x.shards.length))
  else if x.dec = 1 then wholeS x.votes else !wholeS x.votes
def getN : Nat → Int → Rd → CoS → Option (CoS × Rd)
  | 0, _, r, S => some (S, r)
  | n + 1, last, r, S => if (entR r).2.2 = true ∨ (entR r).1.1 ≤ last ∨ goodS (entR r).1.2 = false then none else getN n (entR r).1.1 (entR r).2 (S ++ [(entR r).1])
def getS (b : Bs) : Option CoS :=
  match getN (cntR 1048576 (b, false)).1.toNat 0 (cntR 1048576 (b, false)).2 [] with
  | none => none
  | some (S, r) => if r.2 = false ∧ r.1 = [] then some S else none

/-! ### what was written, read -/
theorem i64R_pack (v : Int) (x : Bs) (bad : Bool) (h1 : -9223372036854775808 ≤ v) (h2 : v ≤ 9223372036854775807) : i64R (packI v ++ x, bad) = (v, x, bad) := by
  unfold i64R
  rw [if_neg (by simp [packI_len])]
  simp only [rdI_pack v x h1 h2]
  rw [List.drop_append_of_le_length (by rw [packI_len]; omega), List.drop_of_length_le (by rw [packI_len]; omega)]
  rfl
theorem cntR_pack (most v : Int) (x : Bs) (bad : Bool) (h1 : 0 ≤ v) (h2 : v ≤ most) (h3 : most ≤ 9223372036854775807) : cntR most (packI v ++ x, bad) = (v, x, bad) := by
  unfold cntR cntS
  simp only
  rw [rdI_pack v x (by omega) (by omega), if_neg (by simp [packI_len]), if_neg (by omega)]
  simp only
  rw [List.drop_append_of_le_length (by rw [packI_len]; omega), List.drop_of_length_le (by rw [packI_len]; omega)]
  rfl
theorem cntN_pack (most : Int) (h3 : most ≤ 9223372036854775807) : ∀ (l : List Int) (x : Bs) (bad : Bool), (∀ v ∈ l, 0 ≤ v ∧ v ≤ most) → cntN most l.length (l.flatMap packI ++ x, bad) = (l, x, bad)
  | [], x, bad, _ => rfl
  | v :: l, x, bad, h => by
    have h1 := h v (by simp)
    rw [List.length_cons, cntN, List.flatMap_cons, List.append_assoc, cntR_pack most v _ bad h1.1 h1.2 h3]
    simp only
    rw [cntN_pack most h3 l x bad (fun v hv => h v (by simp [hv]))]
theorem readR_nums (l : List Int) (x : Bs) (bad : Bool) (hl : l.length ≤ 4) (h : ∀ v ∈ l, 0 ≤ v ∧ v ≤ 3) : readR (numsS l ++ x, bad) = (l, x, bad) := by
  unfold readR numsS
  rw [List.append_assoc, cntR_pack 4 _ _ bad (by omega) (by omega) (by decide)]
  simp only [Int.toNat_natCast]
  exact cntN_pack 3 (by decide) l x bad h

/-- What calls keep of each entry. -/
structure InvE (x : EntS) : Prop where
  ne : x.shards ≠ []
  ris : risS x.shards = true
  sub : x.owes.Sublist x.shards
  len : x.votes.length = x.shards.length
  votes : ∀ v ∈ x.votes, 0 ≤ v ∧ v ≤ 2
  one : againstS x.votes ≤ 1
  how : (x.dec = 0 ∧ againstS x.votes = 0 ∧ wholeS x.votes = false ∧ x.owes = x.shards) ∨ (x.dec = 1 ∧ wholeS x.votes = true) ∨ (x.dec = 2 ∧ wholeS x.votes = false)

theorem risF_all : ∀ (l : List Int) (last : Int), risF last l = true → ∀ s ∈ l, last < s ∧ s < 4
  | [], _, _, s, hs => by cases hs
  | x :: r, last, h, s, hs => by
    rw [risF_cons] at h
    simp only [Bool.and_eq_true, Bool.not_eq_true', Bool.or_eq_false_iff, decide_eq_false_iff_not] at h
    rcases List.mem_cons.1 hs with rfl | hs
    · omega
    · have := risF_all r x h.2 s hs; omega
theorem risS_all {l : List Int} (h : risS l = true) : ∀ s ∈ l, 0 ≤ s ∧ s ≤ 3 := fun s hs => by
  have := risF_all l (-1) h s hs
  omega
theorem risF_mono : ∀ (l : List Int) {a b : Int}, a ≤ b → risF b l = true → risF a l = true
  | [], _, _, _, _ => rfl
  | x :: r, a, b, hab, h => by
    rw [risF_cons] at h ⊢
    simp only [Bool.and_eq_true, Bool.not_eq_true', Bool.or_eq_false_iff, decide_eq_false_iff_not] at h ⊢
    exact ⟨⟨by omega, h.1.2⟩, h.2⟩
theorem risF_sub {l l' : List Int} (h : l.Sublist l') : ∀ (last : Int), risF last l' = true → risF last l = true := by
  induction h with
  | slnil => exact fun _ h => h
  | cons a _ ih =>
    intro last h
    rw [risF_cons] at h
    simp only [Bool.and_eq_true, Bool.not_eq_true', Bool.or_eq_false_iff, decide_eq_false_iff_not] at h
    exact risF_mono _ (by omega) (ih _ h.2)
  | cons_cons a _ ih =>
    intro last h
    rw [risF_cons] at h ⊢
    simp only [Bool.and_eq_true] at h ⊢
    exact ⟨h.1, ih _ h.2⟩

theorem InvE.owes {x : EntS} (h : InvE x) : risS x.owes = true := risF_sub h.sub _ h.ris
theorem InvE.good {x : EntS} (h : InvE x) : goodS x = true := by
  have h0 : ¬ x.shards.length = 0 := fun e => h.ne (List.length_eq_zero_iff.1 e)
  have h1 : (x.owes.any fun s => !(x.shards.contains s)) = false := List.any_eq_false.2 fun s hs => by
    have := h.sub.subset hs
    simp [this]
  unfold goodS
  have h1' := h.one
  rw [if_neg (by rw [h.ris, h.owes, h1]; simp only [h0, false_or, Bool.true_eq_false, Bool.false_eq_true]; omega)]
  rcases h.how with ⟨e0, e1, e2, e3⟩ | ⟨e0, e1⟩ | ⟨e0, e1⟩
  · rw [if_pos e0, e1, e2, e3]; simp
  · rw [if_neg (by omega), if_pos e0, e1]
  · rw [if_neg (by omega), if_neg (by omega), e1]; rfl
theorem InvE.read {x : EntS} (h : InvE x) (id : Int) (t : Bs) (bad : Bool) (h1 : 1 ≤ id) (h2 : id ≤ 9223372036854775807) : entR (entB id x ++ t, bad) = ((id, x), t, bad) := by
  have hl := risS_len h.ris
  have ho := risS_len h.owes
  have hd : 0 ≤ x.dec ∧ x.dec ≤ 2 := by rcases h.how with h | h | h <;> omega
  unfold entR entB
  simp only [List.append_assoc]
  rw [i64R_pack id _ bad (by omega) h2]
  simp only
  rw [readR_nums x.shards _ bad hl (risS_all h.ris)]
  simp only
  rw [← h.len, cntN_pack 2 (by decide) x.votes _ bad h.votes]
  simp only
  rw [cntR_pack 2 x.dec _ bad hd.1 hd.2 (by decide)]
  simp only
  rw [readR_nums x.owes _ bad ho (risS_all h.owes)]

/-- What calls keep of all. -/
def InvC (S : CoS) : Prop := (S.map (·.1)).Nodup ∧ ∀ e ∈ S, InvE e.2 ∧ 1 ≤ e.1 ∧ e.1 ≤ 9223372036854775807
theorem look_mem {S : CoS} {id : Int} {x : EntS} (h : lookS id S = some x) : (id, x) ∈ S := by
  obtain ⟨S1, S2, rfl, _⟩ := look_some h
  simp
theorem mem_look {S : CoS} (hn : (S.map (·.1)).Nodup) {id : Int} {x : EntS} (h : (id, x) ∈ S) : lookS id S = some x := by
  cases hl : lookS id S with
  | none => exact absurd rfl (look_none hl _ h)
  | some y =>
    have := nodup_inj hn h (look_mem hl) rfl
    cases this
    rfl

theorem getN_put (S : CoS) (hI : InvC S) : ∀ (ks : List Int) (last : Int) (t : Bs) (T : CoS), 0 ≤ last → (last :: ks).Pairwise (· < ·) → (∀ k ∈ ks, k ∈ S.map (·.1)) →
    getN ks.length last (ks.flatMap (entK S) ++ t, false) T = some (T ++ ks.filterMap (fun k => (lookS k S).map fun x => (k, x)), t, false)
  | [], last, t, T, _, _, _ => by simp [getN]
  | k :: ks, last, t, T, h0, hp, hk => by
    obtain ⟨e, he, hek⟩ := List.mem_map.1 (hk k (by simp))
    obtain ⟨k', x⟩ := e
    simp only at hek
    subst hek
    have hl := mem_look hI.1 he
    obtain ⟨hx, h1, h2⟩ := hI.2 _ he
    have hlt : last < k' := (List.pairwise_cons.1 hp).1 k' (by simp)
    have hK : entK S k' = entB k' x := by unfold entK; rw [hl]
    rw [List.length_cons, getN, List.flatMap_cons, hK, List.append_assoc, hx.read k' _ false h1 h2]
    simp only
    rw [if_neg (by rw [hx.good]; simp; omega), getN_put S hI ks k' t _ (by omega) (List.pairwise_cons.1 hp).2 (fun k hk' => hk k (by simp [hk'])), List.filterMap_cons, hl]
    simp

/-- The same, by rising ids. -/
def sortS (S : CoS) : CoS := (keysS S).filterMap fun k => (lookS k S).map fun x => (k, x)
theorem keys_perm (S : CoS) : (keysS S).Perm (S.map (·.1)) := List.mergeSort_perm _ _
theorem keys_sorted (S : CoS) (hn : (S.map (·.1)).Nodup) : (keysS S).Pairwise (· < ·) := by
  have h1 : (keysS S).Pairwise (fun a b => decide (a ≤ b) = true) := List.pairwise_mergeSort (fun a b c h1 h2 => by simp at *; omega) (fun a b => by simp; omega) _
  have h2 : (keysS S).Pairwise (· ≠ ·) := (keys_perm S).nodup_iff.2 hn
  exact (h1.and h2).imp (fun {a b} h => by have := h.1; have := h.2; simp at *; omega)
theorem getS_put {S : CoS} (hI : InvC S) (hn : S.length ≤ 1048576) : getS (bytesS S) = some (sortS S) := by
  have hk : (keysS S).length = S.length := keys_len S
  unfold getS bytesS
  rw [cntR_pack 1048576 _ _ false (by omega) (by omega) (by decide)]
  simp only [Int.toNat_natCast]
  have hm : ∀ k ∈ keysS S, k ∈ S.map (·.1) := fun k hk => (keys_perm S).mem_iff.1 hk
  have := getN_put S hI (keysS S) 0 [] [] (Int.le_refl _) (List.pairwise_cons.2 ⟨fun k hk => by
    obtain ⟨e, he, rfl⟩ := List.mem_map.1 (hm k hk)
    have := (hI.2 e he).2
    omega, keys_sorted S hI.1⟩) hm
  rw [hk, List.append_nil] at this
  rw [this]
  simp [sortS]
theorem sort_look {S : CoS} (hI : InvC S) (id : Int) : lookS id (sortS S) = lookS id S := by
  have hk : ∀ e ∈ sortS S, lookS e.1 S = some e.2 := fun e he => by
    obtain ⟨k, _, hk⟩ := List.mem_filterMap.1 he
    cases hl : lookS k S with
    | none => rw [hl] at hk; cases hk
    | some x => rw [hl] at hk; cases hk; exact hl
  cases hl : lookS id (sortS S) with
  | some x => exact (hk _ (look_mem hl)).symm
  | none =>
    cases hl2 : lookS id S with
    | none => rfl
    | some x =>
      refine absurd rfl (look_none hl (id, x) (List.mem_filterMap.2 ⟨id, (keys_perm S).mem_iff.2 (List.mem_map.2 ⟨_, look_mem hl2, rfl⟩), by rw [hl2]; rfl⟩))
theorem filterMap_same {α β : Type} {f g : α → Option β} : ∀ {l : List α}, (∀ x ∈ l, f x = g x) → l.filterMap f = l.filterMap g
  | [], _ => rfl
  | x :: l, h => by rw [List.filterMap_cons, List.filterMap_cons, h x (by simp), filterMap_same (fun y hy => h y (by simp [hy]))]
theorem sort_map {S : CoS} (hI : InvC S) : (sortS S).map (·.1) = keysS S := by
  unfold sortS
  rw [List.map_filterMap]
  have : (keysS S).filterMap (fun k => ((lookS k S).map fun x => (k, x)).map (·.1)) = (keysS S).filterMap some := by
    refine filterMap_same fun k hk => ?_
    obtain ⟨x, hx⟩ := keys_look hk
    rw [hx]; rfl
  rw [this, List.filterMap_some]
theorem sort_inv {S : CoS} (hI : InvC S) : InvC (sortS S) := by
  refine ⟨by rw [sort_map hI]; exact (keys_perm S).nodup_iff.2 hI.1, fun e he => ?_⟩
  obtain ⟨k, _, hk⟩ := List.mem_filterMap.1 he
  cases hl : lookS k S with
  | none => rw [hl] at hk; cases hk
  | some x => rw [hl] at hk; cases hk; exact hI.2 _ (look_mem hl)
end Go.Proofs.Ytebmmbommkpjaaa
