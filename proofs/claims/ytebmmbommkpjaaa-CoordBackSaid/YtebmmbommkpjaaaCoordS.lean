/-
  Decisions in plain words: what calls keep of all; two that are alike stay so.
-/
import Derived.Test.YtebmmbommkpjaaaCoordM
namespace Go.Proofs.Ytebmmbommkpjaaa
open Go.RowKit Go.Av

theorem put_ids (id : Int) (φ : EntS → EntS) (S : CoS) : (putS id φ S).map (·.1) = S.map (·.1) := by
  unfold putS
  rw [List.map_map]
  refine List.map_congr_left fun e _ => ?_
  simp only [Function.comp]
  split <;> rfl
theorem put_inv {id : Int} {φ : EntS → EntS} {S : CoS} (h : InvC S) (hφ : ∀ x, lookS id S = some x → InvE (φ x)) : InvC (putS id φ S) := by
  refine ⟨by rw [put_ids]; exact h.1, fun e he => ?_⟩
  unfold putS at he
  obtain ⟨e0, he0, rfl⟩ := List.mem_map.1 he
  by_cases hid : e0.1 = id
  · rw [if_pos hid]
    exact ⟨hφ _ (mem_look h.1 (by rw [← hid]; exact he0)), (h.2 e0 he0).2⟩
  · rw [if_neg hid]
    exact h.2 e0 he0
theorem new_inv {l : List Int} (h0 : ¬ l.length = 0) (hr : risS l = true) : InvE (newE l) where
  ne := by simp only [newE]; intro h; rw [h] at h0; exact h0 rfl
  ris := hr
  sub := List.Sublist.refl _
  len := by simp [newE]
  votes := by
    intro v hv
    simp only [newE] at hv
    rw [(List.mem_replicate.1 hv).2]
    omega
  one := by
    simp only [newE, againstS]
    rw [List.countP_eq_zero.2 (by intro v hv; rw [(List.mem_replicate.1 hv).2]; decide)]
    omega
  how := by
    refine .inl ⟨rfl, ?_, ?_, rfl⟩
    · simp only [newE, againstS]
      exact List.countP_eq_zero.2 (by intro v hv; rw [(List.mem_replicate.1 hv).2]; decide)
    · cases l with
      | nil => exact absurd rfl h0
      | cons x r => rfl
theorem whole_two {l : List Int} (h : (2 : Int) ∈ l) : wholeS l = false := by
  unfold wholeS
  exact List.all_eq_false.2 ⟨2, h, by decide⟩
theorem vote_inv {x : EntS} (h : InvE x) {i : Nat} (hi : i < x.votes.length) (ok : Bool) : InvE (voteF i ok x) := by
  unfold voteF
  by_cases hc : x.votes.getD i 0 ≠ 0 ∨ x.dec ≠ 0
  · rw [if_pos hc]; exact h
  rw [if_neg hc]
  simp only [not_or, Decidable.not_not] at hc
  have how : againstS x.votes = 0 ∧ x.owes = x.shards := by
    rcases h.how with h | h | h
    · exact ⟨h.2.1, h.2.2.2⟩
    · omega
    · omega
  have hcnt : ∀ v : Int, againstS (x.votes.set i v) = if v == 2 then 1 else 0 := fun v => by
    have h0 := how.1
    unfold againstS at h0 ⊢
    have hv : (x.votes[i] == 2) = false := by
      have := List.countP_eq_zero.1 h0 _ (List.getElem_mem hi)
      simpa using this
    rw [List.countP_set hi, h0]
    simp [hv]
  have hmem : ∀ v : Int, v ∈ x.votes.set i v := fun v => List.mem_iff_getElem.2 ⟨i, by simpa using hi, by simp⟩
  refine ⟨h.ne, h.ris, h.sub, by simpa using h.len, ?_, ?_, ?_⟩
  · intro v hv
    rcases List.mem_or_eq_of_mem_set hv with hv | hv
    · exact h.votes v hv
    · rw [hv]; split <;> omega
  · show againstS (x.votes.set i _) ≤ 1
    rw [hcnt]; cases ok <;> decide
  · cases ok with
    | false =>
      refine .inr (.inr ⟨rfl, ?_⟩)
      exact whole_two (hmem 2)
    | true =>
      simp only [if_true]
      cases hw : wholeS (x.votes.set i 1) with
      | true => exact .inr (.inl ⟨rfl, rfl⟩)
      | false => exact .inl ⟨rfl, by rw [hcnt]; rfl, rfl, how.2⟩
theorem done_inv {x : EntS} (h : InvE x) (k : Int) (hd : ¬ x.dec = 0) : InvE (doneF k x) := by
  refine ⟨h.ne, h.ris, (List.filter_sublist).trans h.sub, h.len, h.votes, h.one, ?_⟩
  rcases h.how with h | h | h
  · exact absurd h.1 hd
  · exact .inr (.inl h)
  · exact .inr (.inr h)
theorem abort_inv {x : EntS} (h : InvE x) : InvE (abortF x) := by
  unfold abortF
  split
  · rename_i hd
    refine ⟨h.ne, h.ris, h.sub, h.len, h.votes, h.one, .inr (.inr ⟨rfl, ?_⟩)⟩
    rcases h.how with h | h | h
    · exact h.2.2.1
    · omega
    · omega
  · exact h
theorem step_inv {S : CoS} (h : InvC S) (op id : Int) (l : List Int) (sh : Int) (yes : Bool) (hid : id ≤ 9223372036854775807) : InvC (stepS S op id l sh yes) := by
  unfold stepS
  split
  · unfold beginS
    split
    · exact h
    · rename_i hc
      simp only [not_or, Bool.not_eq_false] at hc
      split
      · exact h
      · rename_i hl
        refine ⟨?_, fun e he => ?_⟩
        · rw [List.map_append, List.nodup_append]
          refine ⟨h.1, by simp, ?_⟩
          intro a ha b hb he
          simp only [List.map_cons, List.map_nil, List.mem_singleton] at hb
          obtain ⟨q, hq, rfl⟩ := List.mem_map.1 ha
          exact look_none hl q hq (he.trans hb)
        · rcases List.mem_append.1 he with he | he
          · exact h.2 e he
          · rw [List.mem_singleton.1 he]
            exact ⟨new_inv hc.2.1 hc.2.2, by simp only; omega, hid⟩
  split
  · unfold voteS
    split
    · exact h
    · rename_i x hx
      split
      · exact h
      · rename_i i hi
        refine put_inv h fun y hy => ?_
        rw [hx] at hy
        cases hy
        have hI : InvE x := (h.2 _ (look_mem hx)).1
        exact vote_inv hI (by have h1 : i < x.shards.length := idxF_lt hi; have h2 : x.votes.length = x.shards.length := hI.len; omega) yes
  split
  · unfold doneS
    split
    · exact h
    · rename_i x hx
      split
      · exact h
      · split
        · exact h
        · rename_i hd
          refine put_inv h fun y hy => ?_
          rw [hx] at hy
          cases hy
          exact done_inv (h.2 _ (look_mem hx)).1 _ hd
  split
  · unfold abortS
    split
    · exact h
    · exact put_inv h fun y hy => abort_inv (h.2 _ (look_mem hy)).1
  exact h
theorem put_len (id : Int) (φ : EntS → EntS) (S : CoS) : (putS id φ S).length = S.length := by unfold putS; rw [List.length_map]
theorem step_len (S : CoS) (op id : Int) (l : List Int) (sh : Int) (yes : Bool) : (stepS S op id l sh yes).length ≤ S.length + 1 := by
  unfold stepS
  split
  · unfold beginS
    split
    · simp
    · split <;> simp
  split
  · unfold voteS
    split
    · simp
    · split <;> simp [put_len]
  split
  · unfold doneS
    split
    · simp
    · split
      · simp
      · split <;> simp [put_len]
  split
  · unfold abortS
    split <;> simp [put_len]
  simp
theorem step_all {S T : CoS} (h : ∀ z, lookS z S = lookS z T) (op id : Int) (l : List Int) (sh : Int) (yes : Bool) (z : Int) : lookS z (stepS S op id l sh yes) = lookS z (stepS T op id l sh yes) := by
  by_cases hz : id = z
  · subst hz
    by_cases hop : op = 0
    · unfold stepS
      rw [if_pos hop, if_pos hop]
      unfold beginS
      split
      · exact h id
      · rw [← h id]
        cases hx : lookS id S with
        | some x => exact h id
        | none =>
          dsimp only
          rw [look_app, look_app, ← h id, hx]
    · exact step_alike S T op id l sh yes (h id) hop
  · rw [step_other S op id z l sh yes hz, step_other T op id z l sh yes hz]
    exact h z
theorem mem_ids {S : CoS} (id : Int) : id ∈ S.map (·.1) ↔ ∃ x, lookS id S = some x := by
  constructor
  · intro h
    exact keys_look ((keys_perm S).mem_iff.2 h)
  · rintro ⟨x, hx⟩
    exact List.mem_map.2 ⟨_, look_mem hx, rfl⟩
theorem keys_alike {S T : CoS} (hS : InvC S) (hT : InvC T) (h : ∀ z, lookS z S = lookS z T) : keysS S = keysS T := by
  have hp : (S.map (·.1)).Perm (T.map (·.1)) := (List.perm_ext_iff_of_nodup hS.1 hT.1).2 fun a => by rw [mem_ids, mem_ids, h a]
  unfold keysS
  exact mergeSort_of_perm_i hp
theorem bytes_alike {S T : CoS} (hS : InvC S) (hT : InvC T) (h : ∀ z, lookS z S = lookS z T) : bytesS S = bytesS T := by
  have hk := keys_alike hS hT h
  have hl : S.length = T.length := by rw [← keys_len S, ← keys_len T, hk]
  unfold bytesS
  rw [hk, hl]
  congr 1
  have : entK S = entK T := by funext z; unfold entK; rw [h z]
  rw [this]
theorem inv_nil : InvC [] := ⟨by simp, by simp⟩
theorem sort_len {S : CoS} (hI : InvC S) : (sortS S).length = S.length := by
  rw [← keys_len S, ← sort_map hI, List.length_map]
end Go.Proofs.Ytebmmbommkpjaaa
