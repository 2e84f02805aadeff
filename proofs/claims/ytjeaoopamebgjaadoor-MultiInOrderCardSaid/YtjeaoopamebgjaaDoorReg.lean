/-
  Regions that draw their order: reads first under a condition on the world that is asked of the first operations alone; then what is forced.
-/
import Derived.Test.YtjeaoopamebgjaaDoorBase
import Derived.OrdersHeld
import Derived.Deep.DeepMust
namespace Go.Av
section
variable {P : Program} {ops : Array Oper} {Q : Exit → Act → World → Prop} {md : Region.Mode} {S : World → Prop}

/-- Whatever order is picked; each operation ahead of number N keeps S. -/
def wpAnyM (P : Program) (md : Region.Mode) (ops : Array Oper) (Q : Exit → Act → World → Prop) (S : World → Prop) (N : Nat) : Nat → Array Bool → Act → World → Prop
  | 0, listed, a, w => Region.ready md ops listed = [] ∧ Q .normal a w
  | fuel + 1, listed, a, w =>
    (Region.ready md ops listed = [] → Q .normal a w) ∧
    ∀ i ∈ Region.ready md ops listed, wpOp P ops Q i (fun a' w' => (i < N → S w → S w') ∧ wpAnyM P md ops Q S N fuel (listed.setIfInBounds i true) a' w') a w

theorem wpAny_of_M {N : Nat} : ∀ (fuel : Nat) (listed : Array Bool) (a : Act) (w : World), wpAnyM P md ops Q S N fuel listed a w → wpAny P md ops Q fuel listed a w
  | 0, _, _, _, h => h
  | fuel + 1, _, _, _, h => ⟨h.1, fun i hi => wpOp_mono (fun a' w' h' => wpAny_of_M fuel _ a' w' h'.2) (h.2 i hi)⟩

theorem ready_unlisted {listed : Array Bool} {i : Nat} (h : i ∈ Region.ready md ops listed) : listed.getD i true = false := (mem_ready.1 h).1

theorem wpAnyM_of_any {N : Nat} : ∀ (fuel : Nat) (listed : Array Bool) (a : Act) (w : World), (∀ i, i < N → listed.getD i true = true) → wpAny P md ops Q fuel listed a w → wpAnyM P md ops Q S N fuel listed a w
  | 0, _, _, _, _, h => h
  | fuel + 1, listed, _, _, hl, h => ⟨h.1, fun i hi => wpOp_mono (fun a' w' h' => ⟨fun hN => absurd (hl i hN) (by rw [ready_unlisted hi]; simp), wpAnyM_of_any fuel _ a' w' (fun j hj => by
        have := hl j hj
        by_cases hji : i = j
        · subst hji
          simp only [Array.getD_eq_getD_getElem?, Array.getElem?_setIfInBounds] at *
          by_cases hs : i < listed.size
          · simp [hs]
          · simp [show ¬ i < listed.size by omega]
        · rw [getD_set_ne true hji]; exact this) h'⟩) (h.2 i hi)⟩

def freeM (md : Region.Mode) (ops : Array Oper) (N : Nat) (listed : Array Bool) (i : Nat) : Bool :=
  match ops[i]? with
  | none => false
  | some oi => (List.range ops.size).all fun j => j == i || (listed.getD j true && decide (j < N)) || match ops[j]? with
      | some oj => oj.after.any (fun e => Region.binds md e && (e.on == i || (decide (N ≤ j) && decide (N ≤ e.on)))) || (oi.apart ops oj && decide (j < N))
      | none => true

theorem freeM_spec {N i : Nat} {oi : Oper} {listed : Array Bool} (hi : ops[i]? = some oi) (h : freeM md ops N listed i = true) (j : Nat) (oj : Oper)
    (hj : ops[j]? = some oj) (hne : j ≠ i) (hun : listed.getD j true = false) (hno : ∀ e ∈ oj.after, Region.binds md e = true → e.on ≠ i ∧ (N ≤ j → e.on < N)) :
    oi.apart ops oj = true ∧ j < N := by
  simp only [freeM, hi, List.all_eq_true, List.mem_range] at h
  have h1 := h j (Array.getElem?_eq_some_iff.1 hj).1
  simp only [hj, Bool.or_eq_true, beq_iff_eq, hne, false_or, hun, Bool.false_and, Bool.false_eq_true] at h1
  rcases h1 with h1 | h1
  · obtain ⟨e, he, hb⟩ := Array.any_eq_true'.1 h1
    simp only [Bool.and_eq_true, Bool.or_eq_true, beq_iff_eq, decide_eq_true_eq] at hb
    obtain ⟨n1, n2⟩ := hno e he hb.1
    rcases hb.2 with h2 | h2
    · exact absurd h2 n1
    · have := n2 h2.1; omega
  · simpa using h1

theorem wpAnyM_first {N i : Nat} {oi : Oper} {v : Value} (hi : ops[i]? = some oi) (hsel : ∀ (j : Nat) (o : Oper) cs b, ops[j]? = some o → o.op ≠ .select cs b)
    (hQ : ∀ c a w, Q (.panic c) (a.put oi.dst v) w → Q (.panic c) a w) :
    ∀ (fuel : Nat) (listed : Array Bool) (a : Act) (w : World),
      (∀ k, N ≤ k → listed.getD k false = false) →
      (∀ j oj, ops[j]? = some oj → j ≠ i → listed.getD j true = false → (∀ e ∈ oj.after, Region.binds md e = true → e.on ≠ i ∧ (N ≤ j → e.on < N)) → oi.apart ops oj = true ∧ j < N) →
      i ∈ Region.ready md ops listed → YieldsIf P ops S oi v a → S w →
      wpAnyM P md ops Q S N fuel (listed.setIfInBounds i true) (a.put oi.dst v) w → wpAnyM P md ops Q S N (fuel + 1) listed a w := by
  intro fuel
  induction fuel with
  | zero =>
    intro listed a w _ _ hr hy hS H
    refine ⟨fun h => (by rw [h] at hr; cases hr), fun j hj => ?_⟩
    by_cases hji : j = i
    · subst hji; exact hy.wpOp hi hS ⟨fun _ h => h, H⟩
    · have := ready_mono hj hji
      rw [H.1] at this
      cases this
  | succ fuel ih =>
    intro listed a w hblk hfree hr hy hS H
    refine ⟨fun h => (by rw [h] at hr; cases hr), fun j hj => ?_⟩
    by_cases hji : j = i
    · subst hji; exact hy.wpOp hi hS ⟨fun _ h => h, H⟩
    · have h1 := H.2 j (ready_mono hj hji)
      obtain ⟨hjun, oj, hoj, hall⟩ := mem_ready.1 hj
      have hnot : ∀ e ∈ oj.after, Region.binds md e = true → e.on ≠ i ∧ (N ≤ j → e.on < N) := fun e he hb => by
        have h1 := hall e he hb
        have h0 := (mem_ready.1 hr).1
        refine ⟨fun heq => ?_, fun _ => ?_⟩
        · rw [heq] at h1
          rcases Nat.lt_or_ge i listed.size with h' | h'
          · simp [h'] at h0 h1; rw [h0] at h1; cases h1
          · simp [Array.getElem?_eq_none h'] at h1
        · rcases Nat.lt_or_ge e.on N with h' | h'
          · exact h'
          · rw [hblk _ h'] at h1; cases h1
      obtain ⟨hap, hjN⟩ := hfree j oj hoj hji hjun hnot
      have h2 := wpOp_putIf hoj hap (fun cs b => hsel i oi cs b hi) (fun cs b => hsel j oj cs b hoj) hQ hy h1
      have hfree' : ∀ k ok, ops[k]? = some ok → k ≠ i → (listed.setIfInBounds j true).getD k true = false →
          (∀ e ∈ ok.after, Region.binds md e = true → e.on ≠ i ∧ (N ≤ k → e.on < N)) → oi.apart ops ok = true ∧ k < N := fun k ok hk hki hun hno => by
        refine hfree k ok hk hki ?_ hno
        by_cases hjk : j = k
        · subst hjk; exact hjun
        · rw [getD_set_ne true hjk] at hun; exact hun
      have hblk' : ∀ k, N ≤ k → (listed.setIfInBounds j true).getD k false = false := fun k hk => by
        rw [getD_set_ne false (by omega)]; exact hblk k hk
      refine wpOp_mono (fun a' w' h3 => ⟨h3.2.1, ih (listed.setIfInBounds j true) a' w' hblk' hfree' (ready_mono hr (Ne.symm hji)) h3.1 (h3.2.1 hjN hS) ?_⟩) h2
      rw [Array.setIfInBounds_comm _ _ hji]
      exact h3.2.2

/-- What yields in whatever world may be taken first. -/
theorem wpAnyM_firstP {N i : Nat} {oi : Oper} {v : Value} (hi : ops[i]? = some oi) (hsel : ∀ (j : Nat) (o : Oper) cs b, ops[j]? = some o → o.op ≠ .select cs b)
    (hQ : ∀ c a w, Q (.panic c) (a.put oi.dst v) w → Q (.panic c) a w) :
    ∀ (fuel : Nat) (listed : Array Bool) (a : Act) (w : World),
      (∀ j oj, ops[j]? = some oj → j ≠ i → listed.getD j true = false → (∀ e ∈ oj.after, Region.binds md e = true → e.on ≠ i) → oi.apart ops oj = true) →
      i ∈ Region.ready md ops listed → YieldsIf P ops (fun _ => True) oi v a →
      wpAnyM P md ops Q S N fuel (listed.setIfInBounds i true) (a.put oi.dst v) w → wpAnyM P md ops Q S N (fuel + 1) listed a w := by
  intro fuel
  induction fuel with
  | zero =>
    intro listed a w _ hr hy H
    refine ⟨fun h => (by rw [h] at hr; cases hr), fun j hj => ?_⟩
    by_cases hji : j = i
    · subst hji; exact hy.wpOp hi trivial ⟨fun _ h => h, H⟩
    · have := ready_mono hj hji
      rw [H.1] at this
      cases this
  | succ fuel ih =>
    intro listed a w hfree hr hy H
    refine ⟨fun h => (by rw [h] at hr; cases hr), fun j hj => ?_⟩
    by_cases hji : j = i
    · subst hji; exact hy.wpOp hi trivial ⟨fun _ h => h, H⟩
    · have h1 := H.2 j (ready_mono hj hji)
      obtain ⟨hjun, oj, hoj, hall⟩ := mem_ready.1 hj
      have hnot : ∀ e ∈ oj.after, Region.binds md e = true → e.on ≠ i := fun e he hb heq => by
        have h1 := hall e he hb
        have h0 := (mem_ready.1 hr).1
        rw [heq] at h1
        rcases Nat.lt_or_ge i listed.size with h' | h'
        · simp [h'] at h0 h1; rw [h0] at h1; cases h1
        · simp [Array.getElem?_eq_none h'] at h1
      have h2 := wpOp_putIf hoj (hfree j oj hoj hji hjun hnot) (fun cs b => hsel i oi cs b hi) (fun cs b => hsel j oj cs b hoj) hQ hy h1
      have hfree' : ∀ k ok, ops[k]? = some ok → k ≠ i → (listed.setIfInBounds j true).getD k true = false →
          (∀ e ∈ ok.after, Region.binds md e = true → e.on ≠ i) → oi.apart ops ok = true := fun k ok hk hki hun hno => by
        refine hfree k ok hk hki ?_ hno
        by_cases hjk : j = k
        · subst hjk; exact hjun
        · rw [getD_set_ne true hjk] at hun; exact hun
      refine wpOp_mono (fun a' w' h3 => ⟨h3.2.1, ih (listed.setIfInBounds j true) a' w' hfree' (ready_mono hr (Ne.symm hji)) h3.1 ?_⟩) h2
      rw [Array.setIfInBounds_comm _ _ hji]
      exact h3.2.2

/-- Operations of a list, one behind the other: each yields its value in every world that meets S (true), in whatever world (false). -/
def YieldAll (P : Program) (ops : Array Oper) (S : World → Prop) : List (Nat × Bool) → Act → Act → Prop
  | [], a, A => a = A
  | (i, true) :: r, a, A => ∃ o v a', ops[i]? = some o ∧ YieldsIf P ops S o v a ∧ a' = a.put o.dst v ∧ YieldAll P ops S r a' A
  | (i, false) :: r, a, A => ∃ o v a', ops[i]? = some o ∧ YieldsIf P ops (fun _ => True) o v a ∧ a' = a.put o.dst v ∧ YieldAll P ops S r a' A

theorem yieldL {i : Nat} {r : List (Nat × Bool)} {a A a' : Act} {o : Oper} {v : Value} (ho : ops[i]? = some o) (hw : Region.wanted o (yielded ops a.tmps) = true) (hy : ∀ w, S w → (execOp a.eval o).run P w = .ok (.value v) w)
    (ha : a' = a.put o.dst v) (hr : YieldAll P ops S r a' A) : YieldAll P ops S ((i, true) :: r) a A := ⟨o, v, a', ho, .inl ⟨hw, hy⟩, ha, hr⟩
theorem yieldP {i : Nat} {r : List (Nat × Bool)} {a A a' : Act} {o : Oper} {v : Value} (ho : ops[i]? = some o) (hw : Region.wanted o (yielded ops a.tmps) = true) (hy : ∀ w : World, (execOp a.eval o).run P w = .ok (.value v) w)
    (ha : a' = a.put o.dst v) (hr : YieldAll P ops S r a' A) : YieldAll P ops S ((i, false) :: r) a A := ⟨o, v, a', ho, .inl ⟨hw, fun w _ => hy w⟩, ha, hr⟩
/-- An operation whose guard says no. -/
theorem yieldN {i : Nat} {r : List (Nat × Bool)} {a A a' : Act} {o : Oper} {b : Bool} (ho : ops[i]? = some o) (hw : Region.wanted o (yielded ops a.tmps) = false)
    (ha : a' = a.put o.dst undef) (hr : YieldAll P ops S r a' A) : YieldAll P ops S ((i, b) :: r) a A := by
  cases b
  · exact ⟨o, undef, a', ho, .inr ⟨hw, rfl⟩, ha, hr⟩
  · exact ⟨o, undef, a', ho, .inr ⟨hw, rfl⟩, ha, hr⟩

def blkOK (n N : Nat) (listed : Array Bool) : Bool := (List.range n).all fun k => decide (k < N) || !listed.getD k false
theorem blkOK_spec {N : Nat} {listed : Array Bool} (h : blkOK listed.size N listed = true) : ∀ k, N ≤ k → listed.getD k false = false := by
  intro k hk
  rcases Nat.lt_or_ge k listed.size with hl | hl
  · simp only [blkOK, List.all_eq_true, List.mem_range, Bool.or_eq_true, decide_eq_true_eq] at h
    rcases h k hl with h | h
    · omega
    · simpa using h
  · simp [Array.getElem?_eq_none hl]

def takesOK (md : Region.Mode) (ops : Array Oper) (N : Nat) : List (Nat × Bool) → Array Bool → Bool
  | [], _ => true
  | (i, true) :: r, listed => (blkOK listed.size N listed && freeM md ops N listed i) && ((Region.ready md ops listed).contains i && takesOK md ops N r (listed.setIfInBounds i true))
  | (i, false) :: r, listed => Region.free md ops listed i && ((Region.ready md ops listed).contains i && takesOK md ops N r (listed.setIfInBounds i true))

/-- What is listed behind a list of operations. -/
def listAll : List (Nat × Bool) → Array Bool → Array Bool
  | [], l => l
  | i :: r, l => listAll r (l.setIfInBounds i.1 true)

theorem wpAnyM_takes {N : Nat} (hs : Region.noSelect ops = true) (hQ : ∀ c a (d : Option Tmp) v w, Q (.panic c) (a.put d v) w → Q (.panic c) a w) :
    ∀ (l : List (Nat × Bool)) {fuel : Nat} {listed : Array Bool} {a A : Act} {w : World}, takesOK md ops N l listed = true → YieldAll P ops S l a A → S w →
      wpAnyM P md ops Q S N fuel (listAll l listed) A w → wpAnyM P md ops Q S N (fuel + l.length) listed a w
  | [], _, _, _, _, _, _, hy, _, h => by cases hy; exact h
  | (i, true) :: r, fuel, listed, a, A, w, hok, hy, hS, h => by
    obtain ⟨o, v, a', ho, hyi, rfl, hyr⟩ := hy
    simp only [takesOK, Bool.and_eq_true] at hok
    exact wpAnyM_first ho (Region.noSelect_spec hs) (fun c a w => hQ c a o.dst v w) (fuel + r.length) listed a w (blkOK_spec hok.1.1) (fun j oj hj hne hun hno => freeM_spec ho hok.1.2 j oj hj hne hun hno) (by simpa using hok.2.1) hyi hS
      (wpAnyM_takes hs hQ r hok.2.2 hyr hS h)
  | (i, false) :: r, fuel, listed, a, A, w, hok, hy, hS, h => by
    obtain ⟨o, v, a', ho, hyi, rfl, hyr⟩ := hy
    simp only [takesOK, Bool.and_eq_true] at hok
    exact wpAnyM_firstP ho (Region.noSelect_spec hs) (fun c a w => hQ c a o.dst v w) (fuel + r.length) listed a w (Region.free_spec ho hok.1) (by simpa using hok.2.1) hyi
      (wpAnyM_takes hs hQ r hok.2.2 hyr hS h)

theorem wpAnyM_take {N : Nat} (hs : Region.noSelect ops = true) (hQ : ∀ c a (d : Option Tmp) v w, Q (.panic c) (a.put d v) w → Q (.panic c) a w)
    (l : List (Nat × Bool)) {fuel : Nat} {listed : Array Bool} {a : Act} {w : World} (hok : takesOK md ops N l listed = true) (h : ∃ A, YieldAll P ops S l a A ∧ S w ∧ wpAnyM P md ops Q S N fuel (listAll l listed) A w) :
    wpAnyM P md ops Q S N (fuel + l.length) listed a w := by
  obtain ⟨A, hy, hS, h⟩ := h
  exact wpAnyM_takes hs hQ l hok hy hS h

/-- The operations that are left come up in one order. -/
def forced (md : Region.Mode) (ops : Array Oper) : List Nat → Array Bool → Bool
  | [], listed => Region.ready md ops listed == []
  | i :: r, listed => Region.ready md ops listed == [i] && (ops[i]?).isSome && forced md ops r (listed.setIfInBounds i true)

theorem wpAny_list : ∀ (l : List Nat) {fuel : Nat} {listed : Array Bool} {a : Act} {w : World}, forced md ops l listed = true → wpList P ops Q (l.filterMap (ops[·]?)) a w → wpAny P md ops Q (fuel + l.length) listed a w
  | [], fuel, _, _, _, hf, h => by
    simp only [forced, beq_iff_eq] at hf
    exact wpAny_done hf h _
  | i :: r, fuel, listed, a, w, hf, h => by
    simp only [forced, Bool.and_eq_true, beq_iff_eq] at hf
    obtain ⟨o, ho⟩ := Option.isSome_iff_exists.1 hf.1.2
    refine ⟨fun h0 => (by rw [hf.1.1] at h0; cases h0), fun j hj => ?_⟩
    rw [hf.1.1] at hj
    obtain rfl : j = i := by simpa using hj
    simp only [List.filterMap_cons, ho] at h
    unfold wpList at h
    unfold wpOp
    simp only [ho]
    by_cases hw : Region.wanted o (yielded ops a.tmps) = true
    · rw [if_pos hw] at h ⊢
      exact h.imp (Oper.wp_mono fun a' w' h' => wpAny_list r hf.2 h') id
    · rw [if_neg hw] at h ⊢
      exact wpAny_list r hf.2 h

/-- One operation, the only one that may come up, ahead of number N: S anew behind it. -/
theorem wpAnyM_one {N i : Nat} {o : Oper} {fuel : Nat} {listed : Array Bool} {a : Act} {w : World} (hr : Region.ready md ops listed = [i]) (ho : ops[i]? = some o)
    (h : ∀ K : Act → World → Prop, (∀ a' w', S w' → wpAnyM P md ops Q S N fuel (listed.setIfInBounds i true) a' w' → K a' w') → wpList P ops (Exit.then K Q) [o] a w) : wpAnyM P md ops Q S N (fuel + 1) listed a w := by
  refine ⟨fun h0 => (by rw [hr] at h0; cases h0), fun j hj => ?_⟩
  rw [hr] at hj
  obtain rfl : j = i := by simpa using hj
  have h := h (fun a' w' => (j < N → S w → S w') ∧ wpAnyM P md ops Q S N fuel (listed.setIfInBounds j true) a' w') (fun a' w' h1 h2 => ⟨fun _ _ => h1, h2⟩)
  unfold wpList at h
  unfold wpOp
  simp only [ho]
  by_cases hw : Region.wanted o (yielded ops a.tmps) = true
  · rw [if_pos hw] at h ⊢
    rcases h with h | ⟨h1, h2⟩
    · refine .inl ?_
      unfold Oper.wp at h ⊢
      generalize (execOp a.eval o).run P w = r at h ⊢
      cases r with
      | ok n w' =>
        cases n <;> simp only [Oper.upon, wpList, Exit.then] at h ⊢
        case value => exact h
        case skip => exact h
        case defer => exact h
        case enter =>
          refine Calls.mono h fun e w'' he => ?_
          cases e with
          | returned v => exact he
          | panicked c => exact he
          | outgrown => exact he
        case row => exact h
      | halt x w' => cases x <;> simp only [Oper.upon, Exit.then] at h ⊢ <;> exact h
    · exact .inr ⟨h1, h2⟩
  · rw [if_neg hw] at h ⊢
    exact h

theorem wpAnyM_done {N : Nat} {listed : Array Bool} {a : Act} {w : World} (hr : Region.ready md ops listed = []) (h : Q .normal a w) :
    ∀ fuel, wpAnyM P md ops Q S N fuel listed a w
  | 0 => ⟨hr, h⟩
  | _ + 1 => ⟨fun _ => h, by rw [hr]; simp⟩

theorem panic_put {R : Ending → World → Prop} {fn : Func} {K : Act → World → Prop} : ∀ c a (d : Option Tmp) v w, (Exit.then K (bodyPost P fn R)) (.panic c) (a.put d v) w → (Exit.then K (bodyPost P fn R)) (.panic c) a w := by
  intro c a d v w h
  cases d <;> exact h

theorem wp_region_M (S : World → Prop) (N : Nat) {id : Nat} {a : Act} {w : World} (hm : P.follows .mixedOrders = true)
    (h : wpAnyM P .any ops Q S N ops.size (Array.replicate ops.size false) a w.drew) : (Code.region id ops true).wp P Q a w :=
  wp_region_any hm (wpAny_of_M _ _ _ _ h)
end
end Go.Av
