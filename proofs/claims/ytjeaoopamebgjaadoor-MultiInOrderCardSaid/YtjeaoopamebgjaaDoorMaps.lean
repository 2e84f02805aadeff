/-
  Maps as lists of pairs, in the order of their entries: look-up, store, delete, range; and append at the operation.
-/
import Derived.Test.YtjeaoopamebgjaaDoorBase
namespace Go.Av
open Go.RowKit Go.MapKept Go.ChangeMaps

def kv (e : MapEntry) : Value × Value := (e.key, e.val)

/-- Block m is a map whose entries are l; its keys are of the kind d. -/
def MapIs (w : World) (d : TypeDesc) (m : Nat) (l : List (Value × Value)) : Prop :=
  ∃ es clock, w.heap[m]? = some (.map es clock) ∧ Stamped es clock ∧ (∀ e ∈ es.toList, IsKey d e.key) ∧ es.toList.map kv = l

theorem MapIs.frame {w w' : World} {d : TypeDesc} {m : Nat} {l : List (Value × Value)} (h : MapIs w d m l) (hs : w'.heap[m]? = w.heap[m]?) : MapIs w' d m l := by
  obtain ⟨es, clock, h1, h2⟩ := h
  exact ⟨es, clock, hs.trans h1, h2⟩
theorem MapIs.lt {w : World} {d : TypeDesc} {m : Nat} {l : List (Value × Value)} (h : MapIs w d m l) : m < w.heap.size := by
  obtain ⟨es, clock, h1, h2⟩ := h
  exact lt_of_heap h1
theorem MapIs.made (w : World) (d : TypeDesc) : MapIs (w.alloc (.map #[] 0)) d w.heap.size [] := ⟨#[], 0, heap_alloc_new w _, stamped_empty 0, by simp, rfl⟩
theorem MapIs.nodup {w : World} {d : TypeDesc} {m : Nat} {l : List (Value × Value)} (h : MapIs w d m l) : (l.map (·.1)).Nodup := by
  obtain ⟨es, clock, h1, ⟨_, _, h3⟩, _, rfl⟩ := h
  simpa [kv, Function.comp_def] using h3
theorem MapIs.keys {w : World} {d : TypeDesc} {m : Nat} {l : List (Value × Value)} (h : MapIs w d m l) : ∀ p ∈ l, IsKey d p.1 := by
  obtain ⟨es, clock, h1, _, h3, rfl⟩ := h
  intro p hp
  obtain ⟨e, he, rfl⟩ := List.mem_map.1 hp
  exact h3 e he

section
variable {P : Program} {w : World} {d : TypeDesc} {m : Nat} {l : List (Value × Value)} {t k e : TypeId}

theorem mp_len (h : MapIs w d m l) (ht : P.underlying t = some (.map k e)) (ty : TypeId) : (Builtin.len_ #[t] ty #[.map (some m)]).run P w = .ok (.int .i64 l.length) w := by
  obtain ⟨es, clock, h1, _, _, rfl⟩ := h
  simp [Builtin.len_, run_underlying ht, MapKept.run_getObj_map h1, Result.andThen, goInt]

theorem nodup_inj {α β : Type} {f : α → β} : ∀ {l : List α} (_ : (l.map f).Nodup) {x y : α}, x ∈ l → y ∈ l → f x = f y → x = y
  | z :: l, h, x, y, hx, hy, he => by
    simp only [List.map_cons, List.nodup_cons, List.mem_map, not_exists, not_and] at h
    rcases List.mem_cons.1 hx with e1 | hx <;> rcases List.mem_cons.1 hy with e2 | hy
    · rw [e1, e2]
    · exact absurd (by rw [← he, e1]) (h.1 y hy)
    · exact absurd (by rw [he, e2]) (h.1 x hx)
    · exact nodup_inj h.2 hx hy he

theorem mp_look (h : MapIs w d m l) (ht : P.underlying t = some (.map k e)) (hd : P.underlying k = some d) {key v : Value} (hk : IsKey d key) (hm : (key, v) ∈ l) (ok : Bool) :
    (Instr.lookup t (.map (some m)) key ok).run P w = .ok (if ok then .tuple #[v, .bool true] else v) w := by
  obtain ⟨es, clock, h1, ⟨_, _, h3⟩, h4, rfl⟩ := h
  obtain ⟨e0, he, heq⟩ := List.mem_map.1 hm
  simp only [kv, Prod.mk.injEq] at heq
  obtain ⟨hek, hev⟩ := heq
  rcases findNow_spec hk es.toList 0 h4 with ⟨a1, a2⟩ | ⟨j, e', a1, a2, a3⟩
  · exact absurd hek (a2 e0 he)
  · have : e' = e0 := by
      have hin : e' ∈ es.toList := List.mem_of_getElem? a2
      exact nodup_inj h3 hin he (a3.trans hek.symm)
    subst this
    cases ok <;> simp [Instr.lookup, run_underlying ht, MapKept.run_getObj_map h1, run_checkKey hd hk, run_findKey hd a1, Result.andThen, hev]

theorem mp_lookN (h : MapIs w d m l) (ht : P.underlying t = some (.map k e)) (hd : P.underlying k = some d) {key z : Value} (hk : IsKey d key) (hm : ∀ p ∈ l, p.1 ≠ key) (hz : (zeroValue e).run P w = .ok z w) (ok : Bool) :
    (Instr.lookup t (.map (some m)) key ok).run P w = .ok (if ok then .tuple #[z, .bool false] else z) w := by
  obtain ⟨es, clock, h1, ⟨_, _, h3⟩, h4, rfl⟩ := h
  rcases findNow_spec hk es.toList 0 h4 with ⟨a1, a2⟩ | ⟨j, e', a1, a2, a3⟩
  · cases ok <;> simp [Instr.lookup, run_underlying ht, MapKept.run_getObj_map h1, run_checkKey hd hk, run_findKey hd a1, Result.andThen, hz]
  · exact absurd a3 (hm (kv e') (List.mem_map.2 ⟨e', List.mem_of_getElem? a2, rfl⟩))

theorem upd_setBlock (w : World) (m : Nat) (o o' : Obj) (_h : w.heap[m]? = some o) : Upd w (setBlock w m o') [m] [m] :=
  ⟨rfl, rfl, rfl, by simp [setBlock], fun b _ hb => by simp at hb; simp [setBlock, Ne.symm hb], fun _ h => .inl h⟩

/-- A store at a key that is not there. -/
theorem mp_new (h : MapIs w d m l) (ht : P.underlying t = some (.map k e)) (hd : P.underlying k = some d) {key v : Value} (hk : IsKey d key) (hm : ∀ p ∈ l, p.1 ≠ key) :
    ∃ w', (Instr.mapUpdate t (.map (some m)) key v).run P w = .ok () w' ∧ MapIs w' d m (l ++ [(key, v)]) ∧ Upd w w' [m] [m] := by
  obtain ⟨es, clock, h1, h3, h4, rfl⟩ := h
  rcases findNow_spec hk es.toList 0 h4 with ⟨a1, a2⟩ | ⟨j, e', a1, a2, a3⟩
  · refine ⟨setBlock w m (.map (es.push { key, val := v, born := clock }) (clock + 1)), ?_, ⟨_, _, (heap_set h1).1, stamped_push h3 a2, ?_, by simp [kv]⟩, upd_setBlock w m _ _ h1⟩
    · simp [Instr.mapUpdate, run_underlying ht, MapKept.run_getObj_map h1, run_checkKey hd hk, run_findKey hd a1, MapKept.run_setObj_map _ h1, Result.andThen, setBlock]
    · intro x hx
      simp only [Array.toList_push, List.mem_append, List.mem_singleton] at hx
      rcases hx with hx | rfl
      · exact h4 x hx
      · exact hk
  · exact absurd a3 (hm (kv e') (List.mem_map.2 ⟨e', List.mem_of_getElem? a2, rfl⟩))

theorem toList_modify {α : Type} (a : Array α) (j : Nat) (f : α → α) : (a.modify j f).toList = a.toList.modify j f := by
  apply List.ext_getElem?
  intro i
  simp [List.getElem?_modify]

theorem split_at {α : Type} : ∀ {l : List α} {j : Nat} {x : α}, l[j]? = some x → l = l.take j ++ x :: l.drop (j + 1)
  | y :: l, 0, x, h => by simp at h; simp [h]
  | y :: l, j + 1, x, h => by simp at h; simpa using split_at h

theorem modify_at {α : Type} (f : α → α) : ∀ {l : List α} {j : Nat} {x : α}, l[j]? = some x → l.modify j f = l.take j ++ f x :: l.drop (j + 1)
  | y :: l, 0, x, h => by simp at h; simp [h]
  | y :: l, j + 1, x, h => by simp at h; simpa using modify_at f h

theorem eraseIdx_at {α : Type} : ∀ {l : List α} {j : Nat} {x : α}, l[j]? = some x → l.eraseIdx j = l.take j ++ l.drop (j + 1)
  | y :: l, 0, x, h => by simp
  | y :: l, j + 1, x, h => by simp at h; simpa using eraseIdx_at h

/-- Two ways to part a list at a key that occurs once. -/
theorem parts_eq {l1 l2 a1 a2 : List (Value × Value)} {key v v' : Value} (hn : ((l1 ++ (key, v) :: l2).map (·.1)).Nodup) (h : l1 ++ (key, v) :: l2 = a1 ++ (key, v') :: a2) : l1 = a1 ∧ v = v' ∧ l2 = a2 := by
  induction l1 generalizing a1 with
  | nil =>
    cases a1 with
    | nil => simp at h; exact ⟨rfl, h.1, h.2⟩
    | cons x a1 =>
      simp only [List.nil_append, List.cons_append, List.cons.injEq] at h
      obtain ⟨rfl, rfl⟩ := h
      simp at hn
  | cons y l1 ih =>
    cases a1 with
    | nil =>
      simp only [List.nil_append, List.cons_append, List.cons.injEq] at h
      obtain ⟨rfl, rfl⟩ := h
      simp at hn
    | cons x a1 =>
      simp only [List.cons_append, List.cons.injEq] at h
      obtain ⟨rfl, h⟩ := h
      simp only [List.cons_append, List.map_cons, List.nodup_cons] at hn
      obtain ⟨r1, r2, r3⟩ := ih hn.2 h
      exact ⟨by rw [r1], r2, r3⟩

/-- A store at a key that is there. -/
theorem mp_old {l1 l2 : List (Value × Value)} {key v0 v : Value} (h : MapIs w d m (l1 ++ (key, v0) :: l2)) (ht : P.underlying t = some (.map k e)) (hd : P.underlying k = some d) (hk : IsKey d key) :
    ∃ w', (Instr.mapUpdate t (.map (some m)) key v).run P w = .ok () w' ∧ MapIs w' d m (l1 ++ (key, v) :: l2) ∧ Upd w w' [m] [m] := by
  have hnd := h.nodup
  obtain ⟨es, clock, h1, h3, h4, hl⟩ := h
  rcases findNow_spec hk es.toList 0 h4 with ⟨a1, a2⟩ | ⟨j, e', a1, a2, a3⟩
  · exfalso
    have hm : (key, v0) ∈ es.toList.map kv := by rw [hl]; simp
    obtain ⟨e', he', heq⟩ := List.mem_map.1 hm
    exact a2 e' he' (congrArg Prod.fst heq)
  · have hj : es[j]? = some e' := by simpa using a2
    have hkey : ∀ e'', es[j]? = some e'' → ({ e'' with key := key, val := v } : MapEntry).key = e''.key := fun e'' he' => by rw [hj] at he'; cases he'; exact a3.symm
    refine ⟨setBlock w m (.map (es.modify j fun e => { e with key := key, val := v }) clock), ?_, ⟨_, _, (heap_set h1).1, stamped_modify h3 _ _ (fun _ _ => rfl) (fun e' _ he' => hkey e' he'), isKey_modify h4 _ _ hkey, ?_⟩, upd_setBlock w m _ _ h1⟩
    · simp [Instr.mapUpdate, run_underlying ht, MapKept.run_getObj_map h1, run_checkKey hd hk, run_findKey hd a1, hj, a3, run_keyThatStays hk, MapKept.run_setObj_map _ h1, Result.andThen, setBlock]
    · have hs := split_at a2
      have hsp : l1 ++ (key, v0) :: l2 = (es.toList.take j).map kv ++ (key, e'.val) :: (es.toList.drop (j + 1)).map kv := by
        rw [← hl]
        conv => lhs; rw [hs]
        simp [kv, a3]
      obtain ⟨r1, _, r3⟩ := parts_eq hnd hsp
      rw [toList_modify, modify_at _ a2, List.map_append, List.map_cons, r1, r3]
      rfl

theorem mp_del {l1 l2 : List (Value × Value)} {key v0 : Value} (h : MapIs w d m (l1 ++ (key, v0) :: l2)) (ht : P.underlying t = some (.map k e)) (hd : P.underlying k = some d) (hk : IsKey d key) (tk ty : TypeId) :
    ∃ w', (Builtin.delete_ #[t, tk] ty #[.map (some m), key]).run P w = .ok (.tuple #[]) w' ∧ MapIs w' d m (l1 ++ l2) ∧ Upd w w' [m] [m] := by
  have hnd := h.nodup
  obtain ⟨es, clock, h1, h3, h4, hl⟩ := h
  rcases findNow_spec hk es.toList 0 h4 with ⟨a1, a2⟩ | ⟨j, e', a1, a2, a3⟩
  · exfalso
    have hm : (key, v0) ∈ es.toList.map kv := by rw [hl]; simp
    obtain ⟨e', he', heq⟩ := List.mem_map.1 hm
    exact a2 e' he' (congrArg Prod.fst heq)
  · have hjs : j < es.size := by
      have := (List.getElem?_eq_some_iff.1 a2).1
      simpa using this
    have hlist : (es.eraseIdxIfInBounds j).toList = es.toList.take j ++ es.toList.drop (j + 1) := by
      rw [Array.eraseIdxIfInBounds, dif_pos hjs, Array.toList_eraseIdx, eraseIdx_at a2]
    refine ⟨setBlock w m (.map (es.eraseIdxIfInBounds j) clock), ?_, ⟨_, _, (heap_set h1).1, stamped_erase h3 _, ?_, ?_⟩, upd_setBlock w m _ _ h1⟩
    · simp [Builtin.delete_, run_underlying ht, MapKept.run_getObj_map h1, run_checkKey hd hk, run_findKey hd a1, MapKept.run_setObj_map _ h1, Result.andThen, setBlock]
    · intro x hx
      rw [hlist] at hx
      refine h4 x ?_
      rcases List.mem_append.1 hx with hx | hx
      · exact List.mem_of_mem_take hx
      · exact List.mem_of_mem_drop hx
    · have hs := split_at a2
      have hsp : l1 ++ (key, v0) :: l2 = (es.toList.take j).map kv ++ (key, e'.val) :: (es.toList.drop (j + 1)).map kv := by
        rw [← hl]
        conv => lhs; rw [hs]
        simp [kv, a3]
      obtain ⟨r1, _, r3⟩ := parts_eq hnd hsp
      rw [hlist, List.map_append, r1, r3]

theorem mp_delN (h : MapIs w d m l) (ht : P.underlying t = some (.map k e)) (hd : P.underlying k = some d) {key : Value} (hk : IsKey d key) (hm : ∀ p ∈ l, p.1 ≠ key) (tk ty : TypeId) :
    ∃ w', (Builtin.delete_ #[t, tk] ty #[.map (some m), key]).run P w = .ok (.tuple #[]) w' ∧ MapIs w' d m l ∧ Upd w w' [m] [m] := by
  obtain ⟨es, clock, h1, h3, h4, rfl⟩ := h
  rcases findNow_spec hk es.toList 0 h4 with ⟨a1, a2⟩ | ⟨j, e', a1, a2, a3⟩
  · refine ⟨setBlock w m (.map es clock), ?_, ⟨_, _, (heap_set h1).1, h3, h4, rfl⟩, upd_setBlock w m _ _ h1⟩
    simp [Builtin.delete_, run_underlying ht, MapKept.run_getObj_map h1, run_checkKey hd hk, run_findKey hd a1, MapKept.run_setObj_map _ h1, Result.andThen, setBlock]
  · exact absurd a3 (hm (kv e') (List.mem_map.2 ⟨e', List.mem_of_getElem? a2, rfl⟩))

/-! ### range over a map that is not written meanwhile -/
/-- Block r is an iterator over the map m, whose entries are l; 'left' are still to come. -/
def RangeIs (w : World) (d : TypeDesc) (m r : Nat) (l left : List (Value × Value)) : Prop :=
  ∃ es clock seen, w.heap[m]? = some (.map es clock) ∧ Stamped es clock ∧ (∀ e ∈ es.toList, IsKey d e.key) ∧ es.toList.map kv = l ∧
    w.heap[r]? = some (.mapIter (some m) clock seen clock) ∧ (leftOf es seen).toList.map kv = left

theorem RangeIs.frame {w w' : World} {d : TypeDesc} {m r : Nat} {l left : List (Value × Value)} (h : RangeIs w d m r l left) (h1 : w'.heap[m]? = w.heap[m]?) (h2 : w'.heap[r]? = w.heap[r]?) : RangeIs w' d m r l left := by
  obtain ⟨es, clock, seen, a1, a2, a3, a4, a5, a6⟩ := h
  exact ⟨es, clock, seen, h1.trans a1, a2, a3, a4, h2.trans a5, a6⟩

theorem mp_range (h : MapIs w d m l) (ht : P.underlying t = some (.map k e)) :
    ∃ o, (Instr.range t (.map (some m))).run P w = .ok (.pointer (some ⟨w.heap.size, 0, none⟩)) (w.alloc o) ∧ RangeIs (w.alloc o) d m w.heap.size l l := by
  have hlt := h.lt
  obtain ⟨es, clock, h1, h3, h4, rfl⟩ := h
  refine ⟨.mapIter (some m) clock #[] clock, ?_, es, clock, #[], ?_, h3, h4, rfl, heap_alloc_new w _, ?_⟩
  · simp [Instr.range, run_underlying ht, MapKept.run_getObj_map h1, Result.andThen, newObj, Sem.run]
  · rw [Below.heap_alloc _ _ _ hlt]; exact h1
  · simp only [leftOf, Array.toList_filter]
    rw [List.filter_eq_self.2 (by simp)]

theorem sublist_filter_ne {es : List MapEntry} {e : MapEntry} (hn : (es.map (·.born)).Nodup) {p : MapEntry → Bool} (he : e ∈ es.filter p) : ∃ l1 l2, es.filter p = l1 ++ e :: l2 ∧ es.filter (fun x => p x && !(x.born == e.born)) = l1 ++ l2 := by
  obtain ⟨l1, l2, hs⟩ := List.append_of_mem he
  refine ⟨l1, l2, hs, ?_⟩
  have e0 : es.filter (fun x => p x && !(x.born == e.born)) = (es.filter p).filter (fun x => !(x.born == e.born)) := by
    rw [List.filter_filter]
    congr 1
    funext x
    exact Bool.and_comm _ _
  rw [e0]
  have hn' : ((es.filter p).map (·.born)).Nodup := (List.filter_sublist.map _).nodup hn
  have : List.filter (fun x => !(x.born == e.born)) (es.filter p) = l1 ++ l2 := by
    rw [hs] at hn' ⊢
    simp only [List.map_append, List.map_cons, List.nodup_append, List.nodup_cons, List.mem_map, List.mem_cons] at hn'
    rw [List.filter_append, List.filter_cons]
    simp only [beq_self_eq_true, Bool.not_true, Bool.false_eq_true, if_false]
    congr 1
    · refine List.filter_eq_self.2 (fun x hx => ?_)
      simp only [Bool.not_eq_true', beq_eq_false_iff_ne]
      exact hn'.2.2 _ ⟨x, hx, rfl⟩ _ (.inl rfl)
    · refine List.filter_eq_self.2 (fun x hx => ?_)
      simp only [Bool.not_eq_true', beq_eq_false_iff_ne]
      exact fun h => hn'.2.1.1 ⟨x, hx, h⟩
  exact this

/-- A step: nothing is left; or one that is left comes, whichever. -/
theorem mp_next0 {left : List (Value × Value)} {r : Nat} (h : RangeIs w d m r l left) (hne : m ≠ r) (ty : TypeId) :
    (left = [] ∧ (Instr.next (.pointer (some ⟨r, 0, none⟩)) false ty).run P w = .ok (.tuple #[.bool false]) w) ∨
    ∃ l1 key v l2 w', left = l1 ++ (key, v) :: l2 ∧ (key, v) ∈ l ∧ IsKey d key ∧ (Instr.next (.pointer (some ⟨r, 0, none⟩)) false ty).run P w = .ok (.tuple #[.bool true, key, v]) w' ∧ RangeIs w' d m r l (l1 ++ l2) ∧ Upd w w' [r] [r] ∧
      ∀ W : World, W.heap[m]? = w'.heap[m]? → W.heap[r]? = w'.heap[r]? → (Instr.entry (.pointer (some ⟨r, 0, none⟩))).run P W = .ok (.tuple #[key, v]) W := by
  obtain ⟨es, clock, seen, a1, a2, a3, rfl, a5, rfl⟩ := h
  rcases run_next_at (P := P) w ty r m clock clock seen es clock a5 a1 (fun x hx => a2.1 x hx) (Nat.le_refl _) with ⟨h0, hrun⟩ | ⟨e0, he, w1, hw1, hrun⟩
  · exact .inl ⟨by simp [Array.eq_empty_of_size_eq_zero h0], hrun⟩
  · refine .inr ?_
    obtain ⟨hin, _⟩ := mem_left he
    have hleft : (leftOf es seen).toList = es.toList.filter (fun e => !seen.contains e.born) := by simp [leftOf]
    obtain ⟨l1, l2, hs, hs2⟩ := sublist_filter_ne a2.2.1 (by rw [hleft] at he; exact he)
    have hw : ∀ b, (setBlock w1 r (.mapIter (some m) clock (seen.push e0.born) clock)).heap[b]? = if b = r then some (.mapIter (some m) clock (seen.push e0.born) clock) else w.heap[b]? := by
      intro b
      have hlt := lt_of_heap a5
      have hh : w1.heap = w.heap := by rcases hw1 with rfl | rfl <;> rfl
      by_cases hb : b = r
      · subst hb; simp [setBlock, hh, hlt]
      · simp [setBlock, hh, Ne.symm hb, hb]
    have hu : Upd w (setBlock w1 r (.mapIter (some m) clock (seen.push e0.born) clock)) [r] [r] := by
      rcases hw1 with rfl | rfl <;> exact ⟨rfl, rfl, rfl, by simp [setBlock], fun b _ hb => by rw [hw, if_neg (by simpa using hb)], fun _ h => .inl h⟩
    refine ⟨l1.map kv, e0.key, e0.val, l2.map kv, _, by rw [hleft, hs]; simp [kv], List.mem_map.2 ⟨e0, hin, rfl⟩, a3 e0 hin, hrun, ⟨es, clock, seen.push e0.born, by rw [hw, if_neg hne]; exact a1, a2, a3, rfl, by rw [hw, if_pos rfl], ?_⟩, hu, ?_⟩
    · rw [← List.map_append, ← hs2]
      congr 1
      simp only [leftOf, Array.toList_filter]
      congr 1
      funext x
      rw [Bool.eq_iff_iff]
      simp only [Bool.and_eq_true, Bool.not_eq_true', Array.contains_eq_mem, decide_eq_false_iff_not, Array.mem_push, beq_eq_false_iff_ne, not_or, ne_eq]
    · intro W hm hr
      refine run_entry_at W r m clock seen es clock e0 ?_ ?_ hin a2.2.1
      · rw [hr, hw, if_pos rfl]
      · rw [hm, hw, if_neg hne]; exact a1
end

/-- A step, where the entries are those of a list of another make. -/
theorem mp_next {P : Program} {w : World} {d : TypeDesc} {m : Nat} {l : List (Value × Value)} {α : Type} (ent : α → Value × Value) {left : List α} {r : Nat} (h : RangeIs w d m r l (left.map ent)) (hne : m ≠ r) :
    (left = [] ∧ ∀ ty, (Instr.next (.pointer (some ⟨r, 0, none⟩)) false ty).run P w = .ok (.tuple #[.bool false]) w) ∨
    ∃ l1 g l2 w', left = l1 ++ g :: l2 ∧ (∀ ty, (Instr.next (.pointer (some ⟨r, 0, none⟩)) false ty).run P w = .ok (.tuple #[.bool true, (ent g).1, (ent g).2]) w') ∧ RangeIs w' d m r l ((l1 ++ l2).map ent) ∧ Upd w w' [r] [r] ∧
      (Instr.entry (.pointer (some ⟨r, 0, none⟩))).run P w' = .ok (.tuple #[(ent g).1, (ent g).2]) w' := by
  rcases mp_next0 (P := P) h hne 0 with ⟨h0, hr⟩ | ⟨l1, key, v, l2, w', hl, _, _, hr, h1, h2, h3⟩
  · exact .inl ⟨by simpa using h0, fun _ => hr⟩
  · obtain ⟨a1, a2, rfl, e1, e2⟩ := List.map_eq_append_iff.1 hl
    obtain ⟨g, a3, rfl, e3, e4⟩ := List.map_eq_cons_iff.1 e2
    refine .inr ⟨a1, g, a3, w', rfl, ?_, ?_, h2, ?_⟩
    · rw [e3]; exact fun _ => hr
    · rw [List.map_append, e1, e4]; exact h1
    · rw [e3]; exact h3 w' rfl rfl

/-- append at the operation, onto a row that is owned. -/
theorem wpList_app {P : Program} {w : World} {ops : Array Oper} {rest : List Oper} {o : Oper} {a : Act} {Q : Exit → Act → World → Prop} (hgd : o.guard = none) (s x : Operand) (t tx : TypeId)
    (ho : o.op = .call { callee := .builtin .append, args := #[s, x], argTypes := #[t, tx] }) (size : Nat) (v : Value) (xs : List Value) (D : List Nat) (hs : a.eval s = v) (hown : OwnRow w size v xs D)
    (e : TypeId) (i : TypeInfo) (z : Value) (ht : P.underlying t = some (.slice e)) (hi : P.info? e = some i) (hz : i.zero = some z) (hsize : i.size = size) (hzs : z.cells.size = size)
    (xv : Value) (m : Nat) (news : List Value) (hx : a.eval x = xv) (hsrc : Src P size tx xv m news w)
    (hb : ∀ n, xs.length = n * size → n + m ≤ 140737488355328 ∧ (n + m) * i.bytes ≤ 140737488355328)
    (h : ∀ a' n' c' w' D', OwnRow w' size (.slice a' n' c') (xs ++ news) D' → Upd w w' D D' → wpList P ops Q rest (a.put o.dst (.slice a' n' c')) w') : wpList P ops Q (o :: rest) a w := by
  refine wpList_plain hgd fun K hK => ?_
  obtain ⟨v', w', D', hrun, h1, h2⟩ := run_app (P := P) hown t tx o.type e i z ht hi hz hsize hzs hsrc hb
  obtain ⟨a', n', c', rfl, _⟩ := h1.len
  unfold Oper.wp
  simp [execOp, ho, resolve, invoke, builtin, hs, hx, hrun, Result.andThen]
  exact hK _ _ (h a' n' c' w' D' h1 h2)


/-- s[:k]. -/
theorem run_slice_hi {P : Program} {t e : TypeId} {i : TypeInfo} (ht : P.underlying t = some (.slice e)) (hi : P.info? e = some i) (a : Option Addr) (n c k : Nat) (hk : k ≤ c) (W : World) :
    (Instr.slice t (.slice a n c) none (some (.int .i64 (k : Int))) none).run P W = .ok (.slice a k c) W := by
  cases a <;> simp [Instr.slice, run_underlying ht, Instr.sliceBounds, Instr.sliceBound, asIntOf, hk, sizeOf, typeInfo, hi, Result.andThen, Addr.add]

theorem OwnRow.take {w : World} {size : Nat} {a : Option Addr} {n c : Nat} {xs : List Value} {D : List Nat} (h : OwnRow w size (.slice a n c) xs D) {k : Nat} (hk : k ≤ n) : OwnRow w size (.slice a k c) (xs.take (k * size)) D ∧ k ≤ c := by
  obtain ⟨a', n', c', hv, hl, hn, hc, ha, hr⟩ := h
  cases hv
  have hle : k * size ≤ n * size := Nat.mul_le_mul_right _ hk
  refine ⟨⟨a, k, c, rfl, by rw [List.length_take, hl]; omega, by omega, hc, ha, ?_⟩, by omega⟩
  rcases hr with hr | ⟨g, off, cur, T, h1, h2, h3, h4, h5⟩
  · exact .inl hr
  · exact .inr ⟨g, off, cur, T, h1, h2, h3, h4, by rw [← h5, List.take_take]; congr 1; omega⟩
/-- string(b). -/
theorem conv_str {P : Program} {src dst e : TypeId} (hs : P.underlying src = some (.slice e)) (he : P.underlying e = some (.int .u8)) (hd : P.underlying dst = some .string) {w : World} {v : Value} {l : List UInt8} {E : List Nat}
    (h : ReadRow w 1 v (l.map fun c => Value.int .u8 (c.toNat : Int)) E) (w' : World) (hw : ∀ b ∈ E, w'.heap[b]? = w.heap[b]?) : (convert src dst v).run P w' = .ok (.string ⟨l.toArray⟩) w' := by
  replace h := h.frame (w' := w') hw
  obtain ⟨a, n, c, rfl, hl, hn, hc, ha, hr⟩ := h
  cases a with
  | none =>
    have := ha rfl
    subst this
    obtain rfl : n = 0 := by omega
    have : l = [] := by simpa using hl
    subst this
    exact run_convert_bytes_nil w' src e hs he 0 0 dst hd
  | some x =>
    have hload : (loadCells x n).run P w' = .ok ((l.map fun c => (c.toNat : Int)).map (Value.int .u8)).toArray w' := by
      have := run_loadCells_list (P := P) w' x ((l.map fun c => (c.toNat : Int)).map (Value.int .u8)) (fun j v hj => by
        rcases hr with ⟨h0, _⟩ | ⟨g, off, hx, _, _, h4⟩
        · have : l = [] := by simpa using h0
          subst this
          simp at hj
        · cases hx
          rw [Addr.add_lit]
          exact h4 j v (by simpa using hj))
      simpa [show l.length = n by simpa using hl] using this
    rw [run_convert_bytes_string w' src dst e _ n c hs he hd, run_bytesToString w' _ n c _ hload, foldl_push_bytes]
    simp [ByteArray.empty, ByteArray.emptyWithCapacity, Function.comp_def]
    rfl

theorem bytes_cat (a b : List UInt8) : (⟨a.toArray⟩ : ByteArray) ++ ⟨b.toArray⟩ = ⟨(a ++ b).toArray⟩ := by
  apply ByteArray.ext
  simp

/-- What the walk is told of a slice of bytes that came in. -/
def IsBytes (w : World) (a : Option Addr) (len cap : Nat) (zs : List Int) : Prop :=
  (a = none ∧ len = 0 ∧ cap = 0 ∧ zs = []) ∨
  ∃ x, a = some x ∧ len ≤ cap ∧ cap ≤ maxLen ∧ zs.length = cap ∧ (∀ i, i < zs.length → w.cell? (x.add i) = some (.int .u8 (zs.getD i 0))) ∧ ∀ n ∈ zs, (Lit.int .u8 n).wf = true

theorem IsBytes.read {w : World} {a : Option Addr} {len cap : Nat} {zs : List Int} (h : IsBytes w a len cap zs) :
    ∃ (l : List UInt8) (E : List Nat), l.length = len ∧ ReadRow w 1 (.slice a len cap) (l.map fun c => Value.int .u8 (c.toNat : Int)) E := by
  rcases h with ⟨rfl, rfl, rfl, rfl⟩ | ⟨x, rfl, h1, h2, h3, h4, h5⟩
  · exact ⟨[], [], rfl, none, 0, 0, rfl, rfl, Nat.le_refl _, by decide, fun _ => rfl, .inl ⟨rfl, rfl⟩⟩
  · refine ⟨(zs.take len).map fun z => UInt8.ofNat z.toNat, if len = 0 then [] else [x.block], by simp; omega, some x, len, cap, rfl, by simp; omega, h1, h2, by simp, ?_⟩
    by_cases h0 : len = 0
    · subst h0; exact .inl ⟨by simp, by simp⟩
    · refine .inr ?_
      have hc0 := h4 0 (by omega)
      have hsp : x.spot = none := by
        cases hs : x.spot with
        | none => rfl
        | some _ =>
          have : x.add 0 = x := by simp [Addr.add]
          rw [this] at hc0
          unfold World.cell? at hc0
          split at hc0 <;> simp [hs] at hc0
      obtain ⟨b, o, sp⟩ := x
      simp only at hsp
      subst hsp
      refine ⟨b, o, rfl, by simp [h0], ?_, fun i u hu => ?_⟩
      · have := World.block_lt_of_cell? w _ hc0
        simpa [Addr.add_lit] using this
      · simp only [List.getElem?_map, List.getElem?_take, Option.map_eq_some_iff] at hu
        obtain ⟨c, ⟨z, hz, rfl⟩, rfl⟩ := hu
        split at hz
        · rename_i hi
          have hzl : i < zs.length := by omega
          have hg := h4 i hzl
          rw [Addr.add_lit] at hg
          rw [hg]
          have hzz : zs.getD i 0 = z := by
            simp [List.getD, hz]
          rw [hzz]
          have hwf := h5 z (List.mem_of_getElem? hz)
          have hb : 0 ≤ z ∧ z ≤ 255 := by
            simp [Lit.wf, IntKind.min, IntKind.max, IntKind.signed, IntKind.bits] at hwf
            omega
          simp
          omega
        · cases hz

theorem map_take' {α β : Type} (f : α → β) (l : List α) (k : Nat) : (l.map f).take k = (l.take k).map f := by rw [List.map_take]

end Go.Av
