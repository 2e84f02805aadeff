/-
  Maps' keys, as the library's contracts take them.
-/
import Derived.Test.YthphinlibhafcaaMaps
import Derived.Test.YthphinlibhafcaaSepC
import Derived.Sort.KeysCollected
import Derived.Lib.SlKeysI
namespace Go.Av
open Go.RowKit Go.Maps Go.Sort

def noRead : Value → Option (DataW Unit × List MemPlace) := fun _ => some (.nil, [])
theorem rg_str {P : Program} {k : TypeId} (hk : P.underlying k = some .string) (s : ByteArray) (hs : s.size ≤ maxLen) (e : MapEntry) (he : e.key = .string s) : WideElems.rd P k noRead e = some (.string s.data.toList, .nil) := by
  simp [WideElems.rd, he, keyOf, hk, mapKey, hs, noRead]

/-- A map of names, as the library's contracts take it. -/
theorem owns_names {P : Program} {w : World} {k : TypeId} {m : Nat} {l : List (ByteArray × Value)} (h : MapIs w .string m (l.map fun x => (.string x.1, x.2))) (hk : P.underlying k = some .string) (hn : l.length ≤ 1000000) (hs : ∀ x ∈ l, x.1.size ≤ maxLen) :
    ∃ D0 : DataW Unit, w.ownsMap P k noRead m l.length D0 ∧ size D0 = l.length ∧ (strKeys D0).Perm (l.map fun x => x.1.data.toList) := by
  obtain ⟨es, clock, h1, h2, h3, h4⟩ := h
  have hlen : es.size = l.length := by
    have := congrArg List.length h4
    simpa using this
  have hall : ∀ e ∈ es.toList, ∃ x ∈ l, e.key = .string x.1 := by
    intro e he
    have hm : kv e ∈ l.map fun x => (Value.string x.1, x.2) := by rw [← h4]; exact List.mem_map_of_mem he
    obtain ⟨x, hx, hxe⟩ := List.mem_map.1 hm
    exact ⟨x, hx, (congrArg Prod.fst hxe).symm⟩
  refine ⟨_, ⟨es, clock, h1, ⟨by rw [hlen]; unfold maxLen; omega, h2, fun e he => ?_⟩, by omega, rfl⟩, ?_, ?_⟩
  · obtain ⟨x, hx, hk'⟩ := hall e he
    exact ⟨_, rg_str hk x.1 (hs x hx) e hk'⟩
  · rw [size_eq, (WideShapes.sorted_perm _).length_eq]
    simpa using hlen
  · have e1 : (es.toList.map (WideElems.rg P k noRead)).map (fun p => strOf p.1) = l.map fun x => x.1.data.toList := by
      have e2 : es.toList.map (fun e => (kv e).1) = l.map fun x => Value.string x.1 := by
        have := congrArg (List.map Prod.fst) h4
        simpa [Function.comp_def] using this
      have e3 : es.toList.map (fun e => strOf (WideElems.rg P k noRead e).1) = (es.toList.map (fun e => (kv e).1)).map fun v => match v with | .string s => s.data.toList | _ => [] := by
        rw [List.map_map]
        refine List.map_congr_left fun e he => ?_
        obtain ⟨x, hx, hk'⟩ := hall e he
        have hke : (kv e).1 = .string x.1 := hk'
        simp [Function.comp, hke, WideElems.rg, rg_str hk x.1 (hs x hx) e hk', strOf]
      rw [List.map_map, Function.comp_def, e3, e2, List.map_map]
      rfl
    rw [← e1]
    exact (WideShapes.sorted_perm _).map _

theorem rg_int {P : Program} {k : TypeId} (hk : P.underlying k = some (.int .i64)) (x : Int) (hx : (Lit.int .i64 x).wf = true) (e : MapEntry) (he : e.key = .int .i64 x) : WideElems.rd P k noRead e = some (.int .i64 x, .nil) := by
  simp [WideElems.rd, he, keyOf, hk, mapKey, hx, noRead]
/-- A map of numbers, as the library's contracts take it. -/
theorem owns_ids {P : Program} {w : World} {k : TypeId} {m : Nat} {l : List (Int × Value)} (h : MapIs w (.int .i64) m (l.map fun x => (.int .i64 x.1, x.2))) (hk : P.underlying k = some (.int .i64)) (hn : l.length ≤ 1000000) (hs : ∀ x ∈ l, (Lit.int .i64 x.1).wf = true) :
    ∃ D0 : DataW Unit, w.ownsMap P k noRead m l.length D0 ∧ Maps.size D0 = l.length ∧ (intKeys D0).Perm (l.map fun x => x.1) := by
  obtain ⟨es, clock, h1, h2, h3, h4⟩ := h
  have hlen : es.size = l.length := by
    have := congrArg List.length h4
    simpa using this
  have hall : ∀ e ∈ es.toList, ∃ x ∈ l, e.key = .int .i64 x.1 := by
    intro e he
    have hm : kv e ∈ l.map fun x => (Value.int .i64 x.1, x.2) := by rw [← h4]; exact List.mem_map_of_mem he
    obtain ⟨x, hx, hxe⟩ := List.mem_map.1 hm
    exact ⟨x, hx, (congrArg Prod.fst hxe).symm⟩
  refine ⟨_, ⟨es, clock, h1, ⟨by rw [hlen]; unfold maxLen; omega, h2, fun e he => ?_⟩, by omega, rfl⟩, ?_, ?_⟩
  · obtain ⟨x, hx, hk'⟩ := hall e he
    exact ⟨_, rg_int hk x.1 (hs x hx) e hk'⟩
  · rw [size_eq, (WideShapes.sorted_perm _).length_eq]
    simpa using hlen
  · have e1 : (es.toList.map (WideElems.rg P k noRead)).map (fun p => Go.intOf p.1) = l.map fun x => x.1 := by
      have e2 : es.toList.map (fun e => (kv e).1) = l.map fun x => Value.int .i64 x.1 := by
        have := congrArg (List.map Prod.fst) h4
        simpa [Function.comp_def] using this
      have e3 : es.toList.map (fun e => Go.intOf (WideElems.rg P k noRead e).1) = (es.toList.map (fun e => (kv e).1)).map fun v => match v with | .int _ q => q | _ => 0 := by
        rw [List.map_map]
        refine List.map_congr_left fun e he => ?_
        obtain ⟨x, hx, hk'⟩ := hall e he
        have hke : (kv e).1 = .int .i64 x.1 := hk'
        simp [Function.comp, hke, WideElems.rg, rg_int hk x.1 (hs x hx) e hk', Go.intOf]
      rw [List.map_map, Function.comp_def, e3, e2, List.map_map]
      rfl
    rw [← e1]
    exact (WideShapes.sorted_perm _).map _
theorem own_of {w : World} {base : Nat} {e : TypeId} {v : Value} {n : Nat} {xs : List Value} (h : w.ownsRow base e 1 v n xs) : ∃ D, OwnRow w 1 v xs D ∧ ∀ b ∈ D, base ≤ b ∧ b < w.heap.size := by
  obtain ⟨hl, ⟨rfl, rfl⟩ | ⟨g, cap, cur, rfl, hg, hh, hn, hc, hs, hx⟩⟩ := h
  · obtain rfl : xs = [] := List.length_eq_zero_iff.1 (by omega)
    exact ⟨[], OwnRow.nil _ _, by simp⟩
  · exact ⟨[g], ⟨_, n, cap, rfl, hl, hn, hc, (fun h => by cases h), .inr ⟨g, 0, cur, e, rfl, rfl, hh, by omega, by simpa using hx⟩⟩, by simpa using ⟨hg, lt_of_heap hh⟩⟩

theorem read_own {w : World} {base : Nat} {e : TypeId} {v : Value} {n : Nat} {xs : List Value} (h : w.ownsRow base e 1 v n xs) : ∃ E, ReadRow w 1 v xs E ∧ ∀ b ∈ E, base ≤ b := by
  obtain ⟨hl, ⟨rfl, rfl⟩ | ⟨g, cap, cur, rfl, hg, hh, hn, hc, hs, hx⟩⟩ := h
  · obtain rfl : xs = [] := List.length_eq_zero_iff.1 (by omega)
    exact ⟨[], ⟨none, 0, 0, rfl, rfl, Nat.le_refl _, by decide, fun _ => rfl, .inl ⟨rfl, rfl⟩⟩, by simp⟩
  · refine ⟨[g], ⟨_, n, cap, rfl, hl, hn, hc, (fun h => by cases h), .inr ⟨g, 0, rfl, rfl, lt_of_heap hh, fun i x hi => ?_⟩⟩, by simpa using hg⟩
    rw [cell_of_row w g (0 + i) cur e _ hh, ← hx] at *
    rw [List.getElem?_take] at hi
    split at hi
    · simpa using hi
    · cases hi

theorem wf_i64 {n : Int} (h1 : -9223372036854775808 ≤ n) (h2 : n ≤ 9223372036854775807) : (Lit.int .i64 n).wf = true := by
  have e1 : IntKind.i64.min = -9223372036854775808 := by decide
  have e2 : IntKind.i64.max = 9223372036854775807 := by decide
  simp only [Lit.wf, Bool.and_eq_true, decide_eq_true_eq, e1, e2]
  omega

end Go.Av
