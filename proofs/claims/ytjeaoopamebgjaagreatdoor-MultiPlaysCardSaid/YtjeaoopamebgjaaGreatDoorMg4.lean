/-
  Texts of this claim, laid together.
-/
import Derived.Test.YtjeaoopamebgjaaGreatDoorMg3
import Derived.Deep.DeepCutAuto
import Derived.Sort.KeysCollected
import Derived.Lib.SlKeysI
import Derived.Shelf.SlIter.Nil
import Derived.Shelf.SortM.Plain
import Derived.Shelf.SortM.SortNone
import Derived.Ground.GgzProg
import Derived.Ground.SlgmProg
import Derived.Test.YtjeaoopamebgjaaGreatDoorProg
import Derived.WalkKit
set_option linter.unusedVariables false
set_option linter.unusedSimpArgs false

namespace Go.Av
open Go.RowKit
def madeO (p : ByteArray) (flags : Int) : OpS := ⟨1, p, ⟨#[]⟩, 0, flags⟩
end Go.Av
namespace Go.Proofs.YtjeaoopamebgjaaGreatDoor
open Go.RowKit Go.Av
section
variable {w0 w : World} {R : List Thing} {rows : List (Value × Bs)}
set_option maxRecDepth 100000 in
theorem made_any (h : Sep w0 w R rows) (p : ByteArray) (flags : Int) : Calls Tryz.prog 18 #[.string p, .int .i64 flags] w fun e w' => e = .returned (madeO p flags).val ∧ Sep w0 w' R rows := by
  have HX := Lib.hid h
  clear h
  go_enter Tryz.func18, Tryz.ntmps18
  go_wp2_with (first | (refine sWL ?_; simp only [Act.put, k_a, k_b, k_c, k_d, k_e, k_f, k_g, k_h, NodeS.cells, OpS.cells, ResS.cells]) | (refine sWM ?_; simp only [Act.put, k_a, k_b, k_c]) | ((first | refine sWS ?_ | refine sWT ?_); clear HX; intro w HX; simp only [Act.put, k_a, k_b, k_c, setMany, Nat.reduceAdd, NodeS.cells, OpS.cells, ResS.cells] at HX ⊢) | (refine sWA ?_; clear HX; (first | (have hq := b3; clear hq; intro w b4 HX) | (have hq := b2; clear hq; intro w b3 HX) | (have hq := b; clear hq; intro w b2 HX) | intro w b HX); simp only [Act.put, k_a, k_b, k_c]) | ((first | (refine sWN ?_; clear HX; intro w mm HX) | (refine sWP ?_; clear HX; intro w av nv cv HX)); simp only [Act.put, k_a, k_b, k_c]) | (refine sWD ?_; clear HX; (first | (have hq := b3; clear hq; intro w b4 HX) | (have hq := b2; clear hq; intro w b3 HX) | (have hq := b; clear hq; intro w b2 HX) | intro w b HX); simp only [Act.put, k_a, k_b, k_c, List.cons_append, List.nil_append] at HX ⊢))
  refine sx_ret HX rfl rfl (by (repeat (first | (with_reducible exact k_s) | (with_reducible apply k_m)))) (by kernel_rfl) ?_
  exact ⟨rfl, HX.out.drop⟩
def opA : OpS := madeO ⟨#[47, 97]⟩ 0
def opAB : OpS := madeO ⟨#[47, 97, 47, 98]⟩ 0
theorem awk1 : manyT ⟨10, []⟩ 1 1 [opA, opA] = (failR 0 5 1 2, ⟨10, []⟩, false) := by kernel_rfl
theorem awk2 : (manyT ⟨10, []⟩ 1 2 [opA, opAB]).1.err = 0 ∧ (manyT ⟨10, []⟩ 1 2 [opA, opAB]).1.at_ = -1 ∧ (manyT ⟨10, []⟩ 1 2 [opA, opAB]).1.zxid = 2 ∧ (manyT ⟨10, []⟩ 1 2 [opA, opAB]).1.rs.length = 2 ∧ (manyT ⟨10, []⟩ 1 2 [opA, opAB]).2.1.l.length = 2 ∧ (manyT ⟨10, []⟩ 1 2 [opA, opAB]).2.2 = true :=
  ⟨by kernel_rfl, by kernel_rfl, by kernel_rfl, by kernel_rfl, by kernel_rfl, by kernel_rfl⟩
theorem rep_len {P : List PRow} {w0 w : World} {R : List Thing} {rows : List (Value × Bs)} {rs : List ResS} {a : Option Addr} {n c : Nat} {xs : List Value} (h : Sep w0 w (ThPool w0 P :: R) rows) (hr : ResL P rs xs) (hm : (11, Value.slice a n c, xs) ∈ P) : n = rs.length := by
  obtain ⟨E, hE⟩ := h.poolGet hm
  obtain ⟨a', n', c', e, hl, -⟩ := ReadRow.some hE
  have h1 := hr.len
  simp only [Value.slice.injEq] at e
  obtain ⟨-, rfl, -⟩ := e
  rw [h1] at hl
  omega
theorem row_fst {P : List PRow} {w0 w : World} {R : List Thing} {rows : List (Value × Bs)} {K : Nat} {a : Option Addr} {n c : Nat} {x : Value} {xs : List Value} (h : Sep w0 w (ThPool w0 P :: R) rows) (hm : (K, Value.slice a n c, x :: xs) ∈ P) : ∃ g off, a = some ⟨g, off, none⟩ ∧ ∀ i v, (x :: xs)[i]? = some v → w.cell? ⟨g, off + i, none⟩ = some v := by
  obtain ⟨E, hE⟩ := h.poolGet hm
  obtain ⟨a', n', c', e, hl, hn, hc, ha, hr⟩ := hE
  rcases hr with ⟨h0, _⟩ | ⟨g, off, e2, _, _, hcell⟩
  · cases h0
  · injection e with e1 _ _
    subst e1
    exact ⟨g, off, e2, hcell⟩
set_option maxRecDepth 100000 in
set_option maxHeartbeats 4000000 in
theorem awake_any (hd : DoorN w) : Calls Tryz.prog 9 #[] w fun e w' => e = .returned (.bool true) ∧ Upd w w' [] [] := by
  have HX := Lib.hid (Sep.start w).poolNew
  go_enter Tryz.func9, Tryz.ntmps9
  go_wp2_with (first | (refine sWL ?_; simp only [Act.put, k_a, k_b, k_c, k_d, k_e, k_f, k_g, k_h, NodeS.cells, OpS.cells, ResS.cells]) | (refine sWM ?_; simp only [Act.put, k_a, k_b, k_c]) | ((first | refine sWS ?_ | refine sWT ?_); clear HX; intro w HX; simp only [Act.put, k_a, k_b, k_c, setMany, Nat.reduceAdd, NodeS.cells, OpS.cells, ResS.cells] at HX ⊢) | (refine sWA ?_; clear HX; (first | (have hq := b3; clear hq; intro w b4 HX) | (have hq := b2; clear hq; intro w b3 HX) | (have hq := b; clear hq; intro w b2 HX) | intro w b HX); simp only [Act.put, k_a, k_b, k_c]) | ((first | (refine sWN ?_; clear HX; intro w mm HX) | (refine sWP ?_; clear HX; intro w av nv cv HX)); simp only [Act.put, k_a, k_b, k_c]) | (refine sWD ?_; clear HX; (first | (have hq := b3; clear hq; intro w b4 HX) | (have hq := b2; clear hq; intro w b3 HX) | (have hq := b; clear hq; intro w b2 HX) | intro w b HX); simp only [Act.put, k_a, k_b, k_c, List.cons_append, List.nil_append] at HX ⊢))
  refine (treenew_any HX.out 10 (by omega) (by omega)).mono ?_
  rintro e w1 ⟨t, rfl, hx⟩
  clear HX
  have HX := Lib.hid hx
  clear hx
  go_wp2_with (first | (refine sWL ?_; simp only [Act.put, k_a, k_b, k_c, k_d, k_e, k_f, k_g, k_h, NodeS.cells, OpS.cells, ResS.cells]) | (refine sWM ?_; simp only [Act.put, k_a, k_b, k_c]) | ((first | refine sWS ?_ | refine sWT ?_); clear HX; intro w HX; simp only [Act.put, k_a, k_b, k_c, setMany, Nat.reduceAdd, NodeS.cells, OpS.cells, ResS.cells] at HX ⊢) | (refine sWA ?_; clear HX; (first | (have hq := b3; clear hq; intro w b4 HX) | (have hq := b2; clear hq; intro w b3 HX) | (have hq := b; clear hq; intro w b2 HX) | intro w b HX); simp only [Act.put, k_a, k_b, k_c]) | ((first | (refine sWN ?_; clear HX; intro w mm HX) | (refine sWP ?_; clear HX; intro w av nv cv HX)); simp only [Act.put, k_a, k_b, k_c]) | (refine sWD ?_; clear HX; (first | (have hq := b3; clear hq; intro w b4 HX) | (have hq := b2; clear hq; intro w b3 HX) | (have hq := b; clear hq; intro w b2 HX) | intro w b HX); simp only [Act.put, k_a, k_b, k_c, List.cons_append, List.nil_append] at HX ⊢) | (go_at_call 18; refine (made_any HX.out _ _).mono ?_; rintro e w1 ⟨rfl, hx⟩; clear HX; have HX := Lib.hid hx; clear hx; simp only [OpS.val, madeO]))
  have h1 := Sep.poolCell (K := 5) (n := 2) HX.out rfl (by omega)
  have h2 := (tree_mono h1.up1 (P' := (5, .slice (some ⟨b, 0, none⟩) 2 2, [opA, opA].flatMap OpS.cells) :: []) (fun q hq => k_n _ hq)).up1
  have hm := mdo_any h2 hd (tree_new 10 (by omega)) (by omega) 1 1 [opA, opA] _ k_s (by intro o ho; simp at ho; subst ho; decide)
  rw [awk1] at hm
  refine hm.mono ?_
  clear hm h1 h2
  rintro e w1 ⟨v, P1, rfl, hP1, ⟨a1, n1, c1, xs1, rfl, hrl1, hmem1⟩, hx⟩
  clear HX
  have hn1 : n1 = 2 := rep_len hx hrl1 hmem1
  subst hn1
  have HX := Lib.hid hx
  have HR1 := Lib.hid (show _ ∧ _ from ⟨hrl1, hmem1⟩)
  clear hx hrl1 hmem1 hP1
  simp only [failR]
  go_wp2_with (first | (refine sWL ?_; simp only [Act.put, k_a, k_b, k_c, k_d, k_e, k_f, k_g, k_h, NodeS.cells, OpS.cells, ResS.cells]) | (refine sWM ?_; simp only [Act.put, k_a, k_b, k_c]) | ((first | refine sWS ?_ | refine sWT ?_); clear HX; intro w HX; simp only [Act.put, k_a, k_b, k_c, setMany, Nat.reduceAdd, NodeS.cells, OpS.cells, ResS.cells] at HX ⊢) | (refine sWA ?_; clear HX; (first | (have hq := b3; clear hq; intro w b4 HX) | (have hq := b2; clear hq; intro w b3 HX) | (have hq := b; clear hq; intro w b2 HX) | intro w b HX); simp only [Act.put, k_a, k_b, k_c]) | ((first | (refine sWN ?_; clear HX; intro w mm HX) | (refine sWP ?_; clear HX; intro w av nv cv HX)); simp only [Act.put, k_a, k_b, k_c]) | (refine sWD ?_; clear HX; (first | (have hq := b3; clear hq; intro w b4 HX) | (have hq := b2; clear hq; intro w b3 HX) | (have hq := b; clear hq; intro w b2 HX) | intro w b HX); simp only [Act.put, k_a, k_b, k_c, List.cons_append, List.nil_append] at HX ⊢) | (go_at_call 18; refine (made_any HX.out _ _).mono ?_; rintro e w1 ⟨rfl, hx⟩; clear HX; have HX := Lib.hid hx; clear hx; simp only [OpS.val, madeO]))
  have h1 := Sep.poolCell (K := 5) (n := 2) HX.out.up2.up1 rfl (by omega)
  have h2 := (tree_mono h1.up2 (P' := (5, .slice (some ⟨b3, 0, none⟩) 2 2, [opA, opAB].flatMap OpS.cells) :: P1) (fun q hq => k_n _ hq)).up1
  have hm := mdo_any h2 hd (tree_new 10 (by omega)) (by omega) 1 2 [opA, opAB] _ k_s (by intro o ho; simp at ho; rcases ho with rfl | rfl <;> decide)
  have f := awk2
  obtain ⟨m, hm0⟩ : ∃ m, manyT ⟨10, []⟩ 1 2 [opA, opAB] = m := ⟨_, rfl⟩
  rw [hm0] at hm f
  obtain ⟨⟨num, zxid, err, at_, rs⟩, S2, ok⟩ := m
  dsimp only at f
  obtain ⟨rfl, rfl, rfl, hrs, hS2, rfl⟩ := f
  refine hm.mono ?_
  clear hm h1 h2 hm0
  rintro e w1 ⟨v, P2, rfl, hP2, ⟨a2, n2, c2, xs2, rfl, hrl2, hmem2⟩, hx⟩
  clear HX
  have hn2 : n2 = 2 := (rep_len hx hrl2 hmem2).trans hrs
  subst hn2
  obtain ⟨hrl1, hmem1⟩ := HR1.out
  have hmem1 := hP2 _ (k_n _ hmem1)
  rw [show (failR 0 5 1 2).rs = [failS 14, failS 5] from rfl] at hrl1
  cases hrl1 with
  | cons h3 h4 =>
  obtain ⟨g, off, rfl, hcell⟩ := row_fst hx hmem1
  have HX := Lib.hid hx
  have HM := Lib.hid hmem1
  have HL := Lib.hid hS2
  clear hx hrl2 hmem2 hP2 h3 h4 hcell hmem1 HR1 hrs hS2
  dsimp only at HX HL ⊢
  go_upto_region 4 with (first | (refine sWL ?_; simp only [Act.put, k_a, k_b, k_c, k_d, k_e, k_f, k_g, k_h, NodeS.cells, OpS.cells, ResS.cells]) | (refine sWM ?_; simp only [Act.put, k_a, k_b, k_c]) | ((first | refine sWS ?_ | refine sWT ?_); clear HX; intro w HX; simp only [Act.put, k_a, k_b, k_c, setMany, Nat.reduceAdd, NodeS.cells, OpS.cells, ResS.cells] at HX ⊢) | (refine sWA ?_; clear HX; (first | (have hq := b3; clear hq; intro w b4 HX) | (have hq := b2; clear hq; intro w b3 HX) | (have hq := b; clear hq; intro w b2 HX) | intro w b HX); simp only [Act.put, k_a, k_b, k_c]) | ((first | (refine sWN ?_; clear HX; intro w mm HX) | (refine sWP ?_; clear HX; intro w av nv cv HX)); simp only [Act.put, k_a, k_b, k_c]) | (refine sWD ?_; clear HX; (first | (have hq := b3; clear hq; intro w b4 HX) | (have hq := b2; clear hq; intro w b3 HX) | (have hq := b; clear hq; intro w b2 HX) | intro w b HX); simp only [Act.put, k_a, k_b, k_c, List.cons_append, List.nil_append] at HX ⊢))
  obtain ⟨g', off', e, hcell⟩ := row_fst HX.out.up1 HM.out
  simp only [Option.some.injEq, Addr.mk.injEq, and_true] at e
  obtain ⟨rfl, rfl⟩ := e
  have hc0 := hcell 0 (.int .i64 14) rfl
  rw [Nat.add_zero] at hc0
  clear hcell
  go_wp2_with (first | (refine sWL ?_; simp only [Act.put, k_a, k_b, k_c, k_d, k_e, k_f, k_g, k_h, NodeS.cells, OpS.cells, ResS.cells]) | (refine sWM ?_; simp only [Act.put, k_a, k_b, k_c]) | ((first | refine sWS ?_ | refine sWT ?_); clear HX; intro w HX; simp only [Act.put, k_a, k_b, k_c, setMany, Nat.reduceAdd, NodeS.cells, OpS.cells, ResS.cells] at HX ⊢) | (refine sWA ?_; clear HX; (first | (have hq := b3; clear hq; intro w b4 HX) | (have hq := b2; clear hq; intro w b3 HX) | (have hq := b; clear hq; intro w b2 HX) | intro w b HX); simp only [Act.put, k_a, k_b, k_c]) | ((first | (refine sWN ?_; clear HX; intro w mm HX) | (refine sWP ?_; clear HX; intro w av nv cv HX)); simp only [Act.put, k_a, k_b, k_c]) | (refine sWD ?_; clear HX; (first | (have hq := b3; clear hq; intro w b4 HX) | (have hq := b2; clear hq; intro w b3 HX) | (have hq := b; clear hq; intro w b2 HX) | intro w b HX); simp only [Act.put, k_a, k_b, k_c, List.cons_append, List.nil_append] at HX ⊢))
  refine (treelen_any HX.out.up2).mono ?_
  rintro e w ⟨rfl, hu⟩
  rw [HL.out]
  replace HX := Lib.hid (HX.out.keep hu)
  clear hu hc0
  go_wp2_with (first | (refine sWL ?_; simp only [Act.put, k_a, k_b, k_c, k_d, k_e, k_f, k_g, k_h, NodeS.cells, OpS.cells, ResS.cells]) | (refine sWM ?_; simp only [Act.put, k_a, k_b, k_c]) | ((first | refine sWS ?_ | refine sWT ?_); clear HX; intro w HX; simp only [Act.put, k_a, k_b, k_c, setMany, Nat.reduceAdd, NodeS.cells, OpS.cells, ResS.cells] at HX ⊢) | (refine sWA ?_; clear HX; (first | (have hq := b3; clear hq; intro w b4 HX) | (have hq := b2; clear hq; intro w b3 HX) | (have hq := b; clear hq; intro w b2 HX) | intro w b HX); simp only [Act.put, k_a, k_b, k_c]) | ((first | (refine sWN ?_; clear HX; intro w mm HX) | (refine sWP ?_; clear HX; intro w av nv cv HX)); simp only [Act.put, k_a, k_b, k_c]) | (refine sWD ?_; clear HX; (first | (have hq := b3; clear hq; intro w b4 HX) | (have hq := b2; clear hq; intro w b3 HX) | (have hq := b; clear hq; intro w b2 HX) | intro w b HX); simp only [Act.put, k_a, k_b, k_c, List.cons_append, List.nil_append] at HX ⊢))
  go_ret
  exact ⟨rfl, Upd.of_below HX.out.below⟩
end
end Go.Proofs.YtjeaoopamebgjaaGreatDoor

namespace Go.Av
open Go.RowKit Go.Maps Go.Sort
def noRead : Value → Option (DataW Unit × List MemPlace) := fun _ => some (.nil, [])
theorem rg_str {P : Program} {k : TypeId} (hk : P.underlying k = some .string) (s : ByteArray) (hs : s.size ≤ maxLen) (e : MapEntry) (he : e.key = .string s) : WideElems.rd P k noRead e = some (.string s.data.toList, .nil) := by
  simp [WideElems.rd, he, keyOf, hk, mapKey, hs, noRead]
theorem owns_names {P : Program} {w : World} {k : TypeId} {m : Nat} {l : List (ByteArray × Value)} (h : MapIs w .string m (l.map fun x => (.string x.1, x.2))) (hk : P.underlying k = some .string) (hn : l.length ≤ 1000000) (hs : ∀ x ∈ l, x.1.size ≤ maxLen) :
    ∃ D0 : DataW Unit, w.ownsMap P k noRead m l.length D0 ∧ size D0 = l.length ∧ (strKeys D0).Perm (l.map fun x => x.1.data.toList) := by
  obtain ⟨es, clock, h1, h2, h3, h4⟩ := h
  have hlen : es.size = l.length := by
    have := congrArg List.length h4
    simpa using this
  have hall : ∀ e ∈ es.toList, ∃ x ∈ l, e.key = .string x.1 := by
    intro e he
    have hm : kv e ∈ l.map fun x => (Value.string x.1, x.2) := by rw [← h4]; exact List.mem_map_of_mem he
    obtain ⟨x, hx, hxe⟩ := List.mem_map.1 hm
    exact ⟨x, hx, (congrArg Prod.fst hxe).symm⟩
  refine ⟨_, ⟨es, clock, h1, ⟨by rw [hlen]; unfold maxLen; omega, h2, fun e he => ?_⟩, by omega, rfl⟩, ?_, ?_⟩
  · obtain ⟨x, hx, hk'⟩ := hall e he
    exact ⟨_, rg_str hk x.1 (hs x hx) e hk'⟩
  · rw [size_eq, (WideShapes.sorted_perm _).length_eq]
    simpa using hlen
  · have e1 : (es.toList.map (WideElems.rg P k noRead)).map (fun p => strOf p.1) = l.map fun x => x.1.data.toList := by
      have e2 : es.toList.map (fun e => (kv e).1) = l.map fun x => Value.string x.1 := by
        have := congrArg (List.map Prod.fst) h4
        simpa [Function.comp_def] using this
      have e3 : es.toList.map (fun e => strOf (WideElems.rg P k noRead e).1) = (es.toList.map (fun e => (kv e).1)).map fun v => match v with | .string s => s.data.toList | _ => [] := by
        rw [List.map_map]
        refine List.map_congr_left fun e he => ?_
        obtain ⟨x, hx, hk'⟩ := hall e he
        have hke : (kv e).1 = .string x.1 := hk'
        simp [Function.comp, hke, WideElems.rg, rg_str hk x.1 (hs x hx) e hk', strOf]
      rw [List.map_map, Function.comp_def, e3, e2, List.map_map]
      rfl
    rw [← e1]
    exact (WideShapes.sorted_perm _).map _
theorem read_own {w : World} {base : Nat} {e : TypeId} {v : Value} {n : Nat} {xs : List Value} (h : w.ownsRow base e 1 v n xs) : ∃ E, ReadRow w 1 v xs E ∧ ∀ b ∈ E, base ≤ b := by
  obtain ⟨hl, ⟨rfl, rfl⟩ | ⟨g, cap, cur, rfl, hg, hh, hn, hc, hs, hx⟩⟩ := h
  · obtain rfl : xs = [] := List.length_eq_zero_iff.1 (by omega)
    exact ⟨[], ⟨none, 0, 0, rfl, rfl, Nat.le_refl _, by decide, fun _ => rfl, .inl ⟨rfl, rfl⟩⟩, by simp⟩
  · refine ⟨[g], ⟨_, n, cap, rfl, hl, hn, hc, (fun h => by cases h), .inr ⟨g, 0, rfl, rfl, lt_of_heap hh, fun i x hi => ?_⟩⟩, by simpa using hg⟩
    rw [cell_of_row w g (0 + i) cur e _ hh, ← hx] at *
    rw [List.getElem?_take] at hi
    split at hi
    · simpa using hi
    · cases hi
end Go.Av

namespace Go.Proofs
open Go.Shelf
def Tryz.keys37_ren : Go.Shelf.Ren := ⟨fun | 7 => 37 | 10 => 62 | n => n, fun | 23 => 79 | 26 => 9 | 3 => 90 | 28 => 94 | 0 => 0 | 27 => 93 | 33 => 115 | 4 => 4 | n => n, fun | n => n⟩
theorem Tryz.keys37 : Go.Proofs.SlLaysZ.n7 Tryz.prog Tryz.keys37_ren := {
  mixed := by kernel_rfl
  f7 := ⟨Tryz.f37.name, by decide, Tryz.func37.trans (congrArg some (by kernel_rfl))⟩
  f10 := ⟨Tryz.f62.name, by decide, Tryz.func62.trans (congrArg some (by kernel_rfl))⟩
  t0 := Tryz.underlying0
  a0 := Tryz.isAgg0
  z0 := Tryz.sizeOf0
  v0 := Tryz.zeroValue0
  t4 := Tryz.underlying4
  a4 := Tryz.isAgg4
  z4 := Tryz.sizeOf4
  v4 := Tryz.zeroValue4
  t23 := Tryz.underlying79
  a23 := Tryz.isAgg79
  z23 := Tryz.sizeOf79
  v23 := Tryz.zeroValue79
  t26 := Tryz.underlying9
  a26 := Tryz.isAgg9
  z26 := Tryz.sizeOf9
  v26 := Tryz.zeroValue9
  t27 := Tryz.underlying93
  a27 := Tryz.isAgg93
  z27 := Tryz.sizeOf93
  v27 := Tryz.zeroValue93
  t28 := Tryz.underlying94
  a28 := Tryz.isAgg94
  z28 := Tryz.sizeOf94
  v28 := Tryz.zeroValue94
  t33 := Tryz.underlying115
  a33 := Tryz.isAgg115
  z33 := Tryz.sizeOf115
  v33 := Tryz.zeroValue115 }
def Tryz.sorted36_ren : Go.Shelf.Ren := ⟨fun | 6 => 36 | 8 => 60 | 9 => 61 | 11 => 90 | 13 => 92 | 12 => 91 | 23 => 124 | 24 => 125 | 14 => 115 | 15 => 116 | 16 => 117 | 17 => 118 | 18 => 119 | 19 => 120 | 20 => 121 | 21 => 122 | 22 => 123 | 25 => 139 | 26 => 140 | 27 => 141 | 28 => 142 | 29 => 143 | 30 => 144 | 31 => 159 | n => n, fun | 26 => 9 | 28 => 94 | 24 => 29 | 0 => 0 | 3 => 3 | 37 => 137 | 48 => 161 | 50 => 163 | 4 => 4 | 40 => 154 | 39 => 153 | 45 => 106 | 5 => 5 | 9 => 9 | 51 => 178 | 55 => 182 | 57 => 192 | 58 => 193 | 33 => 115 | n => n, fun | n => n⟩
theorem Tryz.sorted36 : Go.Proofs.SlLaysZ.n6 Tryz.prog Tryz.sorted36_ren := {
  mixed := by kernel_rfl
  f6 := ⟨Tryz.f36.name, by decide, Tryz.func36.trans (congrArg some (by kernel_rfl))⟩
  f8 := ⟨Tryz.f60.name, by decide, Tryz.func60.trans (congrArg some (by kernel_rfl))⟩
  f11 := ⟨Tryz.f90.name, by decide, Tryz.func90.trans (congrArg some (by kernel_rfl))⟩
  t0 := Tryz.underlying0
  a0 := Tryz.isAgg0
  z0 := Tryz.sizeOf0
  v0 := Tryz.zeroValue0
  t24 := Tryz.underlying29
  a24 := Tryz.isAgg29
  z24 := Tryz.sizeOf29
  v24 := Tryz.zeroValue29
  t26 := Tryz.underlying9
  a26 := Tryz.isAgg9
  z26 := Tryz.sizeOf9
  v26 := Tryz.zeroValue9
  t28 := Tryz.underlying94
  a28 := Tryz.isAgg94
  z28 := Tryz.sizeOf94
  v28 := Tryz.zeroValue94
  i26 := by kernel_rfl }
def Tryz.sort61_ren : Go.Shelf.Ren := ⟨fun | 6 => 61 | 8 => 92 | 9 => 91 | 19 => 124 | 20 => 125 | 21 => 115 | 22 => 116 | 23 => 117 | 24 => 118 | 25 => 119 | 26 => 120 | 27 => 121 | 28 => 122 | 29 => 123 | 36 => 139 | 31 => 140 | 32 => 141 | 37 => 142 | 38 => 143 | 39 => 144 | 41 => 159 | n => n, fun | 27 => 29 | 29 => 9 | 3 => 3 | 32 => 137 | 26 => 29 | 0 => 0 | 44 => 161 | 46 => 163 | 4 => 4 | 36 => 154 | 35 => 153 | 41 => 106 | 5 => 5 | 9 => 9 | 53 => 178 | 57 => 182 | 63 => 192 | 64 => 193 | n => n, fun | n => n⟩
theorem Tryz.sort61 : Go.Proofs.SlLaysM.n6 Tryz.prog Tryz.sort61_ren := {
  mixed := by kernel_rfl
  f6 := ⟨Tryz.f61.name, by decide, Tryz.func61.trans (congrArg some (by kernel_rfl))⟩
  f8 := Tryz.func92.trans (congrArg some (by kernel_rfl))
  f9 := ⟨Tryz.f91.name, by decide, Tryz.func91.trans (congrArg some (by kernel_rfl))⟩
  f19 := Tryz.func124.trans (congrArg some (by kernel_rfl))
  f20 := Tryz.func125.trans (congrArg some (by kernel_rfl))
  f21 := ⟨Tryz.f115.name, by decide, Tryz.func115.trans (congrArg some (by kernel_rfl))⟩
  f22 := ⟨Tryz.f116.name, by decide, Tryz.func116.trans (congrArg some (by kernel_rfl))⟩
  f23 := ⟨Tryz.f117.name, by decide, Tryz.func117.trans (congrArg some (by kernel_rfl))⟩
  f24 := ⟨Tryz.f118.name, by decide, Tryz.func118.trans (congrArg some (by kernel_rfl))⟩
  f25 := ⟨Tryz.f119.name, by decide, Tryz.func119.trans (congrArg some (by kernel_rfl))⟩
  f26 := ⟨Tryz.f120.name, by decide, Tryz.func120.trans (congrArg some (by kernel_rfl))⟩
  f27 := ⟨Tryz.f121.name, by decide, Tryz.func121.trans (congrArg some (by kernel_rfl))⟩
  f28 := ⟨Tryz.f122.name, by decide, Tryz.func122.trans (congrArg some (by kernel_rfl))⟩
  f29 := ⟨Tryz.f123.name, by decide, Tryz.func123.trans (congrArg some (by kernel_rfl))⟩
  f31 := Tryz.func140.trans (congrArg some (by kernel_rfl))
  f32 := Tryz.func141.trans (congrArg some (by kernel_rfl))
  f36 := ⟨Tryz.f139.name, by decide, Tryz.func139.trans (congrArg some (by kernel_rfl))⟩
  f37 := ⟨Tryz.f142.name, by decide, Tryz.func142.trans (congrArg some (by kernel_rfl))⟩
  f38 := ⟨Tryz.f143.name, by decide, Tryz.func143.trans (congrArg some (by kernel_rfl))⟩
  f39 := ⟨Tryz.f144.name, by decide, Tryz.func144.trans (congrArg some (by kernel_rfl))⟩
  f41 := ⟨Tryz.f159.name, by decide, Tryz.func159.trans (congrArg some (by kernel_rfl))⟩
  t0 := Tryz.underlying0
  a0 := Tryz.isAgg0
  z0 := Tryz.sizeOf0
  v0 := Tryz.zeroValue0
  t3 := Tryz.underlying3
  a3 := Tryz.isAgg3
  z3 := Tryz.sizeOf3
  v3 := Tryz.zeroValue3
  t4 := Tryz.underlying4
  a4 := Tryz.isAgg4
  z4 := Tryz.sizeOf4
  v4 := Tryz.zeroValue4
  t5 := Tryz.underlying5
  a5 := Tryz.isAgg5
  z5 := Tryz.sizeOf5
  v5 := Tryz.zeroValue5
  t9 := Tryz.underlying9
  a9 := Tryz.isAgg9
  z9 := Tryz.sizeOf9
  v9 := Tryz.zeroValue9
  t26 := Tryz.underlying29
  a26 := Tryz.isAgg29
  z26 := Tryz.sizeOf29
  v26 := Tryz.zeroValue29
  t27 := Tryz.underlying29
  a27 := Tryz.isAgg29
  z27 := Tryz.sizeOf29
  v27 := Tryz.zeroValue29
  t29 := Tryz.underlying9
  a29 := Tryz.isAgg9
  z29 := Tryz.sizeOf9
  v29 := Tryz.zeroValue9
  t32 := Tryz.underlying137
  a32 := Tryz.isAgg137
  z32 := Tryz.sizeOf137
  v32 := Tryz.zeroValue137
  t35 := Tryz.underlying153
  a35 := Tryz.isAgg153
  z35 := Tryz.sizeOf153
  v35 := Tryz.zeroValue153
  t36 := Tryz.underlying154
  a36 := Tryz.isAgg154
  z36 := Tryz.sizeOf154
  v36 := Tryz.zeroValue154
  t41 := Tryz.underlying106
  a41 := Tryz.isAgg106
  z41 := Tryz.sizeOf106
  v41 := Tryz.zeroValue106
  t44 := Tryz.underlying161
  a44 := Tryz.isAgg161
  z44 := Tryz.sizeOf161
  v44 := Tryz.zeroValue161
  t46 := Tryz.underlying163
  a46 := Tryz.isAgg163
  z46 := Tryz.sizeOf163
  v46 := Tryz.zeroValue163
  t53 := Tryz.underlying178
  a53 := Tryz.isAgg178
  z53 := Tryz.sizeOf178
  v53 := Tryz.zeroValue178
  t57 := Tryz.underlying182
  a57 := Tryz.isAgg182
  z57 := Tryz.sizeOf182
  v57 := Tryz.zeroValue182
  t63 := Tryz.underlying192
  a63 := Tryz.isAgg192
  z63 := Tryz.sizeOf192
  v63 := Tryz.zeroValue192
  t64 := Tryz.underlying193
  a64 := Tryz.isAgg193
  z64 := Tryz.sizeOf193
  v64 := Tryz.zeroValue193 }
open Go.RowKit Go.Maps Go.Sort Go.Shelf
theorem Tryz.sorts36 (m : Nat) : AnyZ.SortsIn Tryz.prog Tryz.sorted36_ren Fence.wide m :=
  ⟨fun blk off cap ss W hH hblk hsz => callsIn_wide.2 (AnyM.slices_Sort_string Tryz.sort61 blk off cap ss W hH hblk hsz),
   fun p cap W => callsIn_wide.2 (AnyM.slices_Sort_string_none Tryz.sort61 p cap W)⟩
theorem Tryz.maps_Keys_37 (mb : Option Nat) (W : World) : CallsIn Fence.wide 5 Tryz.prog 37 #[.map mb] W fun e w' => e = .returned (.func (.func 62) #[] #[.pointer (some ⟨W.heap.size, 0, none⟩)]) ∧ w' = W.alloc (.cells #[.map mb] 79) :=
  AnyZ.keys_in Tryz.keys37 Fence.wide 5 trivial rfl mb W
set_option maxHeartbeats 1000000 in
theorem Tryz.slices_Sorted_keys_36_37 {H : Type} (b nn : Nat) (D0 : DataW H) (R : Value → Option (DataW H × List MemPlace)) (w : World) (hown : w.ownsMap Tryz.prog 9 R b nn D0) (hmax : Maps.size D0 ≤ maxLen) (hbytes : Maps.size D0 * 16 ≤ 140737488355328) :
    CallsIn Fence.wide 5 Tryz.prog 36 #[.func (.func 62) #[] #[.pointer (some ⟨w.heap.size, 0, none⟩)]] (w.alloc (.cells #[.map (some b)] 79)) fun e w' => ∃ (v : Value) (ss : List (List UInt8)), e = .returned v ∧ ss.Perm (strKeys D0) ∧
      w'.ownsRow (w.alloc (.cells #[.map (some b)] 79)).heap.size 9 1 v ss.length ((ss.mergeSort (fun x y => decide (x ≤ y))).map encStr) ∧ (v = .slice none 0 0 ↔ ss = []) ∧ Below (w.alloc (.cells #[.map (some b)] 79)).heap.size (w.alloc (.cells #[.map (some b)] 79)) w' := by
  have hbl := hown.lt
  have hseq : SeqGives Fence.wide 2 Tryz.prog 62 #[.pointer (some ⟨w.heap.size, 0, none⟩)] encStr (fun ss => ss.Perm (strKeys D0)) (Maps.size D0) (w.alloc (.cells #[.map (some b)] 79)) :=
    AnyZ.keys_gives (ρ := Tryz.keys37_ren) { Tryz.keys37 with } Fence.wide _ trivial rfl (by omega) w.heap.size b nn D0 _ (by simp) (by simp) (by
      obtain ⟨es, clock, hb, Ft, hs, hD⟩ := hown
      exact ⟨es, clock, (Below.heap_alloc _ _ b hbl).trans hb, Ft, hs, hD⟩)
  exact AnyZ.sorted_in Tryz.sorted36 Fence.wide 5 trivial trivial trivial trivial rfl (by omega) (Tryz.sorts36 _) (enters_of Tryz.func61 (by kernel_rfl) rfl) 62 #[.pointer (some ⟨w.heap.size, 0, none⟩)] trivial (enters_of Tryz.func62 (by kernel_rfl) rfl) _ _ hmax hbytes _ hseq
end Go.Proofs

namespace Go.Av
open Go.RowKit Go.Sort Go.Maps
theorem rise_sorted {l ss : List Bs} (hr : l.Pairwise (· < ·)) (hp : ss.Perm l) : ss.mergeSort (fun x y => decide (x ≤ y)) = l := by
  refine (mergeSort_of_perm hp).trans ?_
  refine List.mergeSort_of_pairwise (List.Pairwise.imp (fun h => ?_) hr)
  simp only [leB, decide_eq_true_eq]
  exact List.le_of_lt h
def ofT (S : TreeS) (sess : Int) : List Bs := (S.l.filter fun e => decide (0 < sess) && e.2.owner == sess).map (·.1)
end Go.Av
namespace Go.Proofs.YtjeaoopamebgjaaGreatDoor
open Go.RowKit Go.Av Go.Maps Go.Sort
section
variable {w0 w : World} {t : Nat} {S : TreeS} {P P' : List PRow} {R : List Thing} {rows : List (Value × Bs)}
def ListPost (w0 : World) (t : Nat) (S : TreeS) (P : List PRow) (R : List Thing) (rows : List (Value × Bs)) (l : List Bs) (e : Ending) (w' : World) : Prop :=
  ∃ v P', e = .returned v ∧ (∀ r ∈ P, r ∈ P') ∧ (1, v, l.map sv) ∈ P' ∧ Sep w0 w' (ThPool w0 P' :: ThTree t S P' :: R) rows
set_option maxRecDepth 100000 in
set_option maxHeartbeats 4000000 in
theorem paths_any (h : Sep w0 w (ThPool w0 P :: ThTree t S P :: R) rows) (hn : S.l.length ≤ 100000) (hk : ∀ e ∈ S.l, e.1.length ≤ 100000) :
    Calls Tryz.prog 20 #[.pointer (some ⟨t, 0, none⟩)] w (ListPost w0 t S P R rows (S.l.map (·.1))) := by
  obtain ⟨m, gs, hperm, hrise, hgs, hS⟩ := tree_open (h.perm (List.Perm.swap _ _ _))
  obtain ⟨D, hM, -⟩ := hS.has (T := ThMap .string m (gs.map NodeG.kv)) (by simp)
  have hgl : gs.length = S.l.length := by rw [← hperm.length_eq, List.length_map]
  obtain ⟨D0, ho, hz, hp⟩ := owns_names (P := Tryz.prog) (k := 9) (l := gs.map fun g => (⟨g.key.toArray⟩, Value.pointer (some ⟨g.blk, 0, none⟩))) (by rw [List.map_map]; exact hM) Tryz.underlying9 (by simp; omega) (by
    intro x hx
    obtain ⟨g, hg, rfl⟩ := List.mem_map.1 hx
    have := hk g.ent (hperm.mem_iff.1 (List.mem_map_of_mem hg))
    unfold maxLen
    show g.key.toArray.size ≤ _
    simp only [List.size_toArray]
    have h2 : g.ent.1 = g.key := rfl
    rw [h2] at this
    omega)
  rw [List.length_map] at hz
  have HP := Lib.hid (show (strKeys D0).Perm (S.l.map (·.1)) from hp.trans (by
    rw [List.map_map]
    have := hperm.map (·.1)
    rw [List.map_map] at this
    exact this))
  have HRI := Lib.hid hrise
  have HC := Lib.hid (show _ ∧ _ ∧ _ from ⟨hperm, hrise, hgs⟩)
  have HX := Lib.hid hS
  have cK := callsIn_wide.1 (Tryz.maps_Keys_37 (some m) w)
  have cS := callsIn_wide.1 (Tryz.slices_Sorted_keys_36_37 m _ D0 noRead w ho (by rw [hz]; unfold maxLen; omega) (by rw [hz]; omega))
  have CK := Lib.hid cK
  have CS := Lib.hid cS
  clear cK cS ho hz hp h hperm hrise hgs hS hM
  go_enter Tryz.func20, Tryz.ntmps20
  go_wp2_with (first | (refine sWL ?_; simp only [Act.put, k_a, k_b, k_c, k_d, k_e, k_f, k_g, k_h, NodeS.cells, OpS.cells, ResS.cells]) | (refine sWM ?_; simp only [Act.put, k_a, k_b, k_c]) | ((first | refine sWS ?_ | refine sWT ?_); clear HX; intro w HX; simp only [Act.put, k_a, k_b, k_c, setMany, Nat.reduceAdd, NodeS.cells, OpS.cells, ResS.cells] at HX ⊢) | (refine sWA ?_; clear HX; (first | (have hq := b; clear hq; intro w b2 HX) | intro w b HX); simp only [Act.put, k_a, k_b, k_c]) | ((first | (refine sWN ?_; clear HX; intro w mm HX) | (refine sWP ?_; clear HX; intro w av nv cv HX)); simp only [Act.put, k_a, k_b, k_c]) | (go_at_call 37; go_must (refine CK.out.mono ?_); rintro e w1 ⟨rfl, rfl⟩) | (go_at_call 36; go_must (refine CS.out.mono ?_); rintro e w1 ⟨v, ss, rfl, hS, hrow, hnil, hb⟩))
  go_ret
  obtain ⟨E, hr, hE⟩ := read_own hrow
  have hss : ss.mergeSort (fun x y => decide (x ≤ y)) = S.l.map (·.1) := rise_sorted HRI.out (hS.trans HP.out)
  rw [hss] at hr
  have hsz : w.heap.size ≤ (w.alloc (.cells #[.map (some m)] 79)).heap.size := by simp
  have h1 := (HX.out.up3).poolRead hr (fun b hb => Nat.le_trans hsz (hE b hb)) ((Upd.alloc0 w _ []).trans (Upd.of_below hb))
  obtain ⟨hperm, hrise, hgs⟩ := HC.out
  have h2 := tree_shut (S := S) (P := (1, v, (S.l.map (·.1)).map sv) :: P) (h1.up3.up3.up3) hperm hrise (fun g hg => k_n _ (hgs g hg))
  exact ⟨v, _, rfl, fun q hq => k_n _ hq, k_s, h2.up1⟩
theorem take_of {S : TreeS} {sess : Int} {i : Nat} (hi : i < S.l.length) : ofT ⟨S.room, S.l.take (i + 1)⟩ sess = ofT ⟨S.room, S.l.take i⟩ sess ++ (if decide (0 < sess) && S.l[i].2.owner == sess then [S.l[i].1] else []) := by
  unfold ofT
  dsimp only
  rw [List.take_succ_eq_append_getElem hi, List.filter_append, List.map_append]
  congr 1
  cases hq : (decide (0 < sess) && S.l[i].2.owner == sess) <;> simp [List.filter_cons, hq]
def RowPost (w0 : World) (t : Nat) (S : TreeS) (P : List PRow) (R : List Thing) (rows : List (Value × Bs)) (l : List Bs) (e : Ending) (w' : World) : Prop :=
  ∃ v P', e = .returned v ∧ (∀ r ∈ P, r ∈ P') ∧ Sep w0 w' (ThRow 1 v (l.map sv) :: ThPool w0 P' :: ThTree t S P' :: R) rows
def OfRel (w0 : World) (t : Nat) (S : TreeS) (P : List PRow) (R : List Thing) (rows : List (Value × Bs)) (sess : Int) (k : Nat) (v5 v11 : Value) (w : World) : Prop :=
  ∃ (i : Nat) (a : Option Addr) (n c : Nat), i + k = S.l.length ∧ v11 = .int .i64 (i : Int) ∧ v5 = .slice a n c ∧ Sep w0 w (ThRow 1 (.slice a n c) ((ofT ⟨S.room, S.l.take i⟩ sess).map sv) :: ThPool w0 P :: ThTree t S P :: R) rows
set_option maxRecDepth 100000 in
set_option maxHeartbeats 4000000 in
theorem tofRow_any (h : Sep w0 w (ThPool w0 P :: ThTree t S P :: R) rows) (sess : Int) (hn : S.l.length ≤ 100000) (hk : ∀ e ∈ S.l, e.1.length ≤ 100000) :
    Calls Tryz.prog 21 #[.pointer (some ⟨t, 0, none⟩), .int .i64 sess] w (RowPost w0 t S P R rows (ofT S sess)) := by
  have HN := Lib.hid hn
  have HK := Lib.hid hk
  have HX := Lib.hid h
  clear hn hk h
  go_enter Tryz.func21, Tryz.ntmps21
  go_wp2_with (first | (refine sWL ?_; simp only [Act.put, k_a, k_b, k_c, k_d, k_e, k_f, k_g, k_h, NodeS.cells, OpS.cells, ResS.cells]) | (refine sWM ?_; simp only [Act.put, k_a, k_b, k_c]) | ((first | refine sWS ?_ | refine sWT ?_); clear HX; intro w HX; simp only [Act.put, k_a, k_b, k_c, setMany, Nat.reduceAdd, NodeS.cells, OpS.cells, ResS.cells] at HX ⊢) | (refine sWA ?_; clear HX; (first | (have hq := b; clear hq; intro w b2 HX) | intro w b HX); simp only [Act.put, k_a, k_b, k_c]) | ((first | (refine sWN ?_; clear HX; intro w mm HX) | (refine sWP ?_; clear HX; intro w av nv cv HX)); simp only [Act.put, k_a, k_b, k_c]))
  refine (paths_any HX.out HN.out HK.out).mono ?_
  rintro e w ⟨v, P', rfl, hP', hv, hS⟩
  obtain ⟨E, hE⟩ := hS.poolGet hv
  obtain ⟨a0, n0, c0, rfl, hl0, hn0, hc0, hne⟩ := ReadRow.some hE
  rw [List.length_map, List.length_map, Nat.mul_one] at hl0
  subst hl0
  clear HX
  have HX := Lib.hid hS
  have HNE := Lib.hid hne
  have HV := Lib.hid hv
  have HPP := Lib.hid hP'
  clear hS hE hne hv hP' hn0 hc0
  have HST := Lib.hid (show OfRel w0 t S P' R rows sess S.l.length (.slice none 0 0) (.int .i64 (0 : Int)) w from ⟨0, none, 0, 0, by simp, rfl, rfl, HX.out.nilRow 1⟩)
  clear HX
  go_wp2_with (first | (refine sWL ?_; simp only [Act.put, k_a, k_b, k_c, k_d, k_e, k_f, k_g, k_h, NodeS.cells, OpS.cells, ResS.cells]) | (refine sWM ?_; simp only [Act.put, k_a, k_b, k_c]) | ((first | refine sWS ?_ | refine sWT ?_); clear HX; intro w HX; simp only [Act.put, k_a, k_b, k_c, setMany, Nat.reduceAdd, NodeS.cells, OpS.cells, ResS.cells] at HX ⊢) | (refine sWA ?_; clear HX; (first | (have hq := b; clear hq; intro w b2 HX) | intro w b HX); simp only [Act.put, k_a, k_b, k_c]) | ((first | (refine sWN ?_; clear HX; intro w mm HX) | (refine sWP ?_; clear HX; intro w av nv cv HX)); simp only [Act.put, k_a, k_b, k_c]))
  go_loopg [5, 11] S.l.length (fun k v5 v11 wr => OfRel w0 t S P' R rows sess k v5 v11 wr)
  case atStart => exact HST.out
  case round =>
    obtain ⟨i, a, n, c, hik, rfl, rfl, hS⟩ := hrel
    have HIK := Lib.hid hik
    by_cases hlt : i < S.l.length
    case neg =>
      obtain rfl : i = S.l.length := by omega
      have HX := Lib.hid hS
      clear hS hlt hik
      go_wp2_with (first | (refine sWL ?_; simp only [Act.put, k_a, k_b, k_c, k_d, k_e, k_f, k_g, k_h, NodeS.cells, OpS.cells, ResS.cells]) | (refine sWM ?_; simp only [Act.put, k_a, k_b, k_c]) | ((first | refine sWS ?_ | refine sWT ?_); clear HX; intro w HX; simp only [Act.put, k_a, k_b, k_c, setMany, Nat.reduceAdd, NodeS.cells, OpS.cells, ResS.cells] at HX ⊢) | (refine sWA ?_; clear HX; (first | (have hq := b; clear hq; intro w b2 HX) | intro w b HX); simp only [Act.put, k_a, k_b, k_c]) | ((first | (refine sWN ?_; clear HX; intro w mm HX) | (refine sWP ?_; clear HX; intro w av nv cv HX)); simp only [Act.put, k_a, k_b, k_c]))
      go_ret
      have h1 := HX.out
      rw [List.take_length] at h1
      exact ⟨_, P', rfl, HPP.out, h1⟩
    case pos =>
      have hmem : S.l[i] ∈ S.l := List.getElem_mem hlt
      have hlook : lookT S.l[i].1 S.l = some S.l[i].2 := (look_mem (tree_rise hS.up2)).2 hmem
      have hnd := tree_rise hS.up2
      obtain ⟨g, off, rfl⟩ := HNE.out (by intro e; rw [List.map_map, List.map_eq_nil_iff] at e; rw [e] at hlt; simp at hlt)
      obtain ⟨E, hE⟩ := hS.up1.poolGet HV.out
      have hl := row_load1 (P := Tryz.prog) (ty := 9) (i := i) (v := sv S.l[i].1) hE (by kernel_rfl) (by simp [hlt])
      obtain ⟨m, x, nv, kvs, N, hnv, hkv, hS2, back⟩ := tree_at hS.up2 hlook
      have HB := Lib.hid (show ∀ w' R', Sep w0 w' (thNode x S.l[i].2 nv :: thTree t m S.room :: ThMap .string m kvs :: ThL N :: R') rows → Sep w0 w' (ThTree t S P' :: R') rows from fun w' R' hh => by
        have := back w' S.l[i].2 nv P' R' (fun _ h => h) hnv hh
        rw [setT_same hnd hlook] at this
        exact this)
      have HT := Lib.hid (take_of (sess := sess) hlt)
      obtain ⟨en, hen⟩ : ∃ en, S.l[i] = en := ⟨_, rfl⟩
      rw [hen] at HT hl hS2 hkv HB
      obtain ⟨ps, hps⟩ : ∃ ps : ByteArray, ps = ⟨en.1.toArray⟩ := ⟨_, rfl⟩
      have hpv : sv en.1 = .string ps := by rw [hps]; rfl
      have hpl : ps.data.toList = en.1 := by rw [hps]
      rw [hpv] at hl hkv
      have hlk := look_hit (Lib.hid hS2) ps (by (repeat (first | (with_reducible exact k_s) | (with_reducible apply k_m)))) (by rw [hpl, hpv]; exact hkv)
      have HX := Lib.hid hS2
      have HPV := Lib.hid hpv
      have q0 : decide (i < S.l.length) = true := decide_eq_true hlt
      have q9 : i ≤ 100000 := by have := HN.out; omega
      obtain ⟨zs, hzs⟩ : ∃ z, decide (0 < sess) = z := ⟨_, rfl⟩
      obtain ⟨zo, hzo⟩ : ∃ z, (en.2.owner == sess) = z := ⟨_, rfl⟩
      rw [hzs, hzo] at HT
      clear hS hS2 hlook hnd hE back hen hps hpv hpl hkv hnv hmem
      cases zs with
      | false =>
        go_wp2_with (first | (refine sWL ?_; simp only [Act.put, k_a, k_b, k_c, k_d, k_e, k_f, k_g, k_h, NodeS.cells, OpS.cells, ResS.cells]) | (refine sWM ?_; simp only [Act.put, k_a, k_b, k_c]) | ((first | refine sWS ?_ | refine sWT ?_); clear HX; intro w HX; simp only [Act.put, k_a, k_b, k_c, setMany, Nat.reduceAdd, NodeS.cells, OpS.cells, ResS.cells] at HX ⊢) | (refine sWA ?_; clear HX; (first | (have hq := b; clear hq; intro w b2 HX) | intro w b HX); simp only [Act.put, k_a, k_b, k_c]) | ((first | (refine sWN ?_; clear HX; intro w mm HX) | (refine sWP ?_; clear HX; intro w av nv cv HX)); simp only [Act.put, k_a, k_b, k_c]) | ((with_reducible apply sx_loadAt hl); (· rfl); (· rfl); simp only [Act.put, k_a, k_b, k_c]))
        go_roundg (S.l.length - (i + 1))
        case rel =>
          have h2 := HB.out _ _ HX.out
          refine ⟨i + 1, a, n, c, by omega, by go_num, rfl, ?_⟩
          rw [HT.out]
          simp only [Bool.false_and, Bool.false_eq_true, if_false, List.append_nil]
          exact Sep.pm h2 3 [1, 2, 0] rfl rfl
        case measure => omega
      | true =>
        cases zo with
        | false =>
          go_wp2_with (first | (refine sWL ?_; simp only [Act.put, k_a, k_b, k_c, k_d, k_e, k_f, k_g, k_h, NodeS.cells, OpS.cells, ResS.cells]) | (refine sWM ?_; simp only [Act.put, k_a, k_b, k_c]) | ((first | refine sWS ?_ | refine sWT ?_); clear HX; intro w HX; simp only [Act.put, k_a, k_b, k_c, setMany, Nat.reduceAdd, NodeS.cells, OpS.cells, ResS.cells] at HX ⊢) | (refine sWA ?_; clear HX; (first | (have hq := b; clear hq; intro w b2 HX) | intro w b HX); simp only [Act.put, k_a, k_b, k_c]) | ((first | (refine sWN ?_; clear HX; intro w mm HX) | (refine sWP ?_; clear HX; intro w av nv cv HX)); simp only [Act.put, k_a, k_b, k_c]) | ((with_reducible apply sx_loadAt hl); (· rfl); (· rfl); simp only [Act.put, k_a, k_b, k_c]))
          go_roundg (S.l.length - (i + 1))
          case rel =>
            have h2 := HB.out _ _ HX.out
            refine ⟨i + 1, a, n, c, by omega, by go_num, rfl, ?_⟩
            rw [HT.out]
            simp only [Bool.and_false, Bool.false_eq_true, if_false, List.append_nil]
            exact Sep.pm h2 3 [1, 2, 0] rfl rfl
          case measure => omega
        | true =>
          have HBD := Lib.hid (show ∀ n, ((ofT ⟨S.room, S.l.take i⟩ sess).map sv).length = n * 1 → n + 1 ≤ 140737488355328 ∧ (n + 1) * 16 ≤ 140737488355328 from fun n hn => by
            have h1 : (ofT ⟨S.room, S.l.take i⟩ sess).length ≤ S.l.length := by
              unfold ofT
              rw [List.length_map]
              exact Nat.le_trans (List.length_filter_le _ _) (by simp; omega)
            have h2 := HN.out
            rw [List.length_map] at hn
            omega)
          go_wp2_with (first | (refine sWL ?_; simp only [Act.put, k_a, k_b, k_c, k_d, k_e, k_f, k_g, k_h, NodeS.cells, OpS.cells, ResS.cells]) | (refine sWM ?_; simp only [Act.put, k_a, k_b, k_c]) | ((first | refine sWS ?_ | refine sWT ?_); clear HX; intro w HX; simp only [Act.put, k_a, k_b, k_c, setMany, Nat.reduceAdd, NodeS.cells, OpS.cells, ResS.cells] at HX ⊢) | (refine sWA ?_; clear HX; (first | (have hq := b; clear hq; intro w b2 HX) | intro w b HX); simp only [Act.put, k_a, k_b, k_c]) | ((first | (refine sWN ?_; clear HX; intro w mm HX) | (refine sWP ?_; clear HX; intro w av nv cv HX)); simp only [Act.put, k_a, k_b, k_c]) | ((with_reducible apply sx_loadAt hl); (· rfl); (· rfl); simp only [Act.put, k_a, k_b, k_c]))
          go_roundg (S.l.length - (i + 1))
          case rel =>
            have h1 := HX.out.cut1
            have h2 := HB.out _ _ (h1.up4.up4.up4.up4)
            refine ⟨i + 1, av, nv, cv, by omega, by go_num, rfl, ?_⟩
            rw [HT.out]
            simp only [Bool.and_self, if_true, List.map_append, List.map_cons, List.map_nil, HPV.out]
            exact Sep.pm h2 3 [1, 2, 0] rfl rfl
          case measure => omega
end
end Go.Proofs.YtjeaoopamebgjaaGreatDoor

namespace Go.Av
open Go.RowKit
section
variable {P : Program} {w : World}
theorem row_fld {K n c off g i f : Nat} {xs : List Value} {v : Value} {E : List Nat} {ty : TypeId} (h : ReadRow w K (.slice (some ⟨g, off, none⟩) n c) xs E) (hs : scalarB P ty = true) (hv : xs[i * K + f]? = some v) :
    (Instr.loadAt ty (.pointer (some ⟨g, off + i * K + f, none⟩))).run P w = .ok v w := by
  obtain ⟨a', n', c', e, hl, hn, hc, ha, hr⟩ := h
  cases e
  rcases hr with ⟨rfl, _⟩ | ⟨g', off', e, rfl, hlt, hcell⟩
  · cases hv
  · injection e with e
    injection e with e1 e2
    subst e1 e2
    rw [Nat.add_assoc]
    exact run_load_scalar hs (hcell _ v hv)
theorem row_fld0 {K n c off g i : Nat} {xs : List Value} {v : Value} {E : List Nat} {ty : TypeId} (h : ReadRow w K (.slice (some ⟨g, off, none⟩) n c) xs E) (hs : scalarB P ty = true) (hv : xs[i * K]? = some v) :
    (Instr.loadAt ty (.pointer (some ⟨g, off + i * K, none⟩))).run P w = .ok v w := row_fld (f := 0) h hs hv
theorem row_part {K n c off g i f m : Nat} {xs vs : List Value} {E : List Nat} {ty : TypeId} (h : ReadRow w K (.slice (some ⟨g, off, none⟩) n c) xs E) (hs : StructN P ty m) (hm : vs.length = m) (hne : vs ≠ []) (hv : ∀ j v, vs[j]? = some v → xs[i * K + f + j]? = some v) :
    (Instr.loadAt ty (.pointer (some ⟨g, off + i * K + f, none⟩))).run P w = .ok (.agg vs.toArray) w := by
  obtain ⟨a', n', c', e, hl, hn, hc, ha, hr⟩ := h
  cases e
  have h1 := hs.1
  unfold structB at h1
  rw [Bool.and_eq_true] at h1
  obtain ⟨h1, h2⟩ := h1
  cases hi0 : P.info? ty with
  | none => simp [hi0] at h2
  | some ii =>
    simp only [hi0, beq_iff_eq] at h2
    cases hu : P.underlying ty with
    | none => simp [hu] at h1
    | some d =>
      refine run_loadAt_mid w g (off + i * K + f) ty _ d (fun j v hj => ?_) hu (by rw [hu] at h1; cases d <;> simp_all) (by rw [hi0, hm]; simpa using h2)
      have hq := hv j v hj
      rcases hr with ⟨rfl, _⟩ | ⟨g', off', e, rfl, hlt, hcell⟩
      · cases hq
      · injection e with e
        injection e with e1 e2
        subst e1 e2
        have := hcell _ v hq
        rw [show off + i * K + f + j = off + (i * K + f + j) by omega]
        exact this
end
inductive EntL (P : List PRow) : NoL → List Value → Prop
  | nil : EntL P [] []
  | cons {p : Bs} {n : NodeS} {nv : Value} {l : NoL} {xs : List Value} : (1, nv, n.names.map sv) ∈ P → EntL P l xs → EntL P ((p, n) :: l) (sv p :: (n.cells nv).toList ++ xs)
theorem EntL.mono {P P' : List PRow} {l : NoL} {xs : List Value} (h : EntL P l xs) (hP : ∀ r ∈ P, r ∈ P') : EntL P' l xs := by
  induction h with
  | nil => exact .nil
  | cons h1 _ ih => exact .cons (hP _ h1) ih
theorem EntL.len {P : List PRow} {l : NoL} {xs : List Value} (h : EntL P l xs) : xs.length = l.length * 11 := by
  induction h with
  | nil => rfl
  | cons _ _ ih => simp only [List.length_append, List.length_cons, ih]; simp [NodeS.cells]; omega
theorem EntL.snoc {P : List PRow} {l : NoL} {xs : List Value} {p : Bs} {n : NodeS} {nv : Value} (h : EntL P l xs) (hr : (1, nv, n.names.map sv) ∈ P) : EntL P (l ++ [(p, n)]) (xs ++ sv p :: (n.cells nv).toList) := by
  induction h with
  | nil => simpa using EntL.cons (p := p) hr EntL.nil
  | cons h1 _ ih =>
    rw [List.cons_append, List.append_assoc]
    exact .cons h1 ih
theorem EntL.at {P : List PRow} {l : NoL} {xs : List Value} (h : EntL P l xs) : ∀ {i : Nat} (hi : i < l.length), ∃ nv, (1, nv, l[i].2.names.map sv) ∈ P ∧ ∀ j v, (sv l[i].1 :: (l[i].2.cells nv).toList)[j]? = some v → xs[i * 11 + j]? = some v := by
  induction h with
  | nil => intro i hi; simp at hi
  | @cons p n nv l xs h1 h2 ih =>
    intro i hi
    cases i with
    | zero =>
      refine ⟨nv, h1, fun j v hv => ?_⟩
      have hj : j < (sv p :: (n.cells nv).toList).length := (List.getElem?_eq_some_iff.1 hv).1
      rw [Nat.zero_mul, Nat.zero_add, List.getElem?_append_left hj]
      exact hv
    | succ i =>
      obtain ⟨nv', h3, h4⟩ := ih (i := i) (by simpa using hi)
      refine ⟨nv', h3, fun j v hv => ?_⟩
      have hl : (sv p :: (n.cells nv).toList).length = 11 := rfl
      rw [List.getElem?_append_right (by rw [hl]; omega), hl, show (i + 1) * 11 + j - 11 = i * 11 + j by omega]
      exact h4 j v hv
end Go.Av
namespace Go.Proofs.YtjeaoopamebgjaaGreatDoor
open Go.RowKit Go.Av
theorem sn_rnode : StructN Tryz.prog 84 10 := ⟨by kernel_rfl⟩
theorem sn_rtree : StructN Tryz.prog 69 2 := ⟨by kernel_rfl⟩
theorem sn_rent : StructN Tryz.prog 87 11 := ⟨by kernel_rfl⟩
theorem z_rnode : zeroB Tryz.prog 84 #[.int .i64 0, .int .i64 0, .int .i64 0, .int .i64 0, .int .i64 0, .int .i64 0, .int .i64 0, .string ⟨#[]⟩, .int .i64 0, .slice none 0 0] := by unfold zeroB; kernel_rfl
theorem sl_ent : SliceN Tryz.prog 67 87 11 120 := .of Tryz.underlying67 (by kernel_rfl)
def RtO (b : Nat) (S : TreeS) (P : List PRow) (L : List Thing) : Prop := ∃ a n c xs, L = [ThCell b (.cells #[.int .i64 S.room, .slice a n c] 69 (0, 0)), ThRow 11 (.slice a n c) xs] ∧ EntL P S.l xs
def ThRt (b : Nat) (S : TreeS) (P : List PRow) : Thing := Bun (RtO b S P)
section
variable {w0 w : World} {b : Nat} {S : TreeS} {P P' : List PRow} {R : List Thing} {rows : List (Value × Bs)}
theorem rt_mono (h : Sep w0 w (ThRt b S P :: R) rows) (hP : ∀ r ∈ P, r ∈ P') : Sep w0 w (ThRt b S P' :: R) rows := by
  obtain ⟨L, ⟨a, n, c, xs, rfl, h1⟩, hS⟩ := h.opens
  exact Sep.shut (O := RtO b S P') ⟨a, n, c, xs, rfl, h1.mono hP⟩ hS
theorem rt_open (h : Sep w0 w (ThRt b S P :: R) rows) : ∃ a n c xs, EntL P S.l xs ∧ n = S.l.length ∧ Sep w0 w (ThCell b (.cells #[.int .i64 S.room, .slice a n c] 69 (0, 0)) :: ThRow 11 (.slice a n c) xs :: R) rows := by
  obtain ⟨L, ⟨a, n, c, xs, rfl, h1⟩, hS⟩ := h.opens
  obtain ⟨a', n', c', e, hl, -⟩ := (Sep.drop hS).rowLen
  simp only [Value.slice.injEq] at e
  obtain ⟨-, rfl, -⟩ := e
  have := h1.len
  exact ⟨a, n, c, xs, h1, by omega, hS⟩
theorem rt_shut {a : Option Addr} {n c : Nat} {xs : List Value} (h : Sep w0 w (ThCell b (.cells #[.int .i64 S.room, .slice a n c] 69 (0, 0)) :: ThRow 11 (.slice a n c) xs :: R) rows) (he : EntL P S.l xs) : Sep w0 w (ThRt b S P :: R) rows :=
  Sep.shut (O := RtO b S P) ⟨a, n, c, xs, rfl, he⟩ h
theorem beq_self_str (q : ByteArray) : (q.toList != q.toList) = false := by simp
set_option maxRecDepth 100000 in
set_option maxHeartbeats 2000000 in
theorem sames_any (h : Sep w0 w (ThPool w0 P :: R) rows) (va vb : Value) (l : List Bs) (ha : (1, va, l.map sv) ∈ P) (hb : (1, vb, l.map sv) ∈ P) :
    Calls Tryz.prog 25 #[va, vb] w fun e w' => e = .returned (.bool true) ∧ Sep w0 w' (ThPool w0 P :: R) rows := by
  obtain ⟨E, hE⟩ := h.poolGet ha
  obtain ⟨a1, n1, c1, rfl, hl1, hn1, hc1, hne1⟩ := ReadRow.some hE
  obtain ⟨E2, hE2⟩ := h.poolGet hb
  obtain ⟨a2, n2, c2, rfl, hl2, hn2, hc2, hne2⟩ := ReadRow.some hE2
  rw [List.length_map, Nat.mul_one] at hl1 hl2
  subst hl1
  obtain rfl : l.length = n2 := hl2
  have q9 : l.length ≤ 9223372036854775807 := by unfold maxLen at hc1; omega
  have HA := Lib.hid ha
  have HB := Lib.hid hb
  have HN1 := Lib.hid hne1
  have HN2 := Lib.hid hne2
  have HX := Lib.hid h
  clear h ha hb hE hE2 hne1 hne2 hn1 hn2 hc1 hc2
  go_enter Tryz.func25, Tryz.ntmps25
  go_wp2_with (first | (refine sWL ?_; simp only [Act.put, k_a, k_b, k_c, k_d, k_e, k_f, k_g, k_h, NodeS.cells, OpS.cells, ResS.cells]) | (refine sWM ?_; simp only [Act.put, k_a, k_b, k_c]) | ((first | refine sWS ?_ | refine sWT ?_); clear HX; intro w HX; simp only [Act.put, k_a, k_b, k_c, setMany, Nat.reduceAdd, NodeS.cells, OpS.cells, ResS.cells] at HX ⊢) | (refine sWA ?_; clear HX; (first | (have hq := b; clear hq; intro w b2 HX) | intro w b HX); simp only [Act.put, k_a, k_b, k_c]) | ((first | (refine sWN ?_; clear HX; intro w mm HX) | (refine sWP ?_; clear HX; intro w av nv cv HX)); simp only [Act.put, k_a, k_b, k_c]))
  go_loopg [5] l.length (fun k v5 wr => ∃ i : Nat, i + k = l.length ∧ v5 = .int .i64 (i : Int) ∧ Sep w0 wr (ThPool w0 P :: R) rows)
  case atStart => exact ⟨0, by omega, rfl, HX.out⟩
  case round =>
    rename World => w
    obtain ⟨i, hik, rfl, hS⟩ := hrel
    clear HX
    have HX := Lib.hid hS
    clear hS
    by_cases hlt : i < l.length
    case neg =>
      obtain rfl : i = l.length := by omega
      clear hlt hik
      go_wp2_with (first | (refine sWL ?_; simp only [Act.put, k_a, k_b, k_c, k_d, k_e, k_f, k_g, k_h, NodeS.cells, OpS.cells, ResS.cells]) | (refine sWM ?_; simp only [Act.put, k_a, k_b, k_c]) | ((first | refine sWS ?_ | refine sWT ?_); clear HX; intro w HX; simp only [Act.put, k_a, k_b, k_c, setMany, Nat.reduceAdd, NodeS.cells, OpS.cells, ResS.cells] at HX ⊢) | (refine sWA ?_; clear HX; (first | (have hq := b; clear hq; intro w b2 HX) | intro w b HX); simp only [Act.put, k_a, k_b, k_c]) | ((first | (refine sWN ?_; clear HX; intro w mm HX) | (refine sWP ?_; clear HX; intro w av nv cv HX)); simp only [Act.put, k_a, k_b, k_c]))
      go_ret
      exact ⟨rfl, HX.out⟩
    case pos =>
      have hnil : l.map sv ≠ [] := by intro e; rw [List.map_eq_nil_iff] at e; rw [e] at hlt; simp at hlt
      obtain ⟨g1, o1, rfl⟩ := HN1.out hnil
      obtain ⟨g2, o2, rfl⟩ := HN2.out hnil
      have hx : (l.map sv)[i]? = some (sv l[i]) := by rw [List.getElem?_map, List.getElem?_eq_getElem hlt]; rfl
      have HHX := Lib.hid hx
      have q0 : decide (i < l.length) = true := decide_eq_true hlt
      clear hnil hx
      go_wp2_with (first | (refine sWL ?_; simp only [Act.put, k_a, k_b, k_c, k_d, k_e, k_f, k_g, k_h, NodeS.cells, OpS.cells, ResS.cells]) | (refine sWM ?_; simp only [Act.put, k_a, k_b, k_c]) | ((first | refine sWS ?_ | refine sWT ?_); clear HX; intro w HX; simp only [Act.put, k_a, k_b, k_c, setMany, Nat.reduceAdd, NodeS.cells, OpS.cells, ResS.cells] at HX ⊢) | (refine sWA ?_; clear HX; (first | (have hq := b; clear hq; intro w b2 HX) | intro w b HX); simp only [Act.put, k_a, k_b, k_c]) | ((first | (refine sWN ?_; clear HX; intro w mm HX) | (refine sWP ?_; clear HX; intro w av nv cv HX)); simp only [Act.put, k_a, k_b, k_c]))
      refine wp_region_M (fun W => W = w.drew) 9 (by kernel_rfl) ?_
      replace HX := Lib.hid HX.out.drew
      generalize w.drew = w at HX ⊢
      obtain ⟨E, hE⟩ := HX.out.poolGet HA.out
      obtain ⟨E2, hE2⟩ := HX.out.poolGet HB.out
      have hl := row_load1 (P := Tryz.prog) (ty := 9) (i := i) hE (by kernel_rfl) HHX.out
      have hl2 := row_load1 (P := Tryz.prog) (ty := 9) (i := i) hE2 (by kernel_rfl) HHX.out
      obtain ⟨q, hq⟩ : ∃ q : ByteArray, (⟨l[i].toArray⟩ : ByteArray) = q := ⟨_, rfl⟩
      unfold sv at hl hl2
      rw [hq] at hl hl2
      clear hE hE2 hq
      have hql := beq_self_str q
      refine wpAnyM_take (by kernel_rfl) (by intro c a d v w h; cases d <;> exact h) [(0, false), (1, false), (2, false), (3, true), (4, false), (5, false), (6, false), (7, true), (8, false)] (fuel := 0) (by kernel_rfl) ?_
      apply Exists.intro; refine ⟨?_, rfl, ?_⟩
      · iterate 9 (refine yD ?_)
        exact rfl
      refine wpAnyM_done (by kernel_rfl) ?_ _
      clear hl hl2
      go_wp2_with (first | (refine sWL ?_; simp only [Act.put, k_a, k_b, k_c, k_d, k_e, k_f, k_g, k_h, NodeS.cells, OpS.cells, ResS.cells]) | (refine sWM ?_; simp only [Act.put, k_a, k_b, k_c]) | ((first | refine sWS ?_ | refine sWT ?_); clear HX; intro w HX; simp only [Act.put, k_a, k_b, k_c, setMany, Nat.reduceAdd, NodeS.cells, OpS.cells, ResS.cells] at HX ⊢) | (refine sWA ?_; clear HX; (first | (have hq := b; clear hq; intro w b2 HX) | intro w b HX); simp only [Act.put, k_a, k_b, k_c]) | ((first | (refine sWN ?_; clear HX; intro w mm HX) | (refine sWP ?_; clear HX; intro w av nv cv HX)); simp only [Act.put, k_a, k_b, k_c]))
      go_roundg (l.length - (i + 1))
      case rel => exact ⟨i + 1, by omega, by go_num, HX.out⟩
      case measure => omega
end
end Go.Proofs.YtjeaoopamebgjaaGreatDoor

namespace Go.Proofs.YtjeaoopamebgjaaGreatDoor
open Go.RowKit Go.Av
section
variable {w0 w : World} {P P' : List PRow} {R : List Thing} {rows : List (Value × Bs)}
set_option maxRecDepth 100000 in
theorem more10_any (n : Int) (w : World) (h : 0 ≤ n ∧ n ≤ 2147483647) : Calls Tryz.prog 108 #[.int .i64 n] w fun e w' => e = .returned (.int .i64 (moreS n)) ∧ w' = w := by
  unfold moreS
  by_cases h1 : 2147483647 ≤ n
  · rw [if_pos h1]
    go_enter Tryz.func108, Tryz.ntmps108
    go_wp2
    go_ret
    exact ⟨rfl, rfl⟩
  · rw [if_neg h1]
    go_enter Tryz.func108, Tryz.ntmps108
    go_wp2
    go_ret
    exact ⟨rfl, rfl⟩
set_option maxRecDepth 100000 in
set_option maxHeartbeats 2000000 in
theorem new10_any (h : Sep w0 w R rows) (zxid owner : Int) (data : ByteArray) : Calls Tryz.prog 106 #[.int .i64 zxid, .int .i64 owner, .string data] w fun e w' => e = .returned ((newS zxid owner data).val (.slice none 0 0)) ∧ Sep w0 w' R rows := by
  have HX := Lib.hid h
  clear h
  go_enter Tryz.func106, Tryz.ntmps106
  go_wp2_with (first | (refine sWL ?_; simp only [Act.put, k_a, k_b, k_c, k_d, k_e, k_f, k_g, k_h, NodeS.cells, OpS.cells, ResS.cells]) | (refine sWM ?_; simp only [Act.put, k_a, k_b, k_c]) | ((first | refine sWS ?_ | refine sWT ?_); clear HX; intro w HX; simp only [Act.put, k_a, k_b, k_c, setMany, Nat.reduceAdd, NodeS.cells, OpS.cells, ResS.cells] at HX ⊢) | (refine sWA ?_; clear HX; (first | (have hq := b; clear hq; intro w b2 HX) | intro w b HX); simp only [Act.put, k_a, k_b, k_c]) | ((first | (refine sWN ?_; clear HX; intro w mm HX) | (refine sWP ?_; clear HX; intro w av nv cv HX)); simp only [Act.put, k_a, k_b, k_c]))
  refine sx_ret HX rfl rfl (by (repeat (first | (with_reducible exact k_s) | (with_reducible apply k_m)))) (by kernel_rfl) ?_
  exact ⟨rfl, HX.out.drop⟩
set_option maxRecDepth 100000 in
set_option maxHeartbeats 2000000 in
theorem write10_any (h : Sep w0 w R rows) (n : NodeS) (a : Option Addr) (m c : Nat) (zxid : Int) (data : ByteArray) (hv : 0 ≤ n.ver ∧ n.ver ≤ 2147483647) :
    Calls Tryz.prog 76 #[n.val (.slice a m c), .int .i64 zxid, .string data] w fun e w' => e = .returned ((writeS n zxid data).val (.slice a m c)) ∧ Sep w0 w' R rows := by
  have HX := Lib.hid h
  clear h
  unfold NodeS.val NodeS.cells
  go_enter Tryz.func76, Tryz.ntmps76
  go_wp2_with (first | (refine sWL ?_; simp only [Act.put, k_a, k_b, k_c, k_d, k_e, k_f, k_g, k_h, NodeS.cells, OpS.cells, ResS.cells]) | (refine sWM ?_; simp only [Act.put, k_a, k_b, k_c]) | ((first | refine sWS ?_ | refine sWT ?_); clear HX; intro w HX; simp only [Act.put, k_a, k_b, k_c, setMany, Nat.reduceAdd, NodeS.cells, OpS.cells, ResS.cells] at HX ⊢) | (refine sWA ?_; clear HX; (first | (have hq := b; clear hq; intro w b2 HX) | intro w b HX); simp only [Act.put, k_a, k_b, k_c]) | ((first | (refine sWN ?_; clear HX; intro w mm HX) | (refine sWP ?_; clear HX; intro w av nv cv HX)); simp only [Act.put, k_a, k_b, k_c]))
  refine (more10_any _ _ hv).mono ?_
  rintro e w1 ⟨rfl, rfl⟩
  go_wp2_with (first | (refine sWL ?_; simp only [Act.put, k_a, k_b, k_c, k_d, k_e, k_f, k_g, k_h, NodeS.cells, OpS.cells, ResS.cells]) | (refine sWM ?_; simp only [Act.put, k_a, k_b, k_c]) | ((first | refine sWS ?_ | refine sWT ?_); clear HX; intro w HX; simp only [Act.put, k_a, k_b, k_c, setMany, Nat.reduceAdd, NodeS.cells, OpS.cells, ResS.cells] at HX ⊢) | (refine sWA ?_; clear HX; (first | (have hq := b; clear hq; intro w b2 HX) | intro w b HX); simp only [Act.put, k_a, k_b, k_c]) | ((first | (refine sWN ?_; clear HX; intro w mm HX) | (refine sWP ?_; clear HX; intro w av nv cv HX)); simp only [Act.put, k_a, k_b, k_c]))
  refine sx_ret HX rfl rfl (by (repeat (first | (with_reducible exact k_s) | (with_reducible apply k_m)))) (by kernel_rfl) ?_
  exact ⟨rfl, HX.out.drop.drop⟩
def PlcPost (w0 : World) (l : List Bs) (s : Bs) (R : List Thing) (rows : List (Value × Bs)) (e : Ending) (w' : World) : Prop :=
  e = .returned (.tuple #[.int .i64 (placeS l s : Nat), .bool (hasS l s)]) ∧ Sep w0 w' R rows
theorem place_pos {l : List Bs} {s : Bs} {i : Nat} (h : ∀ y ∈ l.take i, y < s) (hi : i ≤ l.length) (hs : ∀ (h : i < l.length), ¬ l[i] < s) : placeS l s = i := by
  unfold placeS
  rw [← List.take_append_drop i l, List.takeWhile_append_of_pos (fun y hy => by simpa using h y hy)]
  have : (l.drop i).takeWhile (fun y => decide (y < s)) = [] := by
    cases hd : l.drop i with
    | nil => rfl
    | cons y r =>
      have hlt : i < l.length := by
        rcases Nat.lt_or_ge i l.length with hh | hh
        · exact hh
        · rw [List.drop_eq_nil_of_le hh] at hd; cases hd
      rw [List.drop_eq_getElem_cons hlt] at hd
      injection hd with hd _
      rw [List.takeWhile_cons]
      have := hs hlt
      rw [hd] at this
      simp [this]
  rw [this, List.append_nil, List.length_take]
  omega
set_option maxRecDepth 100000 in
set_option maxHeartbeats 4000000 in
theorem place10_any (h : Sep w0 w (ThPool w0 P :: R) rows) (l : List Bs) (v : Value) (s : ByteArray) (hv : (1, v, l.map sv) ∈ P) (hn : l.length ≤ 100000) :
    Calls Tryz.prog 110 #[v, .string s] w (PlcPost w0 l s.data.toList (ThPool w0 P :: R) rows) := by
  obtain ⟨E, hE⟩ := h.poolGet hv
  obtain ⟨a, n, c, rfl, hl0, -, -, hne⟩ := ReadRow.some hE
  rw [List.length_map, Nat.mul_one] at hl0
  obtain rfl : l.length = n := hl0
  have HNE := Lib.hid hne
  have HV := Lib.hid hv
  have HX := Lib.hid h
  clear h hE hne hv
  go_enter Tryz.func110, Tryz.ntmps110
  go_wp2_with (first | (refine sWL ?_; simp only [Act.put, k_a, k_b, k_c, k_d, k_e, k_f, k_g, k_h, NodeS.cells, OpS.cells, ResS.cells]) | (refine sWM ?_; simp only [Act.put, k_a, k_b, k_c]) | ((first | refine sWS ?_ | refine sWT ?_); clear HX; intro w HX; simp only [Act.put, k_a, k_b, k_c, setMany, Nat.reduceAdd, NodeS.cells, OpS.cells, ResS.cells] at HX ⊢) | (refine sWA ?_; clear HX; (first | (have hq := b; clear hq; intro w b2 HX) | intro w b HX); simp only [Act.put, k_a, k_b, k_c]) | ((first | (refine sWN ?_; clear HX; intro w mm HX) | (refine sWP ?_; clear HX; intro w av nv cv HX)); simp only [Act.put, k_a, k_b, k_c]))
  go_loopg [6] l.length (fun k v wr => ∃ i : Nat, i + k = l.length ∧ v = .int .i64 (i : Int) ∧ (∀ y ∈ l.take i, y < s.data.toList) ∧ Sep w0 wr (ThPool w0 P :: R) rows)
  case atStart => exact ⟨0, by simp, rfl, by simp, HX.out⟩
  case round =>
    rename World => w
    obtain ⟨i, hik, rfl, hno, hS⟩ := hrel
    clear HX
    have HX := Lib.hid hS
    have HNO := Lib.hid hno
    clear hS hno
    by_cases hlt : i < l.length
    case neg =>
      obtain rfl : i = l.length := by omega
      have q0 : decide ((l.length : Int) < (l.length : Int)) = false := decide_eq_false (by omega)
      have q1 : decide (l.length < l.length) = false := decide_eq_false (by omega)
      have HPL := Lib.hid (place_pos (s := s.data.toList) HNO.out (Nat.le_refl _) (fun h => absurd h (Nat.lt_irrefl _)))
      have HHS := Lib.hid (show hasS l s.data.toList = false by unfold hasS; rw [HPL.out]; simp)
      clear hlt hik
      go_wp2_with (first | (refine sWL ?_; simp only [Act.put, k_a, k_b, k_c, k_d, k_e, k_f, k_g, k_h, NodeS.cells, OpS.cells, ResS.cells]) | (refine sWM ?_; simp only [Act.put, k_a, k_b, k_c]) | ((first | refine sWS ?_ | refine sWT ?_); clear HX; intro w HX; simp only [Act.put, k_a, k_b, k_c, setMany, Nat.reduceAdd, NodeS.cells, OpS.cells, ResS.cells] at HX ⊢) | (refine sWA ?_; clear HX; (first | (have hq := b; clear hq; intro w b2 HX) | intro w b HX); simp only [Act.put, k_a, k_b, k_c]) | ((first | (refine sWN ?_; clear HX; intro w mm HX) | (refine sWP ?_; clear HX; intro w av nv cv HX)); simp only [Act.put, k_a, k_b, k_c]))
      refine wp_region_M (fun W => W = w.drew) 15 (by kernel_rfl) ?_
      replace HX := Lib.hid HX.out.drew
      generalize w.drew = w at HX ⊢
      refine wpAnyM_take (by kernel_rfl) (by intro c a d v w h; cases d <;> exact h) [(0, false), (1, false), (2, false), (3, false), (4, false), (5, false), (6, false), (7, false), (8, false), (9, true), (10, false), (11, false), (12, false), (13, false), (14, false)] (fuel := 0) (by kernel_rfl) ?_
      apply Exists.intro; refine ⟨?_, rfl, ?_⟩
      · iterate 15 (first | refine yD ?_ | ((first | apply yieldP | apply yieldL); (· (simp only [k_i, k_j, k_k]; try rfl)); (· rfl); (· (intros; go_simp; (try simp only [q0, q1, ↓reduceIte, and_self, Int.toNat_natCast]); try with_reducible rfl)); (· (simp only [Act.put, k_a, k_b, k_c, k_d, k_e, k_f, k_g, k_h, NodeS.cells, OpS.cells, ResS.cells]; try rfl))))
        exact rfl
      refine wpAnyM_done (by kernel_rfl) ?_ _
      go_wp2_with (first | (refine sWL ?_; simp only [Act.put, k_a, k_b, k_c, k_d, k_e, k_f, k_g, k_h, NodeS.cells, OpS.cells, ResS.cells]) | (refine sWM ?_; simp only [Act.put, k_a, k_b, k_c]) | ((first | refine sWS ?_ | refine sWT ?_); clear HX; intro w HX; simp only [Act.put, k_a, k_b, k_c, setMany, Nat.reduceAdd, NodeS.cells, OpS.cells, ResS.cells] at HX ⊢) | (refine sWA ?_; clear HX; (first | (have hq := b; clear hq; intro w b2 HX) | intro w b HX); simp only [Act.put, k_a, k_b, k_c]) | ((first | (refine sWN ?_; clear HX; intro w mm HX) | (refine sWP ?_; clear HX; intro w av nv cv HX)); simp only [Act.put, k_a, k_b, k_c]))
      go_ret2
      refine ⟨?_, HX.out⟩
      rw [HPL.out, HHS.out]
      rfl
    case pos =>
      obtain ⟨g, off, rfl⟩ := HNE.out (by intro e; rw [List.map_eq_nil_iff] at e; rw [e] at hlt; simp at hlt)
      obtain ⟨E, hE⟩ := HX.out.poolGet HV.out
      have hl := row_load1 (P := Tryz.prog) (ty := 9) (i := i) (v := sv l[i]) hE (by kernel_rfl) (by simp [hlt])
      have HTK := Lib.hid (show l.take (i + 1) = l.take i ++ [l[i]] from List.take_succ_eq_append_getElem hlt)
      have HLI := Lib.hid (show (l.map sv)[i]? = some (sv l[i]) by simp [hlt])
      have hpp := fun hs => place_pos (s := s.data.toList) (i := i) HNO.out (Nat.le_of_lt hlt) hs
      have hget : l[i]? = some l[i] := List.getElem?_eq_getElem hlt
      obtain ⟨kb, hkb⟩ : ∃ kb : ByteArray, kb = ⟨l[i].toArray⟩ := ⟨_, rfl⟩
      have hkl : l[i] = kb.data.toList := by rw [hkb]
      rw [hkl] at hl HTK HLI hget
      have hpp : ¬ kb.data.toList < s.data.toList → placeS l s.data.toList = i := fun hh => hpp (fun h2 => by rw [hkl]; exact hh)
      have HPP := Lib.hid (show _ ∧ _ from ⟨hpp, hget⟩)
      have hsv : sv kb.data.toList = .string kb := rfl
      rw [hsv] at hl HLI
      have hbl : Op.bytesLess kb.toList s.toList = decide (kb.data.toList < s.data.toList) := by rw [bytesLess_eq, Lib.toList_data, Lib.toList_data]
      have hbe := strK_eq kb s
      have q0 : decide ((i : Int) < (l.length : Int)) = true := decide_eq_true (by omega)
      have q1 : decide (i < l.length) = true := decide_eq_true hlt
      clear hE hkb hkl hsv hpp hget
      cases hlt2 : Op.bytesLess kb.toList s.toList with
      | true =>
        have HLT := Lib.hid (of_decide_eq_true (hbl.symm.trans hlt2))
        clear hbl hbe
        go_wp2_with (first | (refine sWL ?_; simp only [Act.put, k_a, k_b, k_c, k_d, k_e, k_f, k_g, k_h, NodeS.cells, OpS.cells, ResS.cells]) | (refine sWM ?_; simp only [Act.put, k_a, k_b, k_c]) | ((first | refine sWS ?_ | refine sWT ?_); clear HX; intro w HX; simp only [Act.put, k_a, k_b, k_c, setMany, Nat.reduceAdd, NodeS.cells, OpS.cells, ResS.cells] at HX ⊢) | (refine sWA ?_; clear HX; (first | (have hq := b; clear hq; intro w b2 HX) | intro w b HX); simp only [Act.put, k_a, k_b, k_c]) | ((first | (refine sWN ?_; clear HX; intro w mm HX) | (refine sWP ?_; clear HX; intro w av nv cv HX)); simp only [Act.put, k_a, k_b, k_c]) | ((with_reducible apply sx_loadAt hl); (· rfl); (· rfl); simp only [Act.put, k_a, k_b, k_c]))
        go_roundg (l.length - (i + 1))
        case rel => exact ⟨i + 1, by omega, by go_num, by
          rw [HTK.out]
          intro y hy
          rcases List.mem_append.1 hy with hy | hy
          · exact HNO.out y hy
          · rw [List.mem_singleton] at hy; rw [hy]; exact HLT.out, HX.out⟩
        case measure => omega
      | false =>
        have hpl := HPP.out.1 (of_decide_eq_false (hbl.symm.trans hlt2))
        obtain ⟨be, hbe2⟩ : ∃ be, (kb.toList == s.toList) = be := ⟨_, rfl⟩
        have HHS := Lib.hid (show placeS l s.data.toList = i ∧ hasS l s.data.toList = be from ⟨hpl, by
          unfold hasS
          rw [hpl, HPP.out.2, ← hbe2, hbe]
          by_cases hh : kb.data.toList = s.data.toList
          · rw [hh]; simp
          · have h2 : ¬ some kb.data.toList = some s.data.toList := fun e => hh (Option.some.inj e)
            rw [decide_eq_false h2]
            exact (beq_eq_false_iff_ne.2 hh).symm⟩)
        clear hbl hbe hpl
        go_wp2_with (first | (refine sWL ?_; simp only [Act.put, k_a, k_b, k_c, k_d, k_e, k_f, k_g, k_h, NodeS.cells, OpS.cells, ResS.cells]) | (refine sWM ?_; simp only [Act.put, k_a, k_b, k_c]) | ((first | refine sWS ?_ | refine sWT ?_); clear HX; intro w HX; simp only [Act.put, k_a, k_b, k_c, setMany, Nat.reduceAdd, NodeS.cells, OpS.cells, ResS.cells] at HX ⊢) | (refine sWA ?_; clear HX; (first | (have hq := b; clear hq; intro w b2 HX) | intro w b HX); simp only [Act.put, k_a, k_b, k_c]) | ((first | (refine sWN ?_; clear HX; intro w mm HX) | (refine sWP ?_; clear HX; intro w av nv cv HX)); simp only [Act.put, k_a, k_b, k_c]) | ((with_reducible apply sx_loadAt hl); (· rfl); (· rfl); simp only [Act.put, k_a, k_b, k_c]))
        clear hl
        refine wp_region_M (fun W => W = w.drew) 15 (by kernel_rfl) ?_
        replace HX := Lib.hid HX.out.drew
        generalize w.drew = w at HX ⊢
        obtain ⟨E, hE⟩ := HX.out.poolGet HV.out
        have hl := row_load1 (P := Tryz.prog) (ty := 9) (i := i) (v := .string kb) hE (by kernel_rfl) HLI.out
        clear hE
        refine wpAnyM_take (by kernel_rfl) (by intro c a d v w h; cases d <;> exact h) [(0, false), (1, false), (2, false), (3, false), (4, false), (5, false), (6, false), (7, false), (8, false), (9, true), (10, false), (11, false), (12, false), (13, false), (14, false)] (fuel := 0) (by kernel_rfl) ?_
        apply Exists.intro; refine ⟨?_, rfl, ?_⟩
        · iterate 15 (first | refine yD ?_ | ((first | apply yieldP | apply yieldL); (· (simp only [k_i, k_j, k_k]; try rfl)); (· rfl); (· (intros; go_simp; (try simp only [q0, q1, hbe2, ↓reduceIte, and_self, Int.toNat_natCast]); try with_reducible rfl)); (· (simp only [Act.put, k_a, k_b, k_c, k_d, k_e, k_f, k_g, k_h, NodeS.cells, OpS.cells, ResS.cells]; try rfl))))
          exact rfl
        refine wpAnyM_done (by kernel_rfl) ?_ _
        clear hl
        go_wp2_with (first | (refine sWL ?_; simp only [Act.put, k_a, k_b, k_c, k_d, k_e, k_f, k_g, k_h, NodeS.cells, OpS.cells, ResS.cells]) | (refine sWM ?_; simp only [Act.put, k_a, k_b, k_c]) | ((first | refine sWS ?_ | refine sWT ?_); clear HX; intro w HX; simp only [Act.put, k_a, k_b, k_c, setMany, Nat.reduceAdd, NodeS.cells, OpS.cells, ResS.cells] at HX ⊢) | (refine sWA ?_; clear HX; (first | (have hq := b; clear hq; intro w b2 HX) | intro w b HX); simp only [Act.put, k_a, k_b, k_c]) | ((first | (refine sWN ?_; clear HX; intro w mm HX) | (refine sWP ?_; clear HX; intro w av nv cv HX)); simp only [Act.put, k_a, k_b, k_c]))
        go_ret2
        refine ⟨?_, HX.out⟩
        rw [HHS.out.1, HHS.out.2]
        rfl
end
end Go.Proofs.YtjeaoopamebgjaaGreatDoor

namespace Go.Av
open Go.RowKit
section
variable {P : Program} {w0 w : World} {R Ts Ts' : List Thing} {rows : List (Value × Bs)} {Pl : List PRow}
theorem Sep.poolPut {K K2 : Nat} {v v2 : Value} {xs ys : List Value} (h : Sep w0 w (ThPool w0 Pl :: R) rows) (hr : (K, v, xs) ∈ Pl) (hf : ∀ W E, ReadRow W K v xs E → ∃ E', ReadRow W K2 v2 ys E' ∧ ∀ b ∈ E', b ∈ E) : Sep w0 w (ThPool w0 ((K2, v2, ys) :: Pl) :: R) rows := by
  obtain ⟨F, hl, hu, hrr⟩ := h
  cases hl with
  | @cons _ D _ G h1 h2 h3 =>
    refine ⟨D ++ G, .cons ⟨h1.1, fun r hr' => ?_⟩ h2 h3, hu, hrr⟩
    rcases List.mem_cons.1 hr' with rfl | hr'
    · rcases h1.2 _ hr with ⟨E, hE, hED⟩ | ⟨E, hE⟩
      · obtain ⟨E', hE', hs⟩ := hf _ _ hE
        exact .inl ⟨E', hE', fun b hb => hED b (hs b hb)⟩
      · obtain ⟨E', hE', -⟩ := hf _ _ hE
        exact .inr ⟨E', hE'⟩
    · exact h1.2 r hr'
theorem Sep.poolTake {K : Nat} {a : Option Addr} {n c : Nat} {xs : List Value} (h : Sep w0 w (ThPool w0 Pl :: R) rows) (hr : (K, Value.slice a n c, xs) ∈ Pl) {k : Nat} (hk : k ≤ n) : Sep w0 w (ThPool w0 ((K, .slice a k c, xs.take (k * K)) :: Pl) :: R) rows :=
  h.poolPut hr fun _ E hE => ⟨E, hE.takeK hk, fun _ hb => hb⟩
theorem run_sliceAt {t e : TypeId} (ht : P.underlying t = some (.slice e)) (x : Value) (l h m : Option Value) (W : World) : (Instr.sliceAt t x l h m).run P W = (Instr.slice t x l h m).run P W := by
  unfold Instr.sliceAt
  rw [Sem.run_bind, run_underlying ht]
  rfl
theorem Sep.poolFrom {t e : TypeId} {i : TypeInfo} (ht : P.underlying t = some (.slice e)) (hi : P.info? e = some i) (hz : 0 < i.size) {a : Option Addr} {n c : Nat} {xs : List Value} (h : Sep w0 w (ThPool w0 Pl :: R) rows) (hr : (i.size, Value.slice a n c, xs) ∈ Pl) {lo : Nat} (h1 : lo ≤ n) :
    ∃ a', (∀ W, (Instr.sliceAt t (.slice a n c) (some (.int .i64 (lo : Int))) none none).run P W = .ok (.slice a' (n - lo) (c - lo)) W) ∧ Sep w0 w (ThPool w0 ((i.size, .slice a' (n - lo) (c - lo), xs.drop (lo * i.size)) :: Pl) :: R) rows := by
  obtain ⟨E, hE⟩ := h.poolGet hr
  obtain ⟨a', h2, -⟩ := Go.Proofs.YtjeaoopamebgjaaGreatDoor.slice_fromG ht hi hz hE lo h1
  refine ⟨a', fun W => (run_sliceAt ht _ _ _ _ W).trans (h2 W), h.poolPut hr fun W E hE => ?_⟩
  obtain ⟨a2, h3, E', h4, h5⟩ := Go.Proofs.YtjeaoopamebgjaaGreatDoor.slice_fromG ht hi hz hE lo h1
  have := (h2 W).symm.trans (h3 W)
  injection this with h6 _
  injection h6 with h7 _ _
  subst h7
  exact ⟨E', h4, h5⟩
end
section
variable {P : Program} {ops : Array Oper} {Q : Exit → Act → World → Prop} {a : Act} {w w0 : World} {rest : List Oper} {Ts Ts' : List Thing} {rows : List (Value × Bs)} {dst : Option Tmp} {tyy t e : TypeId} {pos : String} {aft : Array Edge}
theorem sx_lit0 (H : Hid (Sep w0 w Ts rows)) {K by_ : Nat} (hsl : SliceN P t e K by_)
    (k : ∀ w' b, Hid (Sep w0 w' (ThRow K (.slice (some ⟨b, 0, none⟩) 0 0) [] :: Ts) rows) → wpList P ops Q rest (a.put dst (.slice (some ⟨b, 0, none⟩) 0 0)) w') : wpList P ops Q (⟨dst, .buildSlice t 0 #[], tyy, pos, aft, none⟩ :: rest) a w := by
  obtain ⟨ii, z, hi, hz, hsz, hzs, -⟩ := hsl.info
  have hr : (Instr.buildSlice t 0 #[]).run P w = .ok (.slice (some ⟨w.heap.size, 0, none⟩) 0 0) (w.alloc (.cells #[] e)) := by
    simp [Instr.buildSlice, Sem.run_bind, run_underlying hsl.ut, sizeOf, typeInfo, hi, newRow, Instr.fill]
    have h0 : Array.range 0 = #[] := Array.eq_empty_of_size_eq_zero (by simp)
    rw [h0, Array.map_empty]
  have h0 : Sep w0 (w.alloc (.cells (([] : List Value).toArray) e)) (ThCell w.heap.size (.cells (([] : List Value).toArray) e (0, 0)) :: Ts) rows := H.out.newCell _
  have hk := k (w.alloc (.cells #[] e)) w.heap.size (Lib.hid (Sep.cellRow (K := K) (n := 0) h0 (by simp) (by omega)))
  refine wpList_ran (w' := w.alloc (.cells #[] e)) (v := .slice (some ⟨w.heap.size, 0, none⟩) 0 0) ?_ ?_ hk
  · simp [Region.wanted]
  · unfold execOp
    dsimp only
    rw [Array.map_empty]
    exact run_val hr
theorem sx_appP (H : Hid (Sep w0 w Ts rows)) {K by_ : Nat} {s x : Operand} {av a2 : Option Addr} {nv cv n2 c2 : Nat} {xs ys : List Value} {Pl : List PRow} (hsl : SliceN P t e K by_) (hs : a.eval s = .slice av nv cv) (hx : a.eval x = .slice a2 n2 c2)
    (hr : Rem (ThRow K (.slice av nv cv) xs) Ts Ts') (hm : ThPool w0 Pl ∈ Ts) (hrow : (K, Value.slice a2 n2 c2, ys) ∈ Pl) (h1 : ∀ u ∈ ys, u.oneCell' = true) (hb : ∀ n m, xs.length = n * K → ys.length = m * K → (n + m) ≤ 140737488355328 ∧ (n + m) * by_ ≤ 140737488355328)
    (k : ∀ w' a' n' c', Hid (Sep w0 w' (ThRow K (.slice a' n' c') (xs ++ ys) :: Ts') rows) → wpList P ops Q rest (a.put dst (.slice a' n' c')) w') :
    wpList P ops Q (⟨dst, .call { callee := .builtin .append, args := #[s, x], argTypes := #[t, t] }, tyy, pos, aft, none⟩ :: rest) a w := by
  obtain ⟨D, hD⟩ := H.out.has hm
  have : ∃ E, ReadRow w K (.slice a2 n2 c2) ys E := by
    rcases hD.2 _ hrow with ⟨E, hE, -⟩ | ⟨E, hE⟩
    · exact ⟨E, hE⟩
    · exact ⟨E, hE.frame (fun b hb => H.out.below.block b (hE.lt b hb))⟩
  obtain ⟨E, hE⟩ := this
  obtain ⟨m, hm1, hsrc⟩ := hE.src hsl.ut h1
  exact sx_app H hsl hs hx hr hsrc (fun n hn => hb n m hn hm1) k
end
end Go.Av

namespace Go.Proofs.YtjeaoopamebgjaaGreatDoor
open Go.RowKit Go.Av
section
variable {w0 w : World} {P P' : List PRow} {R : List Thing} {rows : List (Value × Bs)}
def NodPost (w0 : World) (P : List PRow) (R : List Thing) (rows : List (Value × Bs)) (n : NodeS) (ok : Bool) (e : Ending) (w' : World) : Prop :=
  ∃ nv P', e = .returned (.tuple #[n.val nv, .bool ok]) ∧ (∀ q ∈ P, q ∈ P') ∧ (1, nv, n.names.map sv) ∈ P' ∧ Sep w0 w' (ThPool w0 P' :: R) rows
theorem str_info : ∃ i, Tryz.prog.info? 9 = some i ∧ i.size = 1 := by
  obtain ⟨i, z, h1, -, h2, -⟩ := sl_str.info
  exact ⟨i, h1, h2⟩
set_option maxRecDepth 100000 in
set_option maxHeartbeats 4000000 in
theorem remove10_any (h : Sep w0 w (ThPool w0 P :: R) rows) (n : NodeS) (va : Value) (s : ByteArray) (hv : (1, va, n.names.map sv) ∈ P) (hok : NodeOk n) :
    Calls Tryz.prog 80 #[n.val va, .string s] w (NodPost w0 P R rows (remS n s.data.toList) (hasS n.names s.data.toList)) := by
  obtain ⟨E, hE⟩ := h.poolGet hv
  obtain ⟨a, m, c, rfl, hl0, hmc, hcm, hne⟩ := ReadRow.some hE
  have HNE := Lib.hid hne
  rw [List.length_map, Nat.mul_one] at hl0
  obtain rfl : n.names.length = m := hl0
  have HV := Lib.hid hv
  have HX := Lib.hid h
  have HOK := Lib.hid hok
  obtain ⟨hb, hhb⟩ : ∃ hb, hasS n.names s.data.toList = hb := ⟨_, rfl⟩
  have HHB := Lib.hid hhb
  clear h hE hv hok hne
  rw [hhb]
  unfold NodeS.val NodeS.cells
  go_enter Tryz.func80, Tryz.ntmps80
  go_wp2_with (first | (refine sWL ?_; simp only [Act.put, k_a, k_b, k_c, k_d, k_e, k_f, k_g, k_h, NodeS.cells, OpS.cells, ResS.cells]) | (refine sWM ?_; simp only [Act.put, k_a, k_b, k_c]) | ((first | refine sWS ?_ | refine sWT ?_); clear HX; intro w HX; simp only [Act.put, k_a, k_b, k_c, setMany, Nat.reduceAdd, NodeS.cells, OpS.cells, ResS.cells] at HX ⊢) | (refine sWA ?_; clear HX; (first | (have hq := b3; clear hq; intro w b4 HX) | (have hq := b2; clear hq; intro w b3 HX) | (have hq := b; clear hq; intro w b2 HX) | intro w b HX); simp only [Act.put, k_a, k_b, k_c]) | ((first | (refine sWN ?_; clear HX; intro w mm HX) | (refine sWP ?_; clear HX; intro w av nv cv HX)); simp only [Act.put, k_a, k_b, k_c]))
  refine (place10_any HX.out.up2 n.names _ s HV.out (by have := HOK.out.few; omega)).mono ?_
  unfold PlcPost
  rw [hhb]
  rintro e w ⟨rfl, hx⟩
  clear HX hhb
  have HX := Lib.hid hx
  clear hx
  cases hb with
  | false =>
    go_wp2_with (first | (refine sWL ?_; simp only [Act.put, k_a, k_b, k_c, k_d, k_e, k_f, k_g, k_h, NodeS.cells, OpS.cells, ResS.cells]) | (refine sWM ?_; simp only [Act.put, k_a, k_b, k_c]) | ((first | refine sWS ?_ | refine sWT ?_); clear HX; intro w HX; simp only [Act.put, k_a, k_b, k_c, setMany, Nat.reduceAdd, NodeS.cells, OpS.cells, ResS.cells] at HX ⊢) | (refine sWA ?_; clear HX; (first | (have hq := b3; clear hq; intro w b4 HX) | (have hq := b2; clear hq; intro w b3 HX) | (have hq := b; clear hq; intro w b2 HX) | intro w b HX); simp only [Act.put, k_a, k_b, k_c]) | ((first | (refine sWN ?_; clear HX; intro w mm HX) | (refine sWP ?_; clear HX; intro w av nv cv HX)); simp only [Act.put, k_a, k_b, k_c]))
    refine sx_ret2 HX rfl rfl (by (repeat (first | (with_reducible exact k_s) | (with_reducible apply k_m)))) (by kernel_rfl) ?_
    refine ⟨.slice a n.names.length c, P, ?_, fun q hq => hq, ?_, HX.out.cut1.cut1⟩
    · unfold remS
      rw [HHB.out]
      rfl
    · unfold remS
      rw [HHB.out]
      exact HV.out
  | true =>
    have hpl : placeS n.names s.data.toList < n.names.length := by
      have := HHB.out
      unfold hasS at this
      exact (List.getElem?_eq_some_iff.1 (of_decide_eq_true this)).1
    obtain ⟨k, hk⟩ : ∃ k, placeS n.names s.data.toList = k := ⟨_, rfl⟩
    rw [hk] at hpl ⊢
    have HK := Lib.hid hk
    clear hk
    obtain ⟨g, off, rfl⟩ := HNE.out (by intro e; rw [List.map_eq_nil_iff] at e; rw [e] at hpl; simp at hpl)
    obtain ⟨i0, hi0, hz0⟩ := str_info
    have h1 := Sep.poolTake HX.out HV.out (Nat.le_of_lt hpl)
    have h2 := Sep.poolFrom (P := Tryz.prog) Tryz.underlying29 hi0 (by omega) (lo := k + 1) h1 (by rw [hz0]; exact k_n _ HV.out) hpl
    rw [hz0] at h2
    obtain ⟨a', hs2, h3⟩ := h2
    rw [show (((k + 1 : Nat)) : Int) = (k : Int) + 1 by omega] at hs2
    have hs1 := fun W => (run_sliceAt (P := Tryz.prog) Tryz.underlying29 _ _ _ _ W).trans (run_slice_hi (P := Tryz.prog) Tryz.underlying29 hi0 (some ⟨g, off, none⟩) n.names.length c k (by omega) W)
    rw [Nat.mul_one, Nat.mul_one, ← List.map_take, ← List.map_drop] at h3
    clear HX h1
    have HX := Lib.hid h3
    have hfew : n.names.length ≤ 100000 := HOK.out.few
    clear h3
    obtain ⟨P2, hP2⟩ : ∃ P2, (1, Value.slice a' (n.names.length - (k + 1)) (c - (k + 1)), (n.names.drop (k + 1)).map sv) :: (1, Value.slice (some ⟨g, off, none⟩) k c, (n.names.take k).map sv) :: P = P2 := ⟨_, rfl⟩
    rw [hP2] at HX
    have HMEM := Lib.hid (show (1, Value.slice (some ⟨g, off, none⟩) k c, (n.names.take k).map sv) ∈ P2 ∧ (1, Value.slice a' (n.names.length - (k + 1)) (c - (k + 1)), (n.names.drop (k + 1)).map sv) ∈ P2 by rw [← hP2]; simp)
    have HSUB := Lib.hid (show ∀ q ∈ P, q ∈ P2 by rw [← hP2]; exact fun q hq => k_n _ (k_n _ hq))
    clear hP2
    have hif : (if c = k + 1 then some (⟨g, off, none⟩ : Addr) else some ⟨g, off + (k + 1), none⟩) = a' := by
      have h4 := (run_sliceAt (P := Tryz.prog) Tryz.underlying29 (.slice (some ⟨g, off, none⟩) n.names.length c) (some (.int .i64 ((k + 1 : Nat) : Int))) none none w).trans (slice_runG Tryz.underlying29 hi0 g off n.names.length c (k + 1) hpl w)
      rw [show (((k + 1 : Nat)) : Int) = (k : Int) + 1 by omega] at h4
      have h5 := (hs2 w).symm.trans h4
      injection h5 with h6 _
      injection h6 with h7 _ _
      rw [h7, hz0, Nat.mul_one]
      split <;> rfl
    have hw1 : IntKind.i64.wrap ((k : Int) + 1) = (k : Int) + 1 := IntWalk.i64_in _ (by omega)
    have hw2 : (0 ≤ (k : Int) + 1 ∧ (k : Int) + 1 ≤ (n.names.length : Int)) = True := eq_true ⟨by omega, by omega⟩
    have hw3 : ((k : Int) + 1).toNat = k + 1 := by omega
    clear hs1 hs2 hi0 hz0
    have hw0 : (k ≤ c) = True := eq_true (by omega)
    go_wp2_with (first | (refine sWL ?_; simp only [Act.put, k_a, k_b, k_c, k_d, k_e, k_f, k_g, k_h, NodeS.cells, OpS.cells, ResS.cells]) | (refine sWM ?_; simp only [Act.put, k_a, k_b, k_c]) | ((first | refine sWS ?_ | refine sWT ?_); clear HX; intro w HX; simp only [Act.put, k_a, k_b, k_c, setMany, Nat.reduceAdd, NodeS.cells, OpS.cells, ResS.cells] at HX ⊢) | (refine sWA ?_; clear HX; (first | (have hq := b3; clear hq; intro w b4 HX) | (have hq := b2; clear hq; intro w b3 HX) | (have hq := b; clear hq; intro w b2 HX) | intro w b HX); simp only [Act.put, k_a, k_b, k_c]) | ((first | (refine sWN ?_; clear HX; intro w mm HX) | (refine sWP ?_; clear HX; intro w av nv cv HX)); simp only [Act.put, k_a, k_b, k_c]))
    refine wp_region_M (fun W => Sep w0 W (ThPool w0 P2 :: ThCell b2 (.cells #[.int .i64 0, .int .i64 0, .int .i64 0, .int .i64 0, .int .i64 0, .int .i64 0, .int .i64 0, .string ⟨#[]⟩, .int .i64 0, .slice none 0 0] 84 (0, 0)) :: ThCell b (.cells #[.int .i64 n.made, .int .i64 n.changed, .int .i64 n.ver, .int .i64 n.kids, .int .i64 n.owner, .int .i64 (n.data.size : Nat), .int .i64 (n.names.length : Nat), .string n.data, .int .i64 n.next, .slice (some ⟨g, off, none⟩) n.names.length c] 84 (0, 0)) :: R) rows) 12 (by kernel_rfl) ?_
    have KEEPX : ∀ W, Sep w0 W (ThPool w0 P2 :: ThCell b2 (.cells #[.int .i64 0, .int .i64 0, .int .i64 0, .int .i64 0, .int .i64 0, .int .i64 0, .int .i64 0, .string ⟨#[]⟩, .int .i64 0, .slice none 0 0] 84 (0, 0)) :: ThCell b (.cells #[.int .i64 n.made, .int .i64 n.changed, .int .i64 n.ver, .int .i64 n.kids, .int .i64 n.owner, .int .i64 (n.data.size : Nat), .int .i64 (n.names.length : Nat), .string n.data, .int .i64 n.next, .slice (some ⟨g, off, none⟩) n.names.length c] 84 (0, 0)) :: R) rows → Sep w0 W (ThPool w0 P2 :: ThCell b2 (.cells #[.int .i64 0, .int .i64 0, .int .i64 0, .int .i64 0, .int .i64 0, .int .i64 0, .int .i64 0, .string ⟨#[]⟩, .int .i64 0, .slice none 0 0] 84 (0, 0)) :: ThCell b (.cells #[.int .i64 n.made, .int .i64 n.changed, .int .i64 n.ver, .int .i64 n.kids, .int .i64 n.owner, .int .i64 (n.data.size : Nat), .int .i64 (n.names.length : Nat), .string n.data, .int .i64 n.next, .slice (some ⟨g, off, none⟩) n.names.length c] 84 (0, 0)) :: R) rows := fun _ h => h
    replace HX := Lib.hid HX.out.drew
    refine wpAnyM_take (by kernel_rfl) (by intro c a d v w h; cases d <;> exact h) [(1, false), (2, true), (3, false), (4, false), (6, false), (7, true), (8, false), (9, false), (10, false)] (fuel := 5) (by kernel_rfl) ?_
    apply Exists.intro; refine ⟨?_, HX.out, ?_⟩
    · iterate 9 (first | refine yE ?_ | ((first | apply yieldP | apply yieldL); (· (simp only [k_i, k_j, k_k]; try rfl)); (· rfl); (· (intros; go_simp; (try simp only [hw0, hw1, hw2, hw3, hif, ↓reduceIte, and_self, Int.toNat_natCast]); try with_reducible rfl)); (· (simp only [Act.put, k_a, k_b, k_c, k_d, k_e, k_f, k_g, k_h, NodeS.cells, OpS.cells, ResS.cells]; try rfl))))
      exact rfl
    refine wpAnyM_one (fuel := 4) (i := 0) (by kernel_rfl) (by (simp only [k_i, k_j, k_k]; try rfl)) (fun K hK => ?_)    -- buildSlice
    go_wp2_with (first | (refine sWL ?_; simp only [Act.put, k_a, k_b, k_c, k_d, k_e, k_f, k_g, k_h, NodeS.cells, OpS.cells, ResS.cells]) | (refine sWM ?_; simp only [Act.put, k_a, k_b, k_c]) | ((first | refine sWS ?_ | refine sWT ?_); clear HX; intro w HX; simp only [Act.put, k_a, k_b, k_c, setMany, Nat.reduceAdd, NodeS.cells, OpS.cells, ResS.cells] at HX ⊢) | (refine sWA ?_; clear HX; (first | (have hq := b3; clear hq; intro w b4 HX) | (have hq := b2; clear hq; intro w b3 HX) | (have hq := b; clear hq; intro w b2 HX) | intro w b HX); simp only [Act.put, k_a, k_b, k_c]) | ((first | (refine sWN ?_; clear HX; intro w mm HX) | (refine sWP ?_; clear HX; intro w av nv cv HX)); simp only [Act.put, k_a, k_b, k_c]) | (refine sx_lit0 HX sl_str ?_; clear HX; intro w b3 HX; simp only [Act.put, k_a, k_b, k_c]))
    refine hK _ _ HX.out.drop ?_
    clear hK
    refine wpAnyM_one (fuel := 3) (i := 5) (by kernel_rfl) (by (simp only [k_i, k_j, k_k]; try rfl)) (fun K hK => ?_)
    go_wp2_with (first | (refine sWL ?_; simp only [Act.put, k_a, k_b, k_c, k_d, k_e, k_f, k_g, k_h, NodeS.cells, OpS.cells, ResS.cells]) | (refine sWM ?_; simp only [Act.put, k_a, k_b, k_c]) | ((first | refine sWS ?_ | refine sWT ?_); clear HX; intro w HX; simp only [Act.put, k_a, k_b, k_c, setMany, Nat.reduceAdd, NodeS.cells, OpS.cells, ResS.cells] at HX ⊢) | (refine sWA ?_; clear HX; (first | (have hq := b3; clear hq; intro w b4 HX) | (have hq := b2; clear hq; intro w b3 HX) | (have hq := b; clear hq; intro w b2 HX) | intro w b HX); simp only [Act.put, k_a, k_b, k_c]) | ((first | (refine sWN ?_; clear HX; intro w mm HX) | (refine sWP ?_; clear HX; intro w av nv cv HX)); simp only [Act.put, k_a, k_b, k_c]) | ((with_reducible apply sx_appP HX); (· exact sl_str); (· rfl); (· rfl); (· (repeat (first | (with_reducible exact Rem.here) | (with_reducible apply Rem.there)))); (· (repeat (first | (with_reducible exact k_s) | (with_reducible apply k_m)))); (· (first | exact HMEM.out.1 | exact HMEM.out.2)); (· exact sv_one); (· (intro n m hn hm; simp only [List.length_nil, List.length_append, List.length_map, List.length_take, List.length_drop, List.length_cons] at hn hm; omega)); clear HX; intro w av nv cv HX; simp only [Act.put, k_a, k_b, k_c]))
    refine hK _ _ HX.out.drop ?_
    clear hK
    refine wpAnyM_one (fuel := 2) (i := 11) (by kernel_rfl) (by (simp only [k_i, k_j, k_k]; try rfl)) (fun K hK => ?_)
    go_wp2_with (first | (refine sWL ?_; simp only [Act.put, k_a, k_b, k_c, k_d, k_e, k_f, k_g, k_h, NodeS.cells, OpS.cells, ResS.cells]) | (refine sWM ?_; simp only [Act.put, k_a, k_b, k_c]) | ((first | refine sWS ?_ | refine sWT ?_); clear HX; intro w HX; simp only [Act.put, k_a, k_b, k_c, setMany, Nat.reduceAdd, NodeS.cells, OpS.cells, ResS.cells] at HX ⊢) | (refine sWA ?_; clear HX; (first | (have hq := b3; clear hq; intro w b4 HX) | (have hq := b2; clear hq; intro w b3 HX) | (have hq := b; clear hq; intro w b2 HX) | intro w b HX); simp only [Act.put, k_a, k_b, k_c]) | ((first | (refine sWN ?_; clear HX; intro w mm HX) | (refine sWP ?_; clear HX; intro w av nv cv HX)); simp only [Act.put, k_a, k_b, k_c]) | ((with_reducible apply sx_appP HX); (· exact sl_str); (· rfl); (· rfl); (· (repeat (first | (with_reducible exact Rem.here) | (with_reducible apply Rem.there)))); (· (repeat (first | (with_reducible exact k_s) | (with_reducible apply k_m)))); (· (first | exact HMEM.out.1 | exact HMEM.out.2)); (· exact sv_one); (· (intro n m hn hm; simp only [List.length_nil, List.length_append, List.length_map, List.length_take, List.length_drop, List.length_cons] at hn hm; omega)); clear HX; intro w av nv cv HX; simp only [Act.put, k_a, k_b, k_c]))
    refine hK _ _ HX.out.drop ?_
    clear hK
    refine wpAnyM_of_any _ _ _ _ (by decide) ?_
    refine wpAny_list [12, 13] (fuel := 0) (by kernel_rfl) ?_
    simp only [List.filterMap_cons, List.filterMap_nil, k_i, k_j, k_k]
    have hnm : ([] ++ (n.names.take k).map sv ++ (n.names.drop (k + 1)).map sv) = (delS n.names s.data.toList).map sv := by
      rw [List.nil_append, ← List.map_append]
      unfold delS
      rw [HK.out]
    rw [hnm] at HX
    have hnl : nv = (delS n.names s.data.toList).length := by
      obtain ⟨_, _, _, e, hl, -, -⟩ := HX.out.rowLen
      simp only [Value.slice.injEq] at e
      obtain ⟨rfl, rfl, rfl⟩ := e
      rw [List.length_map, Nat.mul_one] at hl
      exact hl.symm
    subst hnl
    clear hnm
    go_step
    go_step
    refine sWT ?_
    clear HX
    intro w HX
    simp only [Act.put, k_a, k_b, k_c] at HX ⊢
    go_wp2_with (first | (refine sWL ?_; simp only [Act.put, k_a, k_b, k_c, k_d, k_e, k_f, k_g, k_h, NodeS.cells, OpS.cells, ResS.cells]) | (refine sWM ?_; simp only [Act.put, k_a, k_b, k_c]) | ((first | refine sWS ?_ | refine sWT ?_); clear HX; intro w HX; simp only [Act.put, k_a, k_b, k_c, setMany, Nat.reduceAdd, NodeS.cells, OpS.cells, ResS.cells] at HX ⊢) | (refine sWA ?_; clear HX; (first | (have hq := b3; clear hq; intro w b4 HX) | (have hq := b2; clear hq; intro w b3 HX) | (have hq := b; clear hq; intro w b2 HX) | intro w b HX); simp only [Act.put, k_a, k_b, k_c]) | ((first | (refine sWN ?_; clear HX; intro w mm HX) | (refine sWP ?_; clear HX; intro w av nv cv HX)); simp only [Act.put, k_a, k_b, k_c]))
    refine (more10_any _ _ HOK.out.kids).mono ?_
    rintro e w1 ⟨rfl, rfl⟩
    go_wp2_with (first | (refine sWL ?_; simp only [Act.put, k_a, k_b, k_c, k_d, k_e, k_f, k_g, k_h, NodeS.cells, OpS.cells, ResS.cells]) | (refine sWM ?_; simp only [Act.put, k_a, k_b, k_c]) | ((first | refine sWS ?_ | refine sWT ?_); clear HX; intro w HX; simp only [Act.put, k_a, k_b, k_c, setMany, Nat.reduceAdd, NodeS.cells, OpS.cells, ResS.cells] at HX ⊢) | (refine sWA ?_; clear HX; (first | (have hq := b3; clear hq; intro w b4 HX) | (have hq := b2; clear hq; intro w b3 HX) | (have hq := b; clear hq; intro w b2 HX) | intro w b HX); simp only [Act.put, k_a, k_b, k_c]) | ((first | (refine sWN ?_; clear HX; intro w mm HX) | (refine sWP ?_; clear HX; intro w av nv cv HX)); simp only [Act.put, k_a, k_b, k_c]))
    refine sx_ret2 HX rfl rfl (by (repeat (first | (with_reducible exact k_s) | (with_reducible apply k_m)))) (by kernel_rfl) ?_
    refine ⟨.slice av (delS n.names s.data.toList).length cv, _, ?_, fun q hq => k_n _ (HSUB.out q hq), ?_, HX.out.poolRow.cut1.cut1⟩
    · unfold remS
      rw [HHB.out]
      rfl
    · unfold remS
      rw [HHB.out]
      exact k_s
end
end Go.Proofs.YtjeaoopamebgjaaGreatDoor

namespace Go.Av
section
variable {P : Program} {ops : Array Oper} {Q : Exit → Act → World → Prop} {md : Region.Mode} {S : World → Prop}
theorem wpAnyM_each {N : Nat} {fuel : Nat} {listed : Array Bool} {a : Act} {w : World} (rs : List Nat) (hr : Region.ready md ops listed = rs) (hne : rs ≠ [])
    (h : ∀ i ∈ rs, ∃ o, ops[i]? = some o ∧ ∀ K : Act → World → Prop, (∀ a' w', S w' → wpAnyM P md ops Q S N fuel (listed.setIfInBounds i true) a' w' → K a' w') → wpList P ops (Exit.then K Q) [o] a w) :
    wpAnyM P md ops Q S N (fuel + 1) listed a w := by
  refine ⟨fun h0 => absurd (hr.symm.trans h0) hne, fun j hj => ?_⟩
  rw [hr] at hj
  obtain ⟨o, ho, h⟩ := h j hj
  have h := h (fun a' w' => (j < N → S w → S w') ∧ wpAnyM P md ops Q S N fuel (listed.setIfInBounds j true) a' w') (fun a' w' h1 h2 => ⟨fun _ _ => h1, h2⟩)
  unfold wpList at h
  unfold wpOp
  simp only [ho]
  by_cases hw : Region.wanted o (yielded ops a.tmps) = true
  · rw [if_pos hw] at h ⊢
    rcases h with h | ⟨h1, h2⟩
    · refine .inl ?_
      unfold Oper.wp at h ⊢
      generalize (execOp a.eval o).run P w = r at h ⊢
      cases r with
      | ok n w' =>
        cases n <;> simp only [Oper.upon, wpList, Exit.then] at h ⊢
        case value => exact h
        case skip => exact h
        case defer => exact h
        case enter =>
          refine Calls.mono h fun e w'' he => ?_
          cases e with
          | returned v => exact he
          | panicked c => exact he
          | outgrown => exact he
        case row => exact h
      | halt x w' => cases x <;> simp only [Oper.upon, Exit.then] at h ⊢ <;> exact h
    · exact .inr ⟨h1, h2⟩
  · rw [if_neg hw] at h ⊢
    exact h
end
end Go.Av

namespace Go.Proofs.YtjeaoopamebgjaaGreatDoor
open Go.RowKit Go.Av
section
variable {w0 w : World} {P P' : List PRow} {R : List Thing} {rows : List (Value × Bs)}
theorem slice_runX {P : Program} {t e : TypeId} {i : TypeInfo} (ht : P.underlying t = some (.slice e)) (hi : P.info? e = some i) (x : Addr) (n c lo : Nat) (h1 : lo ≤ n) (W : World) :
    (Instr.slice t (.slice (some x) n c) (some (.int .i64 (lo : Int))) none none).run P W = .ok (.slice (if c = lo then some x else some (x.add (lo * i.size))) (n - lo) (c - lo)) W := by
  simp [Instr.slice, run_underlying ht, Instr.sliceBounds, Instr.sliceBound, asIntOf, h1, sizeOf, typeInfo, hi, Result.andThen]
set_option maxRecDepth 100000 in
set_option maxHeartbeats 8000000 in
theorem add10_any (h : Sep w0 w (ThPool w0 P :: R) rows) (n : NodeS) (va : Value) (s : ByteArray) (hv : (1, va, n.names.map sv) ∈ P) (hok : NodeOk n) :
    Calls Tryz.prog 105 #[n.val va, .string s] w (NodPost w0 P R rows (addS n s.data.toList) (!hasS n.names s.data.toList)) := by
  obtain ⟨E, hE⟩ := h.poolGet hv
  obtain ⟨a, m, c, rfl, hl0, hmc, hcm, hne⟩ := ReadRow.some hE
  have hnil : a = none → c = 0 := by
    obtain ⟨_, _, _, e, -, -, -, hz, -⟩ := hE
    simp only [Value.slice.injEq] at e
    obtain ⟨rfl, rfl, rfl⟩ := e
    exact hz
  have HNE := Lib.hid hne
  rw [List.length_map, Nat.mul_one] at hl0
  obtain rfl : n.names.length = m := hl0
  have HV := Lib.hid hv
  have HX := Lib.hid h
  have HOK := Lib.hid hok
  have HNIL := Lib.hid hnil
  obtain ⟨hb, hhb⟩ : ∃ hb, hasS n.names s.data.toList = hb := ⟨_, rfl⟩
  have HHB := Lib.hid hhb
  clear h hE hv hok hne hnil
  rw [hhb]
  unfold NodeS.val NodeS.cells
  go_enter Tryz.func105, Tryz.ntmps105
  go_wp2_with (first | (refine sWL ?_; simp only [Act.put, k_a, k_b, k_c, k_d, k_e, k_f, k_g, k_h, NodeS.cells, OpS.cells, ResS.cells]) | (refine sWM ?_; simp only [Act.put, k_a, k_b, k_c]) | ((first | refine sWS ?_ | refine sWT ?_); clear HX; intro w HX; simp only [Act.put, k_a, k_b, k_c, setMany, Nat.reduceAdd, NodeS.cells, OpS.cells, ResS.cells] at HX ⊢) | (refine sWA ?_; clear HX; (first | (have hq := b4; clear hq; intro w b5 HX) | (have hq := b3; clear hq; intro w b4 HX) | (have hq := b2; clear hq; intro w b3 HX) | (have hq := b; clear hq; intro w b2 HX) | intro w b HX); simp only [Act.put, k_a, k_b, k_c]) | ((first | (refine sWN ?_; clear HX; intro w mm HX) | (refine sWP ?_; clear HX; intro w av nv cv HX)); simp only [Act.put, k_a, k_b, k_c]))
  refine (place10_any HX.out.up2 n.names _ s HV.out (by have := HOK.out.few; omega)).mono ?_
  unfold PlcPost
  rw [hhb]
  rintro e w ⟨rfl, hx⟩
  clear HX hhb
  have HX := Lib.hid hx
  clear hx
  cases hb with
  | true =>
    go_wp2_with (first | (refine sWL ?_; simp only [Act.put, k_a, k_b, k_c, k_d, k_e, k_f, k_g, k_h, NodeS.cells, OpS.cells, ResS.cells]) | (refine sWM ?_; simp only [Act.put, k_a, k_b, k_c]) | ((first | refine sWS ?_ | refine sWT ?_); clear HX; intro w HX; simp only [Act.put, k_a, k_b, k_c, setMany, Nat.reduceAdd, NodeS.cells, OpS.cells, ResS.cells] at HX ⊢) | (refine sWA ?_; clear HX; (first | (have hq := b4; clear hq; intro w b5 HX) | (have hq := b3; clear hq; intro w b4 HX) | (have hq := b2; clear hq; intro w b3 HX) | (have hq := b; clear hq; intro w b2 HX) | intro w b HX); simp only [Act.put, k_a, k_b, k_c]) | ((first | (refine sWN ?_; clear HX; intro w mm HX) | (refine sWP ?_; clear HX; intro w av nv cv HX)); simp only [Act.put, k_a, k_b, k_c]))
    refine sx_ret2 HX rfl rfl (by (repeat (first | (with_reducible exact k_s) | (with_reducible apply k_m)))) (by kernel_rfl) ?_
    refine ⟨.slice a n.names.length c, P, ?_, fun q hq => hq, ?_, HX.out.cut1.cut1⟩
    · unfold addS
      rw [HHB.out]
      rfl
    · unfold addS
      rw [HHB.out]
      exact HV.out
  | false =>
    have hpl : placeS n.names s.data.toList ≤ n.names.length := placeS_le _ _
    obtain ⟨k, hk⟩ : ∃ k, placeS n.names s.data.toList = k := ⟨_, rfl⟩
    rw [hk] at hpl ⊢
    have HK := Lib.hid hk
    have hfew : n.names.length ≤ 100000 := HOK.out.few
    clear hk
    obtain ⟨i0, hi0, hz0⟩ := str_info
    have h1 := Sep.poolTake HX.out HV.out hpl
    have h2 := Sep.poolFrom (P := Tryz.prog) Tryz.underlying29 hi0 (by omega) (lo := k) h1 (by rw [hz0]; exact k_n _ HV.out) hpl
    rw [hz0] at h2
    obtain ⟨a', hs2, h3⟩ := h2
    rw [Nat.mul_one, ← List.map_take, ← List.map_drop] at h3
    clear HX h1
    have HX := Lib.hid h3
    clear h3
    obtain ⟨P2, hP2⟩ : ∃ P2, (1, Value.slice a' (n.names.length - k) (c - k), (n.names.drop k).map sv) :: (1, Value.slice a k c, (n.names.take k).map sv) :: P = P2 := ⟨_, rfl⟩
    rw [hP2] at HX
    have HMEM := Lib.hid (show (1, Value.slice a k c, (n.names.take k).map sv) ∈ P2 ∧ (1, Value.slice a' (n.names.length - k) (c - k), (n.names.drop k).map sv) ∈ P2 by rw [← hP2]; simp)
    have HSUB := Lib.hid (show ∀ q ∈ P, q ∈ P2 by rw [← hP2]; exact fun q hq => k_n _ (k_n _ hq))
    have hw0 : (k ≤ c) = True := eq_true (by omega)
    have hw1 : (k ≤ n.names.length) = True := eq_true (by omega)
    have HBD := Lib.hid (show ∀ x, ([] ++ (n.names.take k).map sv).length = x * 1 → x + 1 ≤ 140737488355328 ∧ (x + 1) * 16 ≤ 140737488355328 from fun x hx => by simp only [List.nil_append, List.length_map, List.length_take] at hx; omega)
    clear hP2
    cases a with
    | none =>
      obtain rfl : c = 0 := HNIL.out rfl
      have hn0 : n.names.length = 0 := by omega
      have hk0 : k = 0 := by omega
      subst hk0
      rw [hn0] at HX HMEM hs2
      simp only [Nat.sub_self] at HX HMEM hs2
      have hif : a' = none := by
        have h4 := (run_sliceAt (P := Tryz.prog) Tryz.underlying29 (.slice none 0 0) (some (.int .i64 ((0 : Nat) : Int))) none none w).trans (slice_nil Tryz.underlying29 hi0 w).2
        have h5 := (hs2 w).symm.trans h4
        injection h5 with h6 _
        injection h6 with h7 _ _
      subst hif
      clear hs2 hi0 hz0
      go_wp2_with (first | (refine sWL ?_; simp only [Act.put, k_a, k_b, k_c, k_d, k_e, k_f, k_g, k_h, NodeS.cells, OpS.cells, ResS.cells]) | (refine sWM ?_; simp only [Act.put, k_a, k_b, k_c]) | ((first | refine sWS ?_ | refine sWT ?_); clear HX; intro w HX; simp only [Act.put, k_a, k_b, k_c, setMany, Nat.reduceAdd, NodeS.cells, OpS.cells, ResS.cells] at HX ⊢) | (refine sWA ?_; clear HX; (first | (have hq := b4; clear hq; intro w b5 HX) | (have hq := b3; clear hq; intro w b4 HX) | (have hq := b2; clear hq; intro w b3 HX) | (have hq := b; clear hq; intro w b2 HX) | intro w b HX); simp only [Act.put, k_a, k_b, k_c]) | ((first | (refine sWN ?_; clear HX; intro w mm HX) | (refine sWP ?_; clear HX; intro w av nv cv HX)); simp only [Act.put, k_a, k_b, k_c]))
      refine wp_region_M (fun W => Sep w0 W (ThPool w0 P2 :: ThCell b2 (.cells #[.int .i64 0, .int .i64 0, .int .i64 0, .int .i64 0, .int .i64 0, .int .i64 0, .int .i64 0, .string ⟨#[]⟩, .int .i64 0, .slice none 0 0] 84 (0, 0)) :: ThCell b (.cells #[.int .i64 n.made, .int .i64 n.changed, .int .i64 n.ver, .int .i64 n.kids, .int .i64 n.owner, .int .i64 (n.data.size : Nat), .int .i64 0, .string n.data, .int .i64 n.next, .slice none 0 0] 84 (0, 0)) :: R) rows) 14 (by kernel_rfl) ?_
      have KEEPX : ∀ W, Sep w0 W (ThPool w0 P2 :: ThCell b2 (.cells #[.int .i64 0, .int .i64 0, .int .i64 0, .int .i64 0, .int .i64 0, .int .i64 0, .int .i64 0, .string ⟨#[]⟩, .int .i64 0, .slice none 0 0] 84 (0, 0)) :: ThCell b (.cells #[.int .i64 n.made, .int .i64 n.changed, .int .i64 n.ver, .int .i64 n.kids, .int .i64 n.owner, .int .i64 (n.data.size : Nat), .int .i64 0, .string n.data, .int .i64 n.next, .slice none 0 0] 84 (0, 0)) :: R) rows → Sep w0 W (ThPool w0 P2 :: ThCell b2 (.cells #[.int .i64 0, .int .i64 0, .int .i64 0, .int .i64 0, .int .i64 0, .int .i64 0, .int .i64 0, .string ⟨#[]⟩, .int .i64 0, .slice none 0 0] 84 (0, 0)) :: ThCell b (.cells #[.int .i64 n.made, .int .i64 n.changed, .int .i64 n.ver, .int .i64 n.kids, .int .i64 n.owner, .int .i64 (n.data.size : Nat), .int .i64 0, .string n.data, .int .i64 n.next, .slice none 0 0] 84 (0, 0)) :: R) rows := fun _ h => h
      replace HX := Lib.hid HX.out.drew
      refine wpAnyM_take (by kernel_rfl) (by intro c a d v w h; cases d <;> exact h) [(1, false), (2, true), (3, false), (4, false), (6, false), (9, false), (10, true), (11, false), (12, false)] (fuel := 7) (by kernel_rfl) ?_
      apply Exists.intro; refine ⟨?_, HX.out, ?_⟩
      · iterate 9 (first | refine yE ?_ | ((first | apply yieldP | apply yieldL); (· (simp only [k_i, k_j, k_k]; try rfl)); (· rfl); (· (intros; go_simp; (try simp only [hn0, ↓reduceIte, and_self, Int.toNat_natCast]); try with_reducible rfl)); (· (simp only [Act.put, k_a, k_b, k_c, k_d, k_e, k_f, k_g, k_h, NodeS.cells, OpS.cells, ResS.cells]; try rfl))))
        exact rfl
      refine wpAnyM_each (fuel := 6) [0, 7] (by kernel_rfl) (by simp) (fun i hi => ?_)
      simp only [List.mem_cons, List.not_mem_nil, or_false] at hi
      rcases hi with rfl | rfl
      · refine ⟨_, (by (simp only [k_i, k_j, k_k]; try rfl)), fun K hK => ?_⟩
        go_wp2_with (first | (refine sWL ?_; simp only [Act.put, k_a, k_b, k_c, k_d, k_e, k_f, k_g, k_h, NodeS.cells, OpS.cells, ResS.cells]) | (refine sWM ?_; simp only [Act.put, k_a, k_b, k_c]) | ((first | refine sWS ?_ | refine sWT ?_); clear HX; intro w HX; simp only [Act.put, k_a, k_b, k_c, setMany, Nat.reduceAdd, NodeS.cells, OpS.cells, ResS.cells] at HX ⊢) | (refine sWA ?_; clear HX; (first | (have hq := b4; clear hq; intro w b5 HX) | (have hq := b3; clear hq; intro w b4 HX) | (have hq := b2; clear hq; intro w b3 HX) | (have hq := b; clear hq; intro w b2 HX) | intro w b HX); simp only [Act.put, k_a, k_b, k_c]) | ((first | (refine sWN ?_; clear HX; intro w mm HX) | (refine sWP ?_; clear HX; intro w av nv cv HX)); simp only [Act.put, k_a, k_b, k_c]) | (refine sx_lit0 HX sl_str ?_; clear HX; intro w b3 HX; simp only [Act.put, k_a, k_b, k_c]))
        refine hK _ _ HX.out.drop ?_
        clear hK
        refine wpAnyM_each (fuel := 5) [5, 7] (by kernel_rfl) (by simp) (fun i hi => ?_)
        simp only [List.mem_cons, List.not_mem_nil, or_false] at hi
        rcases hi with rfl | rfl
        · refine ⟨_, (by (simp only [k_i, k_j, k_k]; try rfl)), fun K hK => ?_⟩
          go_wp2_with (first | (refine sWL ?_; simp only [Act.put, k_a, k_b, k_c, k_d, k_e, k_f, k_g, k_h, NodeS.cells, OpS.cells, ResS.cells]) | (refine sWM ?_; simp only [Act.put, k_a, k_b, k_c]) | ((first | refine sWS ?_ | refine sWT ?_); clear HX; intro w HX; simp only [Act.put, k_a, k_b, k_c, setMany, Nat.reduceAdd, NodeS.cells, OpS.cells, ResS.cells] at HX ⊢) | (refine sWA ?_; clear HX; (first | (have hq := b4; clear hq; intro w b5 HX) | (have hq := b3; clear hq; intro w b4 HX) | (have hq := b2; clear hq; intro w b3 HX) | (have hq := b; clear hq; intro w b2 HX) | intro w b HX); simp only [Act.put, k_a, k_b, k_c]) | ((first | (refine sWN ?_; clear HX; intro w mm HX) | (refine sWP ?_; clear HX; intro w av nv cv HX)); simp only [Act.put, k_a, k_b, k_c]) | ((with_reducible apply sx_appP HX); (· exact sl_str); (· rfl); (· rfl); (· (repeat (first | (with_reducible exact Rem.here) | (with_reducible apply Rem.there)))); (· (repeat (first | (with_reducible exact k_s) | (with_reducible apply k_m)))); (· (first | exact HMEM.out.1 | exact HMEM.out.2)); (· exact sv_one); (· (intro n m hn hm; simp only [List.length_nil, List.length_append, List.length_map, List.length_take, List.length_drop, List.length_cons, Array.length_toList, List.size_toArray] at hn hm; omega)); clear HX; intro w av nv cv HX; simp only [Act.put, k_a, k_b, k_c]))
          refine hK _ _ HX.out.drop ?_
          clear hK
          refine wpAnyM_one (fuel := 4) (i := 7) (by kernel_rfl) (by (simp only [k_i, k_j, k_k]; try rfl)) (fun K hK => ?_)
          go_wp2_with (first | (refine sWL ?_; simp only [Act.put, k_a, k_b, k_c, k_d, k_e, k_f, k_g, k_h, NodeS.cells, OpS.cells, ResS.cells]) | (refine sWM ?_; simp only [Act.put, k_a, k_b, k_c]) | ((first | refine sWS ?_ | refine sWT ?_); clear HX; intro w HX; simp only [Act.put, k_a, k_b, k_c, setMany, Nat.reduceAdd, NodeS.cells, OpS.cells, ResS.cells] at HX ⊢) | (refine sWA ?_; clear HX; (first | (have hq := b4; clear hq; intro w b5 HX) | (have hq := b3; clear hq; intro w b4 HX) | (have hq := b2; clear hq; intro w b3 HX) | (have hq := b; clear hq; intro w b2 HX) | intro w b HX); simp only [Act.put, k_a, k_b, k_c]) | ((first | (refine sWN ?_; clear HX; intro w mm HX) | (refine sWP ?_; clear HX; intro w av nv cv HX)); simp only [Act.put, k_a, k_b, k_c]))
          refine hK _ _ HX.out.drop.drop ?_
          clear hK
          refine wpAnyM_one (fuel := 3) (i := 8) (by kernel_rfl) (by (simp only [k_i, k_j, k_k]; try rfl)) (fun K hK => ?_)
          go_wp2_with (first | (refine sWL ?_; simp only [Act.put, k_a, k_b, k_c, k_d, k_e, k_f, k_g, k_h, NodeS.cells, OpS.cells, ResS.cells]) | (refine sWM ?_; simp only [Act.put, k_a, k_b, k_c]) | ((first | refine sWS ?_ | refine sWT ?_); clear HX; intro w HX; simp only [Act.put, k_a, k_b, k_c, setMany, Nat.reduceAdd, NodeS.cells, OpS.cells, ResS.cells] at HX ⊢) | (refine sWA ?_; clear HX; (first | (have hq := b4; clear hq; intro w b5 HX) | (have hq := b3; clear hq; intro w b4 HX) | (have hq := b2; clear hq; intro w b3 HX) | (have hq := b; clear hq; intro w b2 HX) | intro w b HX); simp only [Act.put, k_a, k_b, k_c]) | ((first | (refine sWN ?_; clear HX; intro w mm HX) | (refine sWP ?_; clear HX; intro w av nv cv HX)); simp only [Act.put, k_a, k_b, k_c]))
          refine hK _ _ (HX.out.pm 5 [2, 3, 4] rfl rfl) ?_
          clear hK
          refine wpAnyM_one (fuel := 2) (i := 13) (by kernel_rfl) (by (simp only [k_i, k_j, k_k]; try rfl)) (fun K hK => ?_)
          go_wp2_with (first | (refine sWL ?_; simp only [Act.put, k_a, k_b, k_c, k_d, k_e, k_f, k_g, k_h, NodeS.cells, OpS.cells, ResS.cells]) | (refine sWM ?_; simp only [Act.put, k_a, k_b, k_c]) | ((first | refine sWS ?_ | refine sWT ?_); clear HX; intro w HX; simp only [Act.put, k_a, k_b, k_c, setMany, Nat.reduceAdd, NodeS.cells, OpS.cells, ResS.cells] at HX ⊢) | (refine sWA ?_; clear HX; (first | (have hq := b4; clear hq; intro w b5 HX) | (have hq := b3; clear hq; intro w b4 HX) | (have hq := b2; clear hq; intro w b3 HX) | (have hq := b; clear hq; intro w b2 HX) | intro w b HX); simp only [Act.put, k_a, k_b, k_c]) | ((first | (refine sWN ?_; clear HX; intro w mm HX) | (refine sWP ?_; clear HX; intro w av nv cv HX)); simp only [Act.put, k_a, k_b, k_c]) | ((with_reducible apply sx_appP HX); (· exact sl_str); (· rfl); (· rfl); (· (repeat (first | (with_reducible exact Rem.here) | (with_reducible apply Rem.there)))); (· (repeat (first | (with_reducible exact k_s) | (with_reducible apply k_m)))); (· (first | exact HMEM.out.1 | exact HMEM.out.2)); (· exact sv_one); (· (intro n m hn hm; simp only [List.length_nil, List.length_append, List.length_map, List.length_take, List.length_drop, List.length_cons, Array.length_toList, List.size_toArray] at hn hm; omega)); clear HX; intro w av nv cv HX; simp only [Act.put, k_a, k_b, k_c]))
          refine hK _ _ (HX.out.pm 5 [2, 3, 4] rfl rfl) ?_
          clear hK
          refine wpAnyM_of_any _ _ _ _ (by decide) ?_
          refine wpAny_list [14, 15] (fuel := 0) (by kernel_rfl) ?_
          simp only [List.filterMap_cons, List.filterMap_nil, k_i, k_j, k_k]
          have hnm : ([] ++ (n.names.take 0).map sv ++ [.string s] ++ (n.names.take 0).map sv) = (insS n.names s.data.toList).map sv := by
            first
              | (rw [List.eq_nil_of_length_eq_zero hn0]; rfl)
              | (unfold insS; rw [HK.out, List.nil_append, List.map_append, List.map_cons, List.append_assoc]; rfl)
          have h9 := HX.out.cut1
          rw [hnm] at h9
          have hnl : nv = (insS n.names s.data.toList).length := by
            obtain ⟨_, _, _, e, hl, -, -⟩ := h9.rowLen
            simp only [Value.slice.injEq] at e
            obtain ⟨rfl, rfl, rfl⟩ := e
            rw [List.length_map, Nat.mul_one] at hl
            exact hl.symm
          subst hnl
          clear HX
          have HX := Lib.hid h9
          clear hnm h9
          go_step
          go_step
          refine sWT ?_
          clear HX
          intro w HX
          simp only [Act.put, k_a, k_b, k_c] at HX ⊢
          go_wp2_with (first | (refine sWL ?_; simp only [Act.put, k_a, k_b, k_c, k_d, k_e, k_f, k_g, k_h, NodeS.cells, OpS.cells, ResS.cells]) | (refine sWM ?_; simp only [Act.put, k_a, k_b, k_c]) | ((first | refine sWS ?_ | refine sWT ?_); clear HX; intro w HX; simp only [Act.put, k_a, k_b, k_c, setMany, Nat.reduceAdd, NodeS.cells, OpS.cells, ResS.cells] at HX ⊢) | (refine sWA ?_; clear HX; (first | (have hq := b4; clear hq; intro w b5 HX) | (have hq := b3; clear hq; intro w b4 HX) | (have hq := b2; clear hq; intro w b3 HX) | (have hq := b; clear hq; intro w b2 HX) | intro w b HX); simp only [Act.put, k_a, k_b, k_c]) | ((first | (refine sWN ?_; clear HX; intro w mm HX) | (refine sWP ?_; clear HX; intro w av nv cv HX)); simp only [Act.put, k_a, k_b, k_c]))
          refine (more10_any _ _ HOK.out.kids).mono ?_
          rintro e w1 ⟨rfl, rfl⟩
          go_wp2_with (first | (refine sWL ?_; simp only [Act.put, k_a, k_b, k_c, k_d, k_e, k_f, k_g, k_h, NodeS.cells, OpS.cells, ResS.cells]) | (refine sWM ?_; simp only [Act.put, k_a, k_b, k_c]) | ((first | refine sWS ?_ | refine sWT ?_); clear HX; intro w HX; simp only [Act.put, k_a, k_b, k_c, setMany, Nat.reduceAdd, NodeS.cells, OpS.cells, ResS.cells] at HX ⊢) | (refine sWA ?_; clear HX; (first | (have hq := b4; clear hq; intro w b5 HX) | (have hq := b3; clear hq; intro w b4 HX) | (have hq := b2; clear hq; intro w b3 HX) | (have hq := b; clear hq; intro w b2 HX) | intro w b HX); simp only [Act.put, k_a, k_b, k_c]) | ((first | (refine sWN ?_; clear HX; intro w mm HX) | (refine sWP ?_; clear HX; intro w av nv cv HX)); simp only [Act.put, k_a, k_b, k_c]))
          refine (more10_any _ _ HOK.out.next).mono ?_
          rintro e w1 ⟨rfl, rfl⟩
          go_wp2_with (first | (refine sWL ?_; simp only [Act.put, k_a, k_b, k_c, k_d, k_e, k_f, k_g, k_h, NodeS.cells, OpS.cells, ResS.cells]) | (refine sWM ?_; simp only [Act.put, k_a, k_b, k_c]) | ((first | refine sWS ?_ | refine sWT ?_); clear HX; intro w HX; simp only [Act.put, k_a, k_b, k_c, setMany, Nat.reduceAdd, NodeS.cells, OpS.cells, ResS.cells] at HX ⊢) | (refine sWA ?_; clear HX; (first | (have hq := b4; clear hq; intro w b5 HX) | (have hq := b3; clear hq; intro w b4 HX) | (have hq := b2; clear hq; intro w b3 HX) | (have hq := b; clear hq; intro w b2 HX) | intro w b HX); simp only [Act.put, k_a, k_b, k_c]) | ((first | (refine sWN ?_; clear HX; intro w mm HX) | (refine sWP ?_; clear HX; intro w av nv cv HX)); simp only [Act.put, k_a, k_b, k_c]))
          refine sx_ret2 HX rfl rfl (by (repeat (first | (with_reducible exact k_s) | (with_reducible apply k_m)))) (by kernel_rfl) ?_
          refine ⟨.slice av (insS n.names s.data.toList).length cv, _, ?_, fun q hq => k_n _ (HSUB.out q hq), ?_, HX.out.poolRow.cut1.cut1⟩
          · unfold addS
            rw [HHB.out]
            rfl
          · unfold addS
            rw [HHB.out]
            exact k_s
        · refine ⟨_, (by (simp only [k_i, k_j, k_k]; try rfl)), fun K hK => ?_⟩
          go_wp2_with (first | (refine sWL ?_; simp only [Act.put, k_a, k_b, k_c, k_d, k_e, k_f, k_g, k_h, NodeS.cells, OpS.cells, ResS.cells]) | (refine sWM ?_; simp only [Act.put, k_a, k_b, k_c]) | ((first | refine sWS ?_ | refine sWT ?_); clear HX; intro w HX; simp only [Act.put, k_a, k_b, k_c, setMany, Nat.reduceAdd, NodeS.cells, OpS.cells, ResS.cells] at HX ⊢) | (refine sWA ?_; clear HX; (first | (have hq := b4; clear hq; intro w b5 HX) | (have hq := b3; clear hq; intro w b4 HX) | (have hq := b2; clear hq; intro w b3 HX) | (have hq := b; clear hq; intro w b2 HX) | intro w b HX); simp only [Act.put, k_a, k_b, k_c]) | ((first | (refine sWN ?_; clear HX; intro w mm HX) | (refine sWP ?_; clear HX; intro w av nv cv HX)); simp only [Act.put, k_a, k_b, k_c]))
          refine hK _ _ HX.out.drop.drop ?_
          clear hK
          refine wpAnyM_one (fuel := 4) (i := 5) (by kernel_rfl) (by (simp only [k_i, k_j, k_k]; try rfl)) (fun K hK => ?_)
          go_wp2_with (first | (refine sWL ?_; simp only [Act.put, k_a, k_b, k_c, k_d, k_e, k_f, k_g, k_h, NodeS.cells, OpS.cells, ResS.cells]) | (refine sWM ?_; simp only [Act.put, k_a, k_b, k_c]) | ((first | refine sWS ?_ | refine sWT ?_); clear HX; intro w HX; simp only [Act.put, k_a, k_b, k_c, setMany, Nat.reduceAdd, NodeS.cells, OpS.cells, ResS.cells] at HX ⊢) | (refine sWA ?_; clear HX; (first | (have hq := b4; clear hq; intro w b5 HX) | (have hq := b3; clear hq; intro w b4 HX) | (have hq := b2; clear hq; intro w b3 HX) | (have hq := b; clear hq; intro w b2 HX) | intro w b HX); simp only [Act.put, k_a, k_b, k_c]) | ((first | (refine sWN ?_; clear HX; intro w mm HX) | (refine sWP ?_; clear HX; intro w av nv cv HX)); simp only [Act.put, k_a, k_b, k_c]) | ((with_reducible apply sx_appP HX); (· exact sl_str); (· rfl); (· rfl); (· (repeat (first | (with_reducible exact Rem.here) | (with_reducible apply Rem.there)))); (· (repeat (first | (with_reducible exact k_s) | (with_reducible apply k_m)))); (· (first | exact HMEM.out.1 | exact HMEM.out.2)); (· exact sv_one); (· (intro n m hn hm; simp only [List.length_nil, List.length_append, List.length_map, List.length_take, List.length_drop, List.length_cons, Array.length_toList, List.size_toArray] at hn hm; omega)); clear HX; intro w av nv cv HX; simp only [Act.put, k_a, k_b, k_c]))
          refine hK _ _ HX.out.drop.drop ?_
          clear hK
          refine wpAnyM_one (fuel := 3) (i := 8) (by kernel_rfl) (by (simp only [k_i, k_j, k_k]; try rfl)) (fun K hK => ?_)
          go_wp2_with (first | (refine sWL ?_; simp only [Act.put, k_a, k_b, k_c, k_d, k_e, k_f, k_g, k_h, NodeS.cells, OpS.cells, ResS.cells]) | (refine sWM ?_; simp only [Act.put, k_a, k_b, k_c]) | ((first | refine sWS ?_ | refine sWT ?_); clear HX; intro w HX; simp only [Act.put, k_a, k_b, k_c, setMany, Nat.reduceAdd, NodeS.cells, OpS.cells, ResS.cells] at HX ⊢) | (refine sWA ?_; clear HX; (first | (have hq := b4; clear hq; intro w b5 HX) | (have hq := b3; clear hq; intro w b4 HX) | (have hq := b2; clear hq; intro w b3 HX) | (have hq := b; clear hq; intro w b2 HX) | intro w b HX); simp only [Act.put, k_a, k_b, k_c]) | ((first | (refine sWN ?_; clear HX; intro w mm HX) | (refine sWP ?_; clear HX; intro w av nv cv HX)); simp only [Act.put, k_a, k_b, k_c]))
          refine hK _ _ (HX.out.pm 5 [2, 3, 4] rfl rfl) ?_
          clear hK
          refine wpAnyM_one (fuel := 2) (i := 13) (by kernel_rfl) (by (simp only [k_i, k_j, k_k]; try rfl)) (fun K hK => ?_)
          go_wp2_with (first | (refine sWL ?_; simp only [Act.put, k_a, k_b, k_c, k_d, k_e, k_f, k_g, k_h, NodeS.cells, OpS.cells, ResS.cells]) | (refine sWM ?_; simp only [Act.put, k_a, k_b, k_c]) | ((first | refine sWS ?_ | refine sWT ?_); clear HX; intro w HX; simp only [Act.put, k_a, k_b, k_c, setMany, Nat.reduceAdd, NodeS.cells, OpS.cells, ResS.cells] at HX ⊢) | (refine sWA ?_; clear HX; (first | (have hq := b4; clear hq; intro w b5 HX) | (have hq := b3; clear hq; intro w b4 HX) | (have hq := b2; clear hq; intro w b3 HX) | (have hq := b; clear hq; intro w b2 HX) | intro w b HX); simp only [Act.put, k_a, k_b, k_c]) | ((first | (refine sWN ?_; clear HX; intro w mm HX) | (refine sWP ?_; clear HX; intro w av nv cv HX)); simp only [Act.put, k_a, k_b, k_c]) | ((with_reducible apply sx_appP HX); (· exact sl_str); (· rfl); (· rfl); (· (repeat (first | (with_reducible exact Rem.here) | (with_reducible apply Rem.there)))); (· (repeat (first | (with_reducible exact k_s) | (with_reducible apply k_m)))); (· (first | exact HMEM.out.1 | exact HMEM.out.2)); (· exact sv_one); (· (intro n m hn hm; simp only [List.length_nil, List.length_append, List.length_map, List.length_take, List.length_drop, List.length_cons, Array.length_toList, List.size_toArray] at hn hm; omega)); clear HX; intro w av nv cv HX; simp only [Act.put, k_a, k_b, k_c]))
          refine hK _ _ (HX.out.pm 5 [2, 3, 4] rfl rfl) ?_
          clear hK
          refine wpAnyM_of_any _ _ _ _ (by decide) ?_
          refine wpAny_list [14, 15] (fuel := 0) (by kernel_rfl) ?_
          simp only [List.filterMap_cons, List.filterMap_nil, k_i, k_j, k_k]
          have hnm : ([] ++ (n.names.take 0).map sv ++ [.string s] ++ (n.names.take 0).map sv) = (insS n.names s.data.toList).map sv := by
            first
              | (rw [List.eq_nil_of_length_eq_zero hn0]; rfl)
              | (unfold insS; rw [HK.out, List.nil_append, List.map_append, List.map_cons, List.append_assoc]; rfl)
          have h9 := HX.out.cut1
          rw [hnm] at h9
          have hnl : nv = (insS n.names s.data.toList).length := by
            obtain ⟨_, _, _, e, hl, -, -⟩ := h9.rowLen
            simp only [Value.slice.injEq] at e
            obtain ⟨rfl, rfl, rfl⟩ := e
            rw [List.length_map, Nat.mul_one] at hl
            exact hl.symm
          subst hnl
          clear HX
          have HX := Lib.hid h9
          clear hnm h9
          go_step
          go_step
          refine sWT ?_
          clear HX
          intro w HX
          simp only [Act.put, k_a, k_b, k_c] at HX ⊢
          go_wp2_with (first | (refine sWL ?_; simp only [Act.put, k_a, k_b, k_c, k_d, k_e, k_f, k_g, k_h, NodeS.cells, OpS.cells, ResS.cells]) | (refine sWM ?_; simp only [Act.put, k_a, k_b, k_c]) | ((first | refine sWS ?_ | refine sWT ?_); clear HX; intro w HX; simp only [Act.put, k_a, k_b, k_c, setMany, Nat.reduceAdd, NodeS.cells, OpS.cells, ResS.cells] at HX ⊢) | (refine sWA ?_; clear HX; (first | (have hq := b4; clear hq; intro w b5 HX) | (have hq := b3; clear hq; intro w b4 HX) | (have hq := b2; clear hq; intro w b3 HX) | (have hq := b; clear hq; intro w b2 HX) | intro w b HX); simp only [Act.put, k_a, k_b, k_c]) | ((first | (refine sWN ?_; clear HX; intro w mm HX) | (refine sWP ?_; clear HX; intro w av nv cv HX)); simp only [Act.put, k_a, k_b, k_c]))
          refine (more10_any _ _ HOK.out.kids).mono ?_
          rintro e w1 ⟨rfl, rfl⟩
          go_wp2_with (first | (refine sWL ?_; simp only [Act.put, k_a, k_b, k_c, k_d, k_e, k_f, k_g, k_h, NodeS.cells, OpS.cells, ResS.cells]) | (refine sWM ?_; simp only [Act.put, k_a, k_b, k_c]) | ((first | refine sWS ?_ | refine sWT ?_); clear HX; intro w HX; simp only [Act.put, k_a, k_b, k_c, setMany, Nat.reduceAdd, NodeS.cells, OpS.cells, ResS.cells] at HX ⊢) | (refine sWA ?_; clear HX; (first | (have hq := b4; clear hq; intro w b5 HX) | (have hq := b3; clear hq; intro w b4 HX) | (have hq := b2; clear hq; intro w b3 HX) | (have hq := b; clear hq; intro w b2 HX) | intro w b HX); simp only [Act.put, k_a, k_b, k_c]) | ((first | (refine sWN ?_; clear HX; intro w mm HX) | (refine sWP ?_; clear HX; intro w av nv cv HX)); simp only [Act.put, k_a, k_b, k_c]))
          refine (more10_any _ _ HOK.out.next).mono ?_
          rintro e w1 ⟨rfl, rfl⟩
          go_wp2_with (first | (refine sWL ?_; simp only [Act.put, k_a, k_b, k_c, k_d, k_e, k_f, k_g, k_h, NodeS.cells, OpS.cells, ResS.cells]) | (refine sWM ?_; simp only [Act.put, k_a, k_b, k_c]) | ((first | refine sWS ?_ | refine sWT ?_); clear HX; intro w HX; simp only [Act.put, k_a, k_b, k_c, setMany, Nat.reduceAdd, NodeS.cells, OpS.cells, ResS.cells] at HX ⊢) | (refine sWA ?_; clear HX; (first | (have hq := b4; clear hq; intro w b5 HX) | (have hq := b3; clear hq; intro w b4 HX) | (have hq := b2; clear hq; intro w b3 HX) | (have hq := b; clear hq; intro w b2 HX) | intro w b HX); simp only [Act.put, k_a, k_b, k_c]) | ((first | (refine sWN ?_; clear HX; intro w mm HX) | (refine sWP ?_; clear HX; intro w av nv cv HX)); simp only [Act.put, k_a, k_b, k_c]))
          refine sx_ret2 HX rfl rfl (by (repeat (first | (with_reducible exact k_s) | (with_reducible apply k_m)))) (by kernel_rfl) ?_
          refine ⟨.slice av (insS n.names s.data.toList).length cv, _, ?_, fun q hq => k_n _ (HSUB.out q hq), ?_, HX.out.poolRow.cut1.cut1⟩
          · unfold addS
            rw [HHB.out]
            rfl
          · unfold addS
            rw [HHB.out]
            exact k_s
      · refine ⟨_, (by (simp only [k_i, k_j, k_k]; try rfl)), fun K hK => ?_⟩
        go_wp2_with (first | (refine sWL ?_; simp only [Act.put, k_a, k_b, k_c, k_d, k_e, k_f, k_g, k_h, NodeS.cells, OpS.cells, ResS.cells]) | (refine sWM ?_; simp only [Act.put, k_a, k_b, k_c]) | ((first | refine sWS ?_ | refine sWT ?_); clear HX; intro w HX; simp only [Act.put, k_a, k_b, k_c, setMany, Nat.reduceAdd, NodeS.cells, OpS.cells, ResS.cells] at HX ⊢) | (refine sWA ?_; clear HX; (first | (have hq := b4; clear hq; intro w b5 HX) | (have hq := b3; clear hq; intro w b4 HX) | (have hq := b2; clear hq; intro w b3 HX) | (have hq := b; clear hq; intro w b2 HX) | intro w b HX); simp only [Act.put, k_a, k_b, k_c]) | ((first | (refine sWN ?_; clear HX; intro w mm HX) | (refine sWP ?_; clear HX; intro w av nv cv HX)); simp only [Act.put, k_a, k_b, k_c]))
        refine hK _ _ HX.out.drop ?_
        clear hK
        refine wpAnyM_one (fuel := 5) (i := 0) (by kernel_rfl) (by (simp only [k_i, k_j, k_k]; try rfl)) (fun K hK => ?_)
        go_wp2_with (first | (refine sWL ?_; simp only [Act.put, k_a, k_b, k_c, k_d, k_e, k_f, k_g, k_h, NodeS.cells, OpS.cells, ResS.cells]) | (refine sWM ?_; simp only [Act.put, k_a, k_b, k_c]) | ((first | refine sWS ?_ | refine sWT ?_); clear HX; intro w HX; simp only [Act.put, k_a, k_b, k_c, setMany, Nat.reduceAdd, NodeS.cells, OpS.cells, ResS.cells] at HX ⊢) | (refine sWA ?_; clear HX; (first | (have hq := b4; clear hq; intro w b5 HX) | (have hq := b3; clear hq; intro w b4 HX) | (have hq := b2; clear hq; intro w b3 HX) | (have hq := b; clear hq; intro w b2 HX) | intro w b HX); simp only [Act.put, k_a, k_b, k_c]) | ((first | (refine sWN ?_; clear HX; intro w mm HX) | (refine sWP ?_; clear HX; intro w av nv cv HX)); simp only [Act.put, k_a, k_b, k_c]) | (refine sx_lit0 HX sl_str ?_; clear HX; intro w b4 HX; simp only [Act.put, k_a, k_b, k_c]))
        refine hK _ _ HX.out.drop.drop ?_
        clear hK
        refine wpAnyM_one (fuel := 4) (i := 5) (by kernel_rfl) (by (simp only [k_i, k_j, k_k]; try rfl)) (fun K hK => ?_)
        go_wp2_with (first | (refine sWL ?_; simp only [Act.put, k_a, k_b, k_c, k_d, k_e, k_f, k_g, k_h, NodeS.cells, OpS.cells, ResS.cells]) | (refine sWM ?_; simp only [Act.put, k_a, k_b, k_c]) | ((first | refine sWS ?_ | refine sWT ?_); clear HX; intro w HX; simp only [Act.put, k_a, k_b, k_c, setMany, Nat.reduceAdd, NodeS.cells, OpS.cells, ResS.cells] at HX ⊢) | (refine sWA ?_; clear HX; (first | (have hq := b4; clear hq; intro w b5 HX) | (have hq := b3; clear hq; intro w b4 HX) | (have hq := b2; clear hq; intro w b3 HX) | (have hq := b; clear hq; intro w b2 HX) | intro w b HX); simp only [Act.put, k_a, k_b, k_c]) | ((first | (refine sWN ?_; clear HX; intro w mm HX) | (refine sWP ?_; clear HX; intro w av nv cv HX)); simp only [Act.put, k_a, k_b, k_c]) | ((with_reducible apply sx_appP HX); (· exact sl_str); (· rfl); (· rfl); (· (repeat (first | (with_reducible exact Rem.here) | (with_reducible apply Rem.there)))); (· (repeat (first | (with_reducible exact k_s) | (with_reducible apply k_m)))); (· (first | exact HMEM.out.1 | exact HMEM.out.2)); (· exact sv_one); (· (intro n m hn hm; simp only [List.length_nil, List.length_append, List.length_map, List.length_take, List.length_drop, List.length_cons, Array.length_toList, List.size_toArray] at hn hm; omega)); clear HX; intro w av nv cv HX; simp only [Act.put, k_a, k_b, k_c]))
        refine hK _ _ HX.out.drop.drop ?_
        clear hK
        refine wpAnyM_one (fuel := 3) (i := 8) (by kernel_rfl) (by (simp only [k_i, k_j, k_k]; try rfl)) (fun K hK => ?_)
        go_wp2_with (first | (refine sWL ?_; simp only [Act.put, k_a, k_b, k_c, k_d, k_e, k_f, k_g, k_h, NodeS.cells, OpS.cells, ResS.cells]) | (refine sWM ?_; simp only [Act.put, k_a, k_b, k_c]) | ((first | refine sWS ?_ | refine sWT ?_); clear HX; intro w HX; simp only [Act.put, k_a, k_b, k_c, setMany, Nat.reduceAdd, NodeS.cells, OpS.cells, ResS.cells] at HX ⊢) | (refine sWA ?_; clear HX; (first | (have hq := b4; clear hq; intro w b5 HX) | (have hq := b3; clear hq; intro w b4 HX) | (have hq := b2; clear hq; intro w b3 HX) | (have hq := b; clear hq; intro w b2 HX) | intro w b HX); simp only [Act.put, k_a, k_b, k_c]) | ((first | (refine sWN ?_; clear HX; intro w mm HX) | (refine sWP ?_; clear HX; intro w av nv cv HX)); simp only [Act.put, k_a, k_b, k_c]))
        refine hK _ _ (HX.out.pm 5 [2, 3, 4] rfl rfl) ?_
        clear hK
        refine wpAnyM_one (fuel := 2) (i := 13) (by kernel_rfl) (by (simp only [k_i, k_j, k_k]; try rfl)) (fun K hK => ?_)
        go_wp2_with (first | (refine sWL ?_; simp only [Act.put, k_a, k_b, k_c, k_d, k_e, k_f, k_g, k_h, NodeS.cells, OpS.cells, ResS.cells]) | (refine sWM ?_; simp only [Act.put, k_a, k_b, k_c]) | ((first | refine sWS ?_ | refine sWT ?_); clear HX; intro w HX; simp only [Act.put, k_a, k_b, k_c, setMany, Nat.reduceAdd, NodeS.cells, OpS.cells, ResS.cells] at HX ⊢) | (refine sWA ?_; clear HX; (first | (have hq := b4; clear hq; intro w b5 HX) | (have hq := b3; clear hq; intro w b4 HX) | (have hq := b2; clear hq; intro w b3 HX) | (have hq := b; clear hq; intro w b2 HX) | intro w b HX); simp only [Act.put, k_a, k_b, k_c]) | ((first | (refine sWN ?_; clear HX; intro w mm HX) | (refine sWP ?_; clear HX; intro w av nv cv HX)); simp only [Act.put, k_a, k_b, k_c]) | ((with_reducible apply sx_appP HX); (· exact sl_str); (· rfl); (· rfl); (· (repeat (first | (with_reducible exact Rem.here) | (with_reducible apply Rem.there)))); (· (repeat (first | (with_reducible exact k_s) | (with_reducible apply k_m)))); (· (first | exact HMEM.out.1 | exact HMEM.out.2)); (· exact sv_one); (· (intro n m hn hm; simp only [List.length_nil, List.length_append, List.length_map, List.length_take, List.length_drop, List.length_cons, Array.length_toList, List.size_toArray] at hn hm; omega)); clear HX; intro w av nv cv HX; simp only [Act.put, k_a, k_b, k_c]))
        refine hK _ _ (HX.out.pm 5 [2, 3, 4] rfl rfl) ?_
        clear hK
        refine wpAnyM_of_any _ _ _ _ (by decide) ?_
        refine wpAny_list [14, 15] (fuel := 0) (by kernel_rfl) ?_
        simp only [List.filterMap_cons, List.filterMap_nil, k_i, k_j, k_k]
        have hnm : ([] ++ (n.names.take 0).map sv ++ [.string s] ++ (n.names.take 0).map sv) = (insS n.names s.data.toList).map sv := by
          first
            | (rw [List.eq_nil_of_length_eq_zero hn0]; rfl)
            | (unfold insS; rw [HK.out, List.nil_append, List.map_append, List.map_cons, List.append_assoc]; rfl)
        have h9 := HX.out.cut1
        rw [hnm] at h9
        have hnl : nv = (insS n.names s.data.toList).length := by
          obtain ⟨_, _, _, e, hl, -, -⟩ := h9.rowLen
          simp only [Value.slice.injEq] at e
          obtain ⟨rfl, rfl, rfl⟩ := e
          rw [List.length_map, Nat.mul_one] at hl
          exact hl.symm
        subst hnl
        clear HX
        have HX := Lib.hid h9
        clear hnm h9
        go_step
        go_step
        refine sWT ?_
        clear HX
        intro w HX
        simp only [Act.put, k_a, k_b, k_c] at HX ⊢
        go_wp2_with (first | (refine sWL ?_; simp only [Act.put, k_a, k_b, k_c, k_d, k_e, k_f, k_g, k_h, NodeS.cells, OpS.cells, ResS.cells]) | (refine sWM ?_; simp only [Act.put, k_a, k_b, k_c]) | ((first | refine sWS ?_ | refine sWT ?_); clear HX; intro w HX; simp only [Act.put, k_a, k_b, k_c, setMany, Nat.reduceAdd, NodeS.cells, OpS.cells, ResS.cells] at HX ⊢) | (refine sWA ?_; clear HX; (first | (have hq := b4; clear hq; intro w b5 HX) | (have hq := b3; clear hq; intro w b4 HX) | (have hq := b2; clear hq; intro w b3 HX) | (have hq := b; clear hq; intro w b2 HX) | intro w b HX); simp only [Act.put, k_a, k_b, k_c]) | ((first | (refine sWN ?_; clear HX; intro w mm HX) | (refine sWP ?_; clear HX; intro w av nv cv HX)); simp only [Act.put, k_a, k_b, k_c]))
        refine (more10_any _ _ HOK.out.kids).mono ?_
        rintro e w1 ⟨rfl, rfl⟩
        go_wp2_with (first | (refine sWL ?_; simp only [Act.put, k_a, k_b, k_c, k_d, k_e, k_f, k_g, k_h, NodeS.cells, OpS.cells, ResS.cells]) | (refine sWM ?_; simp only [Act.put, k_a, k_b, k_c]) | ((first | refine sWS ?_ | refine sWT ?_); clear HX; intro w HX; simp only [Act.put, k_a, k_b, k_c, setMany, Nat.reduceAdd, NodeS.cells, OpS.cells, ResS.cells] at HX ⊢) | (refine sWA ?_; clear HX; (first | (have hq := b4; clear hq; intro w b5 HX) | (have hq := b3; clear hq; intro w b4 HX) | (have hq := b2; clear hq; intro w b3 HX) | (have hq := b; clear hq; intro w b2 HX) | intro w b HX); simp only [Act.put, k_a, k_b, k_c]) | ((first | (refine sWN ?_; clear HX; intro w mm HX) | (refine sWP ?_; clear HX; intro w av nv cv HX)); simp only [Act.put, k_a, k_b, k_c]))
        refine (more10_any _ _ HOK.out.next).mono ?_
        rintro e w1 ⟨rfl, rfl⟩
        go_wp2_with (first | (refine sWL ?_; simp only [Act.put, k_a, k_b, k_c, k_d, k_e, k_f, k_g, k_h, NodeS.cells, OpS.cells, ResS.cells]) | (refine sWM ?_; simp only [Act.put, k_a, k_b, k_c]) | ((first | refine sWS ?_ | refine sWT ?_); clear HX; intro w HX; simp only [Act.put, k_a, k_b, k_c, setMany, Nat.reduceAdd, NodeS.cells, OpS.cells, ResS.cells] at HX ⊢) | (refine sWA ?_; clear HX; (first | (have hq := b4; clear hq; intro w b5 HX) | (have hq := b3; clear hq; intro w b4 HX) | (have hq := b2; clear hq; intro w b3 HX) | (have hq := b; clear hq; intro w b2 HX) | intro w b HX); simp only [Act.put, k_a, k_b, k_c]) | ((first | (refine sWN ?_; clear HX; intro w mm HX) | (refine sWP ?_; clear HX; intro w av nv cv HX)); simp only [Act.put, k_a, k_b, k_c]))
        refine sx_ret2 HX rfl rfl (by (repeat (first | (with_reducible exact k_s) | (with_reducible apply k_m)))) (by kernel_rfl) ?_
        refine ⟨.slice av (insS n.names s.data.toList).length cv, _, ?_, fun q hq => k_n _ (HSUB.out q hq), ?_, HX.out.poolRow.cut1.cut1⟩
        · unfold addS
          rw [HHB.out]
          rfl
        · unfold addS
          rw [HHB.out]
          exact k_s
    | some ad =>
      have hif : (if c = k then some ad else some (ad.add k)) = a' := by
        have h4 := (run_sliceAt (P := Tryz.prog) Tryz.underlying29 (.slice (some ad) n.names.length c) (some (.int .i64 (k : Int))) none none w).trans (slice_runX Tryz.underlying29 hi0 ad n.names.length c k hpl w)
        have h5 := (hs2 w).symm.trans h4
        injection h5 with h6 _
        injection h6 with h7 _ _
        rw [h7, hz0, Nat.mul_one]
      clear hs2 hi0 hz0
      go_wp2_with (first | (refine sWL ?_; simp only [Act.put, k_a, k_b, k_c, k_d, k_e, k_f, k_g, k_h, NodeS.cells, OpS.cells, ResS.cells]) | (refine sWM ?_; simp only [Act.put, k_a, k_b, k_c]) | ((first | refine sWS ?_ | refine sWT ?_); clear HX; intro w HX; simp only [Act.put, k_a, k_b, k_c, setMany, Nat.reduceAdd, NodeS.cells, OpS.cells, ResS.cells] at HX ⊢) | (refine sWA ?_; clear HX; (first | (have hq := b4; clear hq; intro w b5 HX) | (have hq := b3; clear hq; intro w b4 HX) | (have hq := b2; clear hq; intro w b3 HX) | (have hq := b; clear hq; intro w b2 HX) | intro w b HX); simp only [Act.put, k_a, k_b, k_c]) | ((first | (refine sWN ?_; clear HX; intro w mm HX) | (refine sWP ?_; clear HX; intro w av nv cv HX)); simp only [Act.put, k_a, k_b, k_c]))
      refine wp_region_M (fun W => Sep w0 W (ThPool w0 P2 :: ThCell b2 (.cells #[.int .i64 0, .int .i64 0, .int .i64 0, .int .i64 0, .int .i64 0, .int .i64 0, .int .i64 0, .string ⟨#[]⟩, .int .i64 0, .slice none 0 0] 84 (0, 0)) :: ThCell b (.cells #[.int .i64 n.made, .int .i64 n.changed, .int .i64 n.ver, .int .i64 n.kids, .int .i64 n.owner, .int .i64 (n.data.size : Nat), .int .i64 (n.names.length : Nat), .string n.data, .int .i64 n.next, .slice (some ad) n.names.length c] 84 (0, 0)) :: R) rows) 14 (by kernel_rfl) ?_
      have KEEPX : ∀ W, Sep w0 W (ThPool w0 P2 :: ThCell b2 (.cells #[.int .i64 0, .int .i64 0, .int .i64 0, .int .i64 0, .int .i64 0, .int .i64 0, .int .i64 0, .string ⟨#[]⟩, .int .i64 0, .slice none 0 0] 84 (0, 0)) :: ThCell b (.cells #[.int .i64 n.made, .int .i64 n.changed, .int .i64 n.ver, .int .i64 n.kids, .int .i64 n.owner, .int .i64 (n.data.size : Nat), .int .i64 (n.names.length : Nat), .string n.data, .int .i64 n.next, .slice (some ad) n.names.length c] 84 (0, 0)) :: R) rows → Sep w0 W (ThPool w0 P2 :: ThCell b2 (.cells #[.int .i64 0, .int .i64 0, .int .i64 0, .int .i64 0, .int .i64 0, .int .i64 0, .int .i64 0, .string ⟨#[]⟩, .int .i64 0, .slice none 0 0] 84 (0, 0)) :: ThCell b (.cells #[.int .i64 n.made, .int .i64 n.changed, .int .i64 n.ver, .int .i64 n.kids, .int .i64 n.owner, .int .i64 (n.data.size : Nat), .int .i64 (n.names.length : Nat), .string n.data, .int .i64 n.next, .slice (some ad) n.names.length c] 84 (0, 0)) :: R) rows := fun _ h => h
      replace HX := Lib.hid HX.out.drew
      refine wpAnyM_take (by kernel_rfl) (by intro c a d v w h; cases d <;> exact h) [(1, false), (2, true), (3, false), (4, false), (6, false), (9, false), (10, true), (11, false), (12, false)] (fuel := 7) (by kernel_rfl) ?_
      apply Exists.intro; refine ⟨?_, HX.out, ?_⟩
      · iterate 9 (first | refine yE ?_ | ((first | apply yieldP | apply yieldL); (· (simp only [k_i, k_j, k_k]; try rfl)); (· rfl); (· (intros; go_simp; (try simp only [hw0, hw1, hif, ↓reduceIte, and_self, Int.toNat_natCast]); try with_reducible rfl)); (· (simp only [Act.put, k_a, k_b, k_c, k_d, k_e, k_f, k_g, k_h, NodeS.cells, OpS.cells, ResS.cells]; try rfl))))
        exact rfl
      refine wpAnyM_each (fuel := 6) [0, 7] (by kernel_rfl) (by simp) (fun i hi => ?_)
      simp only [List.mem_cons, List.not_mem_nil, or_false] at hi
      rcases hi with rfl | rfl
      · refine ⟨_, (by (simp only [k_i, k_j, k_k]; try rfl)), fun K hK => ?_⟩
        go_wp2_with (first | (refine sWL ?_; simp only [Act.put, k_a, k_b, k_c, k_d, k_e, k_f, k_g, k_h, NodeS.cells, OpS.cells, ResS.cells]) | (refine sWM ?_; simp only [Act.put, k_a, k_b, k_c]) | ((first | refine sWS ?_ | refine sWT ?_); clear HX; intro w HX; simp only [Act.put, k_a, k_b, k_c, setMany, Nat.reduceAdd, NodeS.cells, OpS.cells, ResS.cells] at HX ⊢) | (refine sWA ?_; clear HX; (first | (have hq := b4; clear hq; intro w b5 HX) | (have hq := b3; clear hq; intro w b4 HX) | (have hq := b2; clear hq; intro w b3 HX) | (have hq := b; clear hq; intro w b2 HX) | intro w b HX); simp only [Act.put, k_a, k_b, k_c]) | ((first | (refine sWN ?_; clear HX; intro w mm HX) | (refine sWP ?_; clear HX; intro w av nv cv HX)); simp only [Act.put, k_a, k_b, k_c]) | (refine sx_lit0 HX sl_str ?_; clear HX; intro w b3 HX; simp only [Act.put, k_a, k_b, k_c]))
        refine hK _ _ HX.out.drop ?_
        clear hK
        refine wpAnyM_each (fuel := 5) [5, 7] (by kernel_rfl) (by simp) (fun i hi => ?_)
        simp only [List.mem_cons, List.not_mem_nil, or_false] at hi
        rcases hi with rfl | rfl
        · refine ⟨_, (by (simp only [k_i, k_j, k_k]; try rfl)), fun K hK => ?_⟩
          go_wp2_with (first | (refine sWL ?_; simp only [Act.put, k_a, k_b, k_c, k_d, k_e, k_f, k_g, k_h, NodeS.cells, OpS.cells, ResS.cells]) | (refine sWM ?_; simp only [Act.put, k_a, k_b, k_c]) | ((first | refine sWS ?_ | refine sWT ?_); clear HX; intro w HX; simp only [Act.put, k_a, k_b, k_c, setMany, Nat.reduceAdd, NodeS.cells, OpS.cells, ResS.cells] at HX ⊢) | (refine sWA ?_; clear HX; (first | (have hq := b4; clear hq; intro w b5 HX) | (have hq := b3; clear hq; intro w b4 HX) | (have hq := b2; clear hq; intro w b3 HX) | (have hq := b; clear hq; intro w b2 HX) | intro w b HX); simp only [Act.put, k_a, k_b, k_c]) | ((first | (refine sWN ?_; clear HX; intro w mm HX) | (refine sWP ?_; clear HX; intro w av nv cv HX)); simp only [Act.put, k_a, k_b, k_c]) | ((with_reducible apply sx_appP HX); (· exact sl_str); (· rfl); (· rfl); (· (repeat (first | (with_reducible exact Rem.here) | (with_reducible apply Rem.there)))); (· (repeat (first | (with_reducible exact k_s) | (with_reducible apply k_m)))); (· (first | exact HMEM.out.1 | exact HMEM.out.2)); (· exact sv_one); (· (intro n m hn hm; simp only [List.length_nil, List.length_append, List.length_map, List.length_take, List.length_drop, List.length_cons, Array.length_toList, List.size_toArray] at hn hm; omega)); clear HX; intro w av nv cv HX; simp only [Act.put, k_a, k_b, k_c]))
          refine hK _ _ HX.out.drop ?_
          clear hK
          refine wpAnyM_one (fuel := 4) (i := 7) (by kernel_rfl) (by (simp only [k_i, k_j, k_k]; try rfl)) (fun K hK => ?_)
          go_wp2_with (first | (refine sWL ?_; simp only [Act.put, k_a, k_b, k_c, k_d, k_e, k_f, k_g, k_h, NodeS.cells, OpS.cells, ResS.cells]) | (refine sWM ?_; simp only [Act.put, k_a, k_b, k_c]) | ((first | refine sWS ?_ | refine sWT ?_); clear HX; intro w HX; simp only [Act.put, k_a, k_b, k_c, setMany, Nat.reduceAdd, NodeS.cells, OpS.cells, ResS.cells] at HX ⊢) | (refine sWA ?_; clear HX; (first | (have hq := b4; clear hq; intro w b5 HX) | (have hq := b3; clear hq; intro w b4 HX) | (have hq := b2; clear hq; intro w b3 HX) | (have hq := b; clear hq; intro w b2 HX) | intro w b HX); simp only [Act.put, k_a, k_b, k_c]) | ((first | (refine sWN ?_; clear HX; intro w mm HX) | (refine sWP ?_; clear HX; intro w av nv cv HX)); simp only [Act.put, k_a, k_b, k_c]))
          refine hK _ _ HX.out.drop.drop ?_
          clear hK
          refine wpAnyM_one (fuel := 3) (i := 8) (by kernel_rfl) (by (simp only [k_i, k_j, k_k]; try rfl)) (fun K hK => ?_)
          go_wp2_with (first | (refine sWL ?_; simp only [Act.put, k_a, k_b, k_c, k_d, k_e, k_f, k_g, k_h, NodeS.cells, OpS.cells, ResS.cells]) | (refine sWM ?_; simp only [Act.put, k_a, k_b, k_c]) | ((first | refine sWS ?_ | refine sWT ?_); clear HX; intro w HX; simp only [Act.put, k_a, k_b, k_c, setMany, Nat.reduceAdd, NodeS.cells, OpS.cells, ResS.cells] at HX ⊢) | (refine sWA ?_; clear HX; (first | (have hq := b4; clear hq; intro w b5 HX) | (have hq := b3; clear hq; intro w b4 HX) | (have hq := b2; clear hq; intro w b3 HX) | (have hq := b; clear hq; intro w b2 HX) | intro w b HX); simp only [Act.put, k_a, k_b, k_c]) | ((first | (refine sWN ?_; clear HX; intro w mm HX) | (refine sWP ?_; clear HX; intro w av nv cv HX)); simp only [Act.put, k_a, k_b, k_c]))
          refine hK _ _ (HX.out.pm 5 [2, 3, 4] rfl rfl) ?_
          clear hK
          refine wpAnyM_one (fuel := 2) (i := 13) (by kernel_rfl) (by (simp only [k_i, k_j, k_k]; try rfl)) (fun K hK => ?_)
          go_wp2_with (first | (refine sWL ?_; simp only [Act.put, k_a, k_b, k_c, k_d, k_e, k_f, k_g, k_h, NodeS.cells, OpS.cells, ResS.cells]) | (refine sWM ?_; simp only [Act.put, k_a, k_b, k_c]) | ((first | refine sWS ?_ | refine sWT ?_); clear HX; intro w HX; simp only [Act.put, k_a, k_b, k_c, setMany, Nat.reduceAdd, NodeS.cells, OpS.cells, ResS.cells] at HX ⊢) | (refine sWA ?_; clear HX; (first | (have hq := b4; clear hq; intro w b5 HX) | (have hq := b3; clear hq; intro w b4 HX) | (have hq := b2; clear hq; intro w b3 HX) | (have hq := b; clear hq; intro w b2 HX) | intro w b HX); simp only [Act.put, k_a, k_b, k_c]) | ((first | (refine sWN ?_; clear HX; intro w mm HX) | (refine sWP ?_; clear HX; intro w av nv cv HX)); simp only [Act.put, k_a, k_b, k_c]) | ((with_reducible apply sx_appP HX); (· exact sl_str); (· rfl); (· rfl); (· (repeat (first | (with_reducible exact Rem.here) | (with_reducible apply Rem.there)))); (· (repeat (first | (with_reducible exact k_s) | (with_reducible apply k_m)))); (· (first | exact HMEM.out.1 | exact HMEM.out.2)); (· exact sv_one); (· (intro n m hn hm; simp only [List.length_nil, List.length_append, List.length_map, List.length_take, List.length_drop, List.length_cons, Array.length_toList, List.size_toArray] at hn hm; omega)); clear HX; intro w av nv cv HX; simp only [Act.put, k_a, k_b, k_c]))
          refine hK _ _ (HX.out.pm 5 [2, 3, 4] rfl rfl) ?_
          clear hK
          refine wpAnyM_of_any _ _ _ _ (by decide) ?_
          refine wpAny_list [14, 15] (fuel := 0) (by kernel_rfl) ?_
          simp only [List.filterMap_cons, List.filterMap_nil, k_i, k_j, k_k]
          have hnm : ([] ++ (n.names.take k).map sv ++ [.string s] ++ (n.names.drop k).map sv) = (insS n.names s.data.toList).map sv := by
            first
              | (rw [List.eq_nil_of_length_eq_zero hn0]; rfl)
              | (unfold insS; rw [HK.out, List.nil_append, List.map_append, List.map_cons, List.append_assoc]; rfl)
          have h9 := HX.out.cut1
          rw [hnm] at h9
          have hnl : nv = (insS n.names s.data.toList).length := by
            obtain ⟨_, _, _, e, hl, -, -⟩ := h9.rowLen
            simp only [Value.slice.injEq] at e
            obtain ⟨rfl, rfl, rfl⟩ := e
            rw [List.length_map, Nat.mul_one] at hl
            exact hl.symm
          subst hnl
          clear HX
          have HX := Lib.hid h9
          clear hnm h9
          go_step
          go_step
          refine sWT ?_
          clear HX
          intro w HX
          simp only [Act.put, k_a, k_b, k_c] at HX ⊢
          go_wp2_with (first | (refine sWL ?_; simp only [Act.put, k_a, k_b, k_c, k_d, k_e, k_f, k_g, k_h, NodeS.cells, OpS.cells, ResS.cells]) | (refine sWM ?_; simp only [Act.put, k_a, k_b, k_c]) | ((first | refine sWS ?_ | refine sWT ?_); clear HX; intro w HX; simp only [Act.put, k_a, k_b, k_c, setMany, Nat.reduceAdd, NodeS.cells, OpS.cells, ResS.cells] at HX ⊢) | (refine sWA ?_; clear HX; (first | (have hq := b4; clear hq; intro w b5 HX) | (have hq := b3; clear hq; intro w b4 HX) | (have hq := b2; clear hq; intro w b3 HX) | (have hq := b; clear hq; intro w b2 HX) | intro w b HX); simp only [Act.put, k_a, k_b, k_c]) | ((first | (refine sWN ?_; clear HX; intro w mm HX) | (refine sWP ?_; clear HX; intro w av nv cv HX)); simp only [Act.put, k_a, k_b, k_c]))
          refine (more10_any _ _ HOK.out.kids).mono ?_
          rintro e w1 ⟨rfl, rfl⟩
          go_wp2_with (first | (refine sWL ?_; simp only [Act.put, k_a, k_b, k_c, k_d, k_e, k_f, k_g, k_h, NodeS.cells, OpS.cells, ResS.cells]) | (refine sWM ?_; simp only [Act.put, k_a, k_b, k_c]) | ((first | refine sWS ?_ | refine sWT ?_); clear HX; intro w HX; simp only [Act.put, k_a, k_b, k_c, setMany, Nat.reduceAdd, NodeS.cells, OpS.cells, ResS.cells] at HX ⊢) | (refine sWA ?_; clear HX; (first | (have hq := b4; clear hq; intro w b5 HX) | (have hq := b3; clear hq; intro w b4 HX) | (have hq := b2; clear hq; intro w b3 HX) | (have hq := b; clear hq; intro w b2 HX) | intro w b HX); simp only [Act.put, k_a, k_b, k_c]) | ((first | (refine sWN ?_; clear HX; intro w mm HX) | (refine sWP ?_; clear HX; intro w av nv cv HX)); simp only [Act.put, k_a, k_b, k_c]))
          refine (more10_any _ _ HOK.out.next).mono ?_
          rintro e w1 ⟨rfl, rfl⟩
          go_wp2_with (first | (refine sWL ?_; simp only [Act.put, k_a, k_b, k_c, k_d, k_e, k_f, k_g, k_h, NodeS.cells, OpS.cells, ResS.cells]) | (refine sWM ?_; simp only [Act.put, k_a, k_b, k_c]) | ((first | refine sWS ?_ | refine sWT ?_); clear HX; intro w HX; simp only [Act.put, k_a, k_b, k_c, setMany, Nat.reduceAdd, NodeS.cells, OpS.cells, ResS.cells] at HX ⊢) | (refine sWA ?_; clear HX; (first | (have hq := b4; clear hq; intro w b5 HX) | (have hq := b3; clear hq; intro w b4 HX) | (have hq := b2; clear hq; intro w b3 HX) | (have hq := b; clear hq; intro w b2 HX) | intro w b HX); simp only [Act.put, k_a, k_b, k_c]) | ((first | (refine sWN ?_; clear HX; intro w mm HX) | (refine sWP ?_; clear HX; intro w av nv cv HX)); simp only [Act.put, k_a, k_b, k_c]))
          refine sx_ret2 HX rfl rfl (by (repeat (first | (with_reducible exact k_s) | (with_reducible apply k_m)))) (by kernel_rfl) ?_
          refine ⟨.slice av (insS n.names s.data.toList).length cv, _, ?_, fun q hq => k_n _ (HSUB.out q hq), ?_, HX.out.poolRow.cut1.cut1⟩
          · unfold addS
            rw [HHB.out]
            rfl
          · unfold addS
            rw [HHB.out]
            exact k_s
        · refine ⟨_, (by (simp only [k_i, k_j, k_k]; try rfl)), fun K hK => ?_⟩
          go_wp2_with (first | (refine sWL ?_; simp only [Act.put, k_a, k_b, k_c, k_d, k_e, k_f, k_g, k_h, NodeS.cells, OpS.cells, ResS.cells]) | (refine sWM ?_; simp only [Act.put, k_a, k_b, k_c]) | ((first | refine sWS ?_ | refine sWT ?_); clear HX; intro w HX; simp only [Act.put, k_a, k_b, k_c, setMany, Nat.reduceAdd, NodeS.cells, OpS.cells, ResS.cells] at HX ⊢) | (refine sWA ?_; clear HX; (first | (have hq := b4; clear hq; intro w b5 HX) | (have hq := b3; clear hq; intro w b4 HX) | (have hq := b2; clear hq; intro w b3 HX) | (have hq := b; clear hq; intro w b2 HX) | intro w b HX); simp only [Act.put, k_a, k_b, k_c]) | ((first | (refine sWN ?_; clear HX; intro w mm HX) | (refine sWP ?_; clear HX; intro w av nv cv HX)); simp only [Act.put, k_a, k_b, k_c]))
          refine hK _ _ HX.out.drop.drop ?_
          clear hK
          refine wpAnyM_one (fuel := 4) (i := 5) (by kernel_rfl) (by (simp only [k_i, k_j, k_k]; try rfl)) (fun K hK => ?_)
          go_wp2_with (first | (refine sWL ?_; simp only [Act.put, k_a, k_b, k_c, k_d, k_e, k_f, k_g, k_h, NodeS.cells, OpS.cells, ResS.cells]) | (refine sWM ?_; simp only [Act.put, k_a, k_b, k_c]) | ((first | refine sWS ?_ | refine sWT ?_); clear HX; intro w HX; simp only [Act.put, k_a, k_b, k_c, setMany, Nat.reduceAdd, NodeS.cells, OpS.cells, ResS.cells] at HX ⊢) | (refine sWA ?_; clear HX; (first | (have hq := b4; clear hq; intro w b5 HX) | (have hq := b3; clear hq; intro w b4 HX) | (have hq := b2; clear hq; intro w b3 HX) | (have hq := b; clear hq; intro w b2 HX) | intro w b HX); simp only [Act.put, k_a, k_b, k_c]) | ((first | (refine sWN ?_; clear HX; intro w mm HX) | (refine sWP ?_; clear HX; intro w av nv cv HX)); simp only [Act.put, k_a, k_b, k_c]) | ((with_reducible apply sx_appP HX); (· exact sl_str); (· rfl); (· rfl); (· (repeat (first | (with_reducible exact Rem.here) | (with_reducible apply Rem.there)))); (· (repeat (first | (with_reducible exact k_s) | (with_reducible apply k_m)))); (· (first | exact HMEM.out.1 | exact HMEM.out.2)); (· exact sv_one); (· (intro n m hn hm; simp only [List.length_nil, List.length_append, List.length_map, List.length_take, List.length_drop, List.length_cons, Array.length_toList, List.size_toArray] at hn hm; omega)); clear HX; intro w av nv cv HX; simp only [Act.put, k_a, k_b, k_c]))
          refine hK _ _ HX.out.drop.drop ?_
          clear hK
          refine wpAnyM_one (fuel := 3) (i := 8) (by kernel_rfl) (by (simp only [k_i, k_j, k_k]; try rfl)) (fun K hK => ?_)
          go_wp2_with (first | (refine sWL ?_; simp only [Act.put, k_a, k_b, k_c, k_d, k_e, k_f, k_g, k_h, NodeS.cells, OpS.cells, ResS.cells]) | (refine sWM ?_; simp only [Act.put, k_a, k_b, k_c]) | ((first | refine sWS ?_ | refine sWT ?_); clear HX; intro w HX; simp only [Act.put, k_a, k_b, k_c, setMany, Nat.reduceAdd, NodeS.cells, OpS.cells, ResS.cells] at HX ⊢) | (refine sWA ?_; clear HX; (first | (have hq := b4; clear hq; intro w b5 HX) | (have hq := b3; clear hq; intro w b4 HX) | (have hq := b2; clear hq; intro w b3 HX) | (have hq := b; clear hq; intro w b2 HX) | intro w b HX); simp only [Act.put, k_a, k_b, k_c]) | ((first | (refine sWN ?_; clear HX; intro w mm HX) | (refine sWP ?_; clear HX; intro w av nv cv HX)); simp only [Act.put, k_a, k_b, k_c]))
          refine hK _ _ (HX.out.pm 5 [2, 3, 4] rfl rfl) ?_
          clear hK
          refine wpAnyM_one (fuel := 2) (i := 13) (by kernel_rfl) (by (simp only [k_i, k_j, k_k]; try rfl)) (fun K hK => ?_)
          go_wp2_with (first | (refine sWL ?_; simp only [Act.put, k_a, k_b, k_c, k_d, k_e, k_f, k_g, k_h, NodeS.cells, OpS.cells, ResS.cells]) | (refine sWM ?_; simp only [Act.put, k_a, k_b, k_c]) | ((first | refine sWS ?_ | refine sWT ?_); clear HX; intro w HX; simp only [Act.put, k_a, k_b, k_c, setMany, Nat.reduceAdd, NodeS.cells, OpS.cells, ResS.cells] at HX ⊢) | (refine sWA ?_; clear HX; (first | (have hq := b4; clear hq; intro w b5 HX) | (have hq := b3; clear hq; intro w b4 HX) | (have hq := b2; clear hq; intro w b3 HX) | (have hq := b; clear hq; intro w b2 HX) | intro w b HX); simp only [Act.put, k_a, k_b, k_c]) | ((first | (refine sWN ?_; clear HX; intro w mm HX) | (refine sWP ?_; clear HX; intro w av nv cv HX)); simp only [Act.put, k_a, k_b, k_c]) | ((with_reducible apply sx_appP HX); (· exact sl_str); (· rfl); (· rfl); (· (repeat (first | (with_reducible exact Rem.here) | (with_reducible apply Rem.there)))); (· (repeat (first | (with_reducible exact k_s) | (with_reducible apply k_m)))); (· (first | exact HMEM.out.1 | exact HMEM.out.2)); (· exact sv_one); (· (intro n m hn hm; simp only [List.length_nil, List.length_append, List.length_map, List.length_take, List.length_drop, List.length_cons, Array.length_toList, List.size_toArray] at hn hm; omega)); clear HX; intro w av nv cv HX; simp only [Act.put, k_a, k_b, k_c]))
          refine hK _ _ (HX.out.pm 5 [2, 3, 4] rfl rfl) ?_
          clear hK
          refine wpAnyM_of_any _ _ _ _ (by decide) ?_
          refine wpAny_list [14, 15] (fuel := 0) (by kernel_rfl) ?_
          simp only [List.filterMap_cons, List.filterMap_nil, k_i, k_j, k_k]
          have hnm : ([] ++ (n.names.take k).map sv ++ [.string s] ++ (n.names.drop k).map sv) = (insS n.names s.data.toList).map sv := by
            first
              | (rw [List.eq_nil_of_length_eq_zero hn0]; rfl)
              | (unfold insS; rw [HK.out, List.nil_append, List.map_append, List.map_cons, List.append_assoc]; rfl)
          have h9 := HX.out.cut1
          rw [hnm] at h9
          have hnl : nv = (insS n.names s.data.toList).length := by
            obtain ⟨_, _, _, e, hl, -, -⟩ := h9.rowLen
            simp only [Value.slice.injEq] at e
            obtain ⟨rfl, rfl, rfl⟩ := e
            rw [List.length_map, Nat.mul_one] at hl
            exact hl.symm
          subst hnl
          clear HX
          have HX := Lib.hid h9
          clear hnm h9
          go_step
          go_step
          refine sWT ?_
          clear HX
          intro w HX
          simp only [Act.put, k_a, k_b, k_c] at HX ⊢
          go_wp2_with (first | (refine sWL ?_; simp only [Act.put, k_a, k_b, k_c, k_d, k_e, k_f, k_g, k_h, NodeS.cells, OpS.cells, ResS.cells]) | (refine sWM ?_; simp only [Act.put, k_a, k_b, k_c]) | ((first | refine sWS ?_ | refine sWT ?_); clear HX; intro w HX; simp only [Act.put, k_a, k_b, k_c, setMany, Nat.reduceAdd, NodeS.cells, OpS.cells, ResS.cells] at HX ⊢) | (refine sWA ?_; clear HX; (first | (have hq := b4; clear hq; intro w b5 HX) | (have hq := b3; clear hq; intro w b4 HX) | (have hq := b2; clear hq; intro w b3 HX) | (have hq := b; clear hq; intro w b2 HX) | intro w b HX); simp only [Act.put, k_a, k_b, k_c]) | ((first | (refine sWN ?_; clear HX; intro w mm HX) | (refine sWP ?_; clear HX; intro w av nv cv HX)); simp only [Act.put, k_a, k_b, k_c]))
          refine (more10_any _ _ HOK.out.kids).mono ?_
          rintro e w1 ⟨rfl, rfl⟩
          go_wp2_with (first | (refine sWL ?_; simp only [Act.put, k_a, k_b, k_c, k_d, k_e, k_f, k_g, k_h, NodeS.cells, OpS.cells, ResS.cells]) | (refine sWM ?_; simp only [Act.put, k_a, k_b, k_c]) | ((first | refine sWS ?_ | refine sWT ?_); clear HX; intro w HX; simp only [Act.put, k_a, k_b, k_c, setMany, Nat.reduceAdd, NodeS.cells, OpS.cells, ResS.cells] at HX ⊢) | (refine sWA ?_; clear HX; (first | (have hq := b4; clear hq; intro w b5 HX) | (have hq := b3; clear hq; intro w b4 HX) | (have hq := b2; clear hq; intro w b3 HX) | (have hq := b; clear hq; intro w b2 HX) | intro w b HX); simp only [Act.put, k_a, k_b, k_c]) | ((first | (refine sWN ?_; clear HX; intro w mm HX) | (refine sWP ?_; clear HX; intro w av nv cv HX)); simp only [Act.put, k_a, k_b, k_c]))
          refine (more10_any _ _ HOK.out.next).mono ?_
          rintro e w1 ⟨rfl, rfl⟩
          go_wp2_with (first | (refine sWL ?_; simp only [Act.put, k_a, k_b, k_c, k_d, k_e, k_f, k_g, k_h, NodeS.cells, OpS.cells, ResS.cells]) | (refine sWM ?_; simp only [Act.put, k_a, k_b, k_c]) | ((first | refine sWS ?_ | refine sWT ?_); clear HX; intro w HX; simp only [Act.put, k_a, k_b, k_c, setMany, Nat.reduceAdd, NodeS.cells, OpS.cells, ResS.cells] at HX ⊢) | (refine sWA ?_; clear HX; (first | (have hq := b4; clear hq; intro w b5 HX) | (have hq := b3; clear hq; intro w b4 HX) | (have hq := b2; clear hq; intro w b3 HX) | (have hq := b; clear hq; intro w b2 HX) | intro w b HX); simp only [Act.put, k_a, k_b, k_c]) | ((first | (refine sWN ?_; clear HX; intro w mm HX) | (refine sWP ?_; clear HX; intro w av nv cv HX)); simp only [Act.put, k_a, k_b, k_c]))
          refine sx_ret2 HX rfl rfl (by (repeat (first | (with_reducible exact k_s) | (with_reducible apply k_m)))) (by kernel_rfl) ?_
          refine ⟨.slice av (insS n.names s.data.toList).length cv, _, ?_, fun q hq => k_n _ (HSUB.out q hq), ?_, HX.out.poolRow.cut1.cut1⟩
          · unfold addS
            rw [HHB.out]
            rfl
          · unfold addS
            rw [HHB.out]
            exact k_s
      · refine ⟨_, (by (simp only [k_i, k_j, k_k]; try rfl)), fun K hK => ?_⟩
        go_wp2_with (first | (refine sWL ?_; simp only [Act.put, k_a, k_b, k_c, k_d, k_e, k_f, k_g, k_h, NodeS.cells, OpS.cells, ResS.cells]) | (refine sWM ?_; simp only [Act.put, k_a, k_b, k_c]) | ((first | refine sWS ?_ | refine sWT ?_); clear HX; intro w HX; simp only [Act.put, k_a, k_b, k_c, setMany, Nat.reduceAdd, NodeS.cells, OpS.cells, ResS.cells] at HX ⊢) | (refine sWA ?_; clear HX; (first | (have hq := b4; clear hq; intro w b5 HX) | (have hq := b3; clear hq; intro w b4 HX) | (have hq := b2; clear hq; intro w b3 HX) | (have hq := b; clear hq; intro w b2 HX) | intro w b HX); simp only [Act.put, k_a, k_b, k_c]) | ((first | (refine sWN ?_; clear HX; intro w mm HX) | (refine sWP ?_; clear HX; intro w av nv cv HX)); simp only [Act.put, k_a, k_b, k_c]))
        refine hK _ _ HX.out.drop ?_
        clear hK
        refine wpAnyM_one (fuel := 5) (i := 0) (by kernel_rfl) (by (simp only [k_i, k_j, k_k]; try rfl)) (fun K hK => ?_)
        go_wp2_with (first | (refine sWL ?_; simp only [Act.put, k_a, k_b, k_c, k_d, k_e, k_f, k_g, k_h, NodeS.cells, OpS.cells, ResS.cells]) | (refine sWM ?_; simp only [Act.put, k_a, k_b, k_c]) | ((first | refine sWS ?_ | refine sWT ?_); clear HX; intro w HX; simp only [Act.put, k_a, k_b, k_c, setMany, Nat.reduceAdd, NodeS.cells, OpS.cells, ResS.cells] at HX ⊢) | (refine sWA ?_; clear HX; (first | (have hq := b4; clear hq; intro w b5 HX) | (have hq := b3; clear hq; intro w b4 HX) | (have hq := b2; clear hq; intro w b3 HX) | (have hq := b; clear hq; intro w b2 HX) | intro w b HX); simp only [Act.put, k_a, k_b, k_c]) | ((first | (refine sWN ?_; clear HX; intro w mm HX) | (refine sWP ?_; clear HX; intro w av nv cv HX)); simp only [Act.put, k_a, k_b, k_c]) | (refine sx_lit0 HX sl_str ?_; clear HX; intro w b4 HX; simp only [Act.put, k_a, k_b, k_c]))
        refine hK _ _ HX.out.drop.drop ?_
        clear hK
        refine wpAnyM_one (fuel := 4) (i := 5) (by kernel_rfl) (by (simp only [k_i, k_j, k_k]; try rfl)) (fun K hK => ?_)
        go_wp2_with (first | (refine sWL ?_; simp only [Act.put, k_a, k_b, k_c, k_d, k_e, k_f, k_g, k_h, NodeS.cells, OpS.cells, ResS.cells]) | (refine sWM ?_; simp only [Act.put, k_a, k_b, k_c]) | ((first | refine sWS ?_ | refine sWT ?_); clear HX; intro w HX; simp only [Act.put, k_a, k_b, k_c, setMany, Nat.reduceAdd, NodeS.cells, OpS.cells, ResS.cells] at HX ⊢) | (refine sWA ?_; clear HX; (first | (have hq := b4; clear hq; intro w b5 HX) | (have hq := b3; clear hq; intro w b4 HX) | (have hq := b2; clear hq; intro w b3 HX) | (have hq := b; clear hq; intro w b2 HX) | intro w b HX); simp only [Act.put, k_a, k_b, k_c]) | ((first | (refine sWN ?_; clear HX; intro w mm HX) | (refine sWP ?_; clear HX; intro w av nv cv HX)); simp only [Act.put, k_a, k_b, k_c]) | ((with_reducible apply sx_appP HX); (· exact sl_str); (· rfl); (· rfl); (· (repeat (first | (with_reducible exact Rem.here) | (with_reducible apply Rem.there)))); (· (repeat (first | (with_reducible exact k_s) | (with_reducible apply k_m)))); (· (first | exact HMEM.out.1 | exact HMEM.out.2)); (· exact sv_one); (· (intro n m hn hm; simp only [List.length_nil, List.length_append, List.length_map, List.length_take, List.length_drop, List.length_cons, Array.length_toList, List.size_toArray] at hn hm; omega)); clear HX; intro w av nv cv HX; simp only [Act.put, k_a, k_b, k_c]))
        refine hK _ _ HX.out.drop.drop ?_
        clear hK
        refine wpAnyM_one (fuel := 3) (i := 8) (by kernel_rfl) (by (simp only [k_i, k_j, k_k]; try rfl)) (fun K hK => ?_)
        go_wp2_with (first | (refine sWL ?_; simp only [Act.put, k_a, k_b, k_c, k_d, k_e, k_f, k_g, k_h, NodeS.cells, OpS.cells, ResS.cells]) | (refine sWM ?_; simp only [Act.put, k_a, k_b, k_c]) | ((first | refine sWS ?_ | refine sWT ?_); clear HX; intro w HX; simp only [Act.put, k_a, k_b, k_c, setMany, Nat.reduceAdd, NodeS.cells, OpS.cells, ResS.cells] at HX ⊢) | (refine sWA ?_; clear HX; (first | (have hq := b4; clear hq; intro w b5 HX) | (have hq := b3; clear hq; intro w b4 HX) | (have hq := b2; clear hq; intro w b3 HX) | (have hq := b; clear hq; intro w b2 HX) | intro w b HX); simp only [Act.put, k_a, k_b, k_c]) | ((first | (refine sWN ?_; clear HX; intro w mm HX) | (refine sWP ?_; clear HX; intro w av nv cv HX)); simp only [Act.put, k_a, k_b, k_c]))
        refine hK _ _ (HX.out.pm 5 [2, 3, 4] rfl rfl) ?_
        clear hK
        refine wpAnyM_one (fuel := 2) (i := 13) (by kernel_rfl) (by (simp only [k_i, k_j, k_k]; try rfl)) (fun K hK => ?_)
        go_wp2_with (first | (refine sWL ?_; simp only [Act.put, k_a, k_b, k_c, k_d, k_e, k_f, k_g, k_h, NodeS.cells, OpS.cells, ResS.cells]) | (refine sWM ?_; simp only [Act.put, k_a, k_b, k_c]) | ((first | refine sWS ?_ | refine sWT ?_); clear HX; intro w HX; simp only [Act.put, k_a, k_b, k_c, setMany, Nat.reduceAdd, NodeS.cells, OpS.cells, ResS.cells] at HX ⊢) | (refine sWA ?_; clear HX; (first | (have hq := b4; clear hq; intro w b5 HX) | (have hq := b3; clear hq; intro w b4 HX) | (have hq := b2; clear hq; intro w b3 HX) | (have hq := b; clear hq; intro w b2 HX) | intro w b HX); simp only [Act.put, k_a, k_b, k_c]) | ((first | (refine sWN ?_; clear HX; intro w mm HX) | (refine sWP ?_; clear HX; intro w av nv cv HX)); simp only [Act.put, k_a, k_b, k_c]) | ((with_reducible apply sx_appP HX); (· exact sl_str); (· rfl); (· rfl); (· (repeat (first | (with_reducible exact Rem.here) | (with_reducible apply Rem.there)))); (· (repeat (first | (with_reducible exact k_s) | (with_reducible apply k_m)))); (· (first | exact HMEM.out.1 | exact HMEM.out.2)); (· exact sv_one); (· (intro n m hn hm; simp only [List.length_nil, List.length_append, List.length_map, List.length_take, List.length_drop, List.length_cons, Array.length_toList, List.size_toArray] at hn hm; omega)); clear HX; intro w av nv cv HX; simp only [Act.put, k_a, k_b, k_c]))
        refine hK _ _ (HX.out.pm 5 [2, 3, 4] rfl rfl) ?_
        clear hK
        refine wpAnyM_of_any _ _ _ _ (by decide) ?_
        refine wpAny_list [14, 15] (fuel := 0) (by kernel_rfl) ?_
        simp only [List.filterMap_cons, List.filterMap_nil, k_i, k_j, k_k]
        have hnm : ([] ++ (n.names.take k).map sv ++ [.string s] ++ (n.names.drop k).map sv) = (insS n.names s.data.toList).map sv := by
          first
            | (rw [List.eq_nil_of_length_eq_zero hn0]; rfl)
            | (unfold insS; rw [HK.out, List.nil_append, List.map_append, List.map_cons, List.append_assoc]; rfl)
        have h9 := HX.out.cut1
        rw [hnm] at h9
        have hnl : nv = (insS n.names s.data.toList).length := by
          obtain ⟨_, _, _, e, hl, -, -⟩ := h9.rowLen
          simp only [Value.slice.injEq] at e
          obtain ⟨rfl, rfl, rfl⟩ := e
          rw [List.length_map, Nat.mul_one] at hl
          exact hl.symm
        subst hnl
        clear HX
        have HX := Lib.hid h9
        clear hnm h9
        go_step
        go_step
        refine sWT ?_
        clear HX
        intro w HX
        simp only [Act.put, k_a, k_b, k_c] at HX ⊢
        go_wp2_with (first | (refine sWL ?_; simp only [Act.put, k_a, k_b, k_c, k_d, k_e, k_f, k_g, k_h, NodeS.cells, OpS.cells, ResS.cells]) | (refine sWM ?_; simp only [Act.put, k_a, k_b, k_c]) | ((first | refine sWS ?_ | refine sWT ?_); clear HX; intro w HX; simp only [Act.put, k_a, k_b, k_c, setMany, Nat.reduceAdd, NodeS.cells, OpS.cells, ResS.cells] at HX ⊢) | (refine sWA ?_; clear HX; (first | (have hq := b4; clear hq; intro w b5 HX) | (have hq := b3; clear hq; intro w b4 HX) | (have hq := b2; clear hq; intro w b3 HX) | (have hq := b; clear hq; intro w b2 HX) | intro w b HX); simp only [Act.put, k_a, k_b, k_c]) | ((first | (refine sWN ?_; clear HX; intro w mm HX) | (refine sWP ?_; clear HX; intro w av nv cv HX)); simp only [Act.put, k_a, k_b, k_c]))
        refine (more10_any _ _ HOK.out.kids).mono ?_
        rintro e w1 ⟨rfl, rfl⟩
        go_wp2_with (first | (refine sWL ?_; simp only [Act.put, k_a, k_b, k_c, k_d, k_e, k_f, k_g, k_h, NodeS.cells, OpS.cells, ResS.cells]) | (refine sWM ?_; simp only [Act.put, k_a, k_b, k_c]) | ((first | refine sWS ?_ | refine sWT ?_); clear HX; intro w HX; simp only [Act.put, k_a, k_b, k_c, setMany, Nat.reduceAdd, NodeS.cells, OpS.cells, ResS.cells] at HX ⊢) | (refine sWA ?_; clear HX; (first | (have hq := b4; clear hq; intro w b5 HX) | (have hq := b3; clear hq; intro w b4 HX) | (have hq := b2; clear hq; intro w b3 HX) | (have hq := b; clear hq; intro w b2 HX) | intro w b HX); simp only [Act.put, k_a, k_b, k_c]) | ((first | (refine sWN ?_; clear HX; intro w mm HX) | (refine sWP ?_; clear HX; intro w av nv cv HX)); simp only [Act.put, k_a, k_b, k_c]))
        refine (more10_any _ _ HOK.out.next).mono ?_
        rintro e w1 ⟨rfl, rfl⟩
        go_wp2_with (first | (refine sWL ?_; simp only [Act.put, k_a, k_b, k_c, k_d, k_e, k_f, k_g, k_h, NodeS.cells, OpS.cells, ResS.cells]) | (refine sWM ?_; simp only [Act.put, k_a, k_b, k_c]) | ((first | refine sWS ?_ | refine sWT ?_); clear HX; intro w HX; simp only [Act.put, k_a, k_b, k_c, setMany, Nat.reduceAdd, NodeS.cells, OpS.cells, ResS.cells] at HX ⊢) | (refine sWA ?_; clear HX; (first | (have hq := b4; clear hq; intro w b5 HX) | (have hq := b3; clear hq; intro w b4 HX) | (have hq := b2; clear hq; intro w b3 HX) | (have hq := b; clear hq; intro w b2 HX) | intro w b HX); simp only [Act.put, k_a, k_b, k_c]) | ((first | (refine sWN ?_; clear HX; intro w mm HX) | (refine sWP ?_; clear HX; intro w av nv cv HX)); simp only [Act.put, k_a, k_b, k_c]))
        refine sx_ret2 HX rfl rfl (by (repeat (first | (with_reducible exact k_s) | (with_reducible apply k_m)))) (by kernel_rfl) ?_
        refine ⟨.slice av (insS n.names s.data.toList).length cv, _, ?_, fun q hq => k_n _ (HSUB.out q hq), ?_, HX.out.poolRow.cut1.cut1⟩
        · unfold addS
          rw [HHB.out]
          rfl
        · unfold addS
          rw [HHB.out]
          exact k_s
end
end Go.Proofs.YtjeaoopamebgjaaGreatDoor

namespace Go.Proofs.YtjeaoopamebgjaaGreatDoor
open Go.RowKit Go.Av
section
variable {w0 w : World} {b t : Nat} {S : TreeS} {P P' : List PRow} {R : List Thing} {rows : List (Value × Bs)}
set_option maxRecDepth 100000 in
set_option maxHeartbeats 2000000 in
theorem samen_any (h : Sep w0 w (ThPool w0 P :: R) rows) (n : NodeS) (va vb : Value) (ha : (1, va, n.names.map sv) ∈ P) (hb : (1, vb, n.names.map sv) ∈ P) :
    Calls Tryz.prog 34 #[n.val va, n.val vb] w fun e w' => e = .returned (.bool true) ∧ Sep w0 w' (ThPool w0 P :: R) rows := by
  obtain ⟨E, hE⟩ := h.poolGet ha
  obtain ⟨a1, n1, c1, rfl, -⟩ := ReadRow.some hE
  obtain ⟨E2, hE2⟩ := h.poolGet hb
  obtain ⟨a2, n2, c2, rfl, -⟩ := ReadRow.some hE2
  have HA := Lib.hid ha
  have HB := Lib.hid hb
  have HX := Lib.hid h
  have hq := beq_self_str n.data
  have hq2 : (n.data.toList == n.data.toList) = true := by simp
  clear h ha hb hE hE2
  unfold NodeS.val NodeS.cells
  go_enter Tryz.func34, Tryz.ntmps34
  go_wp2_with (first | (refine sWL ?_; simp only [Act.put, k_a, k_b, k_c, k_d, k_e, k_f, k_g, k_h, NodeS.cells, OpS.cells, ResS.cells]) | (refine sWM ?_; simp only [Act.put, k_a, k_b, k_c]) | ((first | refine sWS ?_ | refine sWT ?_); clear HX; intro w HX; simp only [Act.put, k_a, k_b, k_c, setMany, Nat.reduceAdd, NodeS.cells, OpS.cells, ResS.cells] at HX ⊢) | (refine sWA ?_; clear HX; (first | (have hq := b; clear hq; intro w b2 HX) | intro w b HX); simp only [Act.put, k_a, k_b, k_c]) | ((first | (refine sWN ?_; clear HX; intro w mm HX) | (refine sWP ?_; clear HX; intro w av nv cv HX)); simp only [Act.put, k_a, k_b, k_c]))
  refine (sames_any HX.out.up2 _ _ n.names HA.out HB.out).mono ?_
  rintro e w ⟨rfl, hx⟩
  clear HX
  have HX := Lib.hid hx
  clear hx
  go_wp2_with (first | (refine sWL ?_; simp only [Act.put, k_a, k_b, k_c, k_d, k_e, k_f, k_g, k_h, NodeS.cells, OpS.cells, ResS.cells]) | (refine sWM ?_; simp only [Act.put, k_a, k_b, k_c]) | ((first | refine sWS ?_ | refine sWT ?_); clear HX; intro w HX; simp only [Act.put, k_a, k_b, k_c, setMany, Nat.reduceAdd, NodeS.cells, OpS.cells, ResS.cells] at HX ⊢) | (refine sWA ?_; clear HX; (first | (have hq := b; clear hq; intro w b2 HX) | intro w b HX); simp only [Act.put, k_a, k_b, k_c]) | ((first | (refine sWN ?_; clear HX; intro w mm HX) | (refine sWP ?_; clear HX; intro w av nv cv HX)); simp only [Act.put, k_a, k_b, k_c]))
  go_ret
  exact ⟨rfl, HX.out.cut1.cut1⟩
set_option maxRecDepth 100000 in
theorem nd_any (h : Sep w0 w R rows) (n : NodeS) (a : Option Addr) (m c : Nat) : Calls Tryz.prog 32 #[n.val (.slice a m c)] w fun e w' => e = .returned (n.val (.slice a m c)) ∧ Sep w0 w' R rows := by
  have HX := Lib.hid h
  clear h
  unfold NodeS.val NodeS.cells
  go_enter Tryz.func32, Tryz.ntmps32
  go_wp2_with (first | (refine sWL ?_; simp only [Act.put, k_a, k_b, k_c, k_d, k_e, k_f, k_g, k_h, NodeS.cells, OpS.cells, ResS.cells]) | (refine sWM ?_; simp only [Act.put, k_a, k_b, k_c]) | ((first | refine sWS ?_ | refine sWT ?_); clear HX; intro w HX; simp only [Act.put, k_a, k_b, k_c, setMany, Nat.reduceAdd, NodeS.cells, OpS.cells, ResS.cells] at HX ⊢) | (refine sWA ?_; clear HX; (first | (have hq := b; clear hq; intro w b2 HX) | intro w b HX); simp only [Act.put, k_a, k_b, k_c]) | ((first | (refine sWN ?_; clear HX; intro w mm HX) | (refine sWP ?_; clear HX; intro w av nv cv HX)); simp only [Act.put, k_a, k_b, k_c]))
  refine sx_ret HX rfl rfl (by (repeat (first | (with_reducible exact k_s) | (with_reducible apply k_m)))) (by kernel_rfl) ?_
  exact ⟨rfl, HX.out.drop.drop⟩
def longS (l : List OpS) : Bool := decide (20 < l.length) || l.any fun o => decide (300 < o.path.size) || decide (1100 < o.data.size)
set_option maxRecDepth 100000 in
set_option maxHeartbeats 2000000 in
theorem long_any (h : Sep w0 w (ThPool w0 P :: R) rows) (l : List OpS) (v : Value) (hv : (5, v, l.flatMap OpS.cells) ∈ P) :
    Calls Tryz.prog 10 #[v] w fun e w' => e = .returned (.bool (longS l)) ∧ Sep w0 w' (ThPool w0 P :: R) rows := by
  obtain ⟨E, hE⟩ := h.poolGet hv
  obtain ⟨a1, n1, c1, rfl, hl1, hn1, hc1, hne1⟩ := ReadRow.some hE
  rw [flatG_len opcells_len] at hl1
  obtain rfl : l.length = n1 := by omega
  have HV := Lib.hid hv
  have HN := Lib.hid hne1
  have HX := Lib.hid h
  clear h hv hE hne1 hn1 hc1 hl1
  by_cases h20 : 20 < l.length
  · have HE := Lib.hid (show longS l = true by unfold longS; rw [decide_eq_true h20]; rfl)
    have q1 : decide (20 < l.length) = true := decide_eq_true h20
    have q2 : decide (20 < (l.length : Int)) = true := decide_eq_true (by omega)
    clear h20
    go_enter Tryz.func10, Tryz.ntmps10
    go_wp2_with (first | (refine sWL ?_; simp only [Act.put, k_a, k_b, k_c, k_d, k_e, k_f, k_g, k_h, NodeS.cells, OpS.cells, ResS.cells]) | (refine sWM ?_; simp only [Act.put, k_a, k_b, k_c]) | ((first | refine sWS ?_ | refine sWT ?_); clear HX; intro w HX; simp only [Act.put, k_a, k_b, k_c, setMany, Nat.reduceAdd, NodeS.cells, OpS.cells, ResS.cells] at HX ⊢) | (refine sWA ?_; clear HX; (first | (have hq := b; clear hq; intro w b2 HX) | intro w b HX); simp only [Act.put, k_a, k_b, k_c]) | ((first | (refine sWN ?_; clear HX; intro w mm HX) | (refine sWP ?_; clear HX; intro w av nv cv HX)); simp only [Act.put, k_a, k_b, k_c]))
    go_ret
    rw [HE.out]
    exact ⟨rfl, HX.out⟩
  have HE := Lib.hid (show longS l = l.any fun o => decide (300 < o.path.size) || decide (1100 < o.data.size) by unfold longS; rw [decide_eq_false h20]; rfl)
  have HL := Lib.hid (show l.length ≤ 20 by omega)
  have q1 : decide (20 < l.length) = false := decide_eq_false h20
  have q2 : decide (20 < (l.length : Int)) = false := decide_eq_false (by omega)
  clear h20
  go_enter Tryz.func10, Tryz.ntmps10
  go_wp2_with (first | (refine sWL ?_; simp only [Act.put, k_a, k_b, k_c, k_d, k_e, k_f, k_g, k_h, NodeS.cells, OpS.cells, ResS.cells]) | (refine sWM ?_; simp only [Act.put, k_a, k_b, k_c]) | ((first | refine sWS ?_ | refine sWT ?_); clear HX; intro w HX; simp only [Act.put, k_a, k_b, k_c, setMany, Nat.reduceAdd, NodeS.cells, OpS.cells, ResS.cells] at HX ⊢) | (refine sWA ?_; clear HX; (first | (have hq := b; clear hq; intro w b2 HX) | intro w b HX); simp only [Act.put, k_a, k_b, k_c]) | ((first | (refine sWN ?_; clear HX; intro w mm HX) | (refine sWP ?_; clear HX; intro w av nv cv HX)); simp only [Act.put, k_a, k_b, k_c]))
  go_loopg [3] l.length (fun k v3 wr => ∃ i : Nat, i + k = l.length ∧ v3 = .int .i64 (i : Int) ∧ ((l.take i).any fun o => decide (300 < o.path.size) || decide (1100 < o.data.size)) = false ∧ Sep w0 wr (ThPool w0 P :: R) rows)
  case atStart => exact ⟨0, by omega, rfl, rfl, HX.out⟩
  case round =>
    rename World => w
    obtain ⟨i, hik, rfl, hno, hS⟩ := hrel
    clear HX
    have HX := Lib.hid hS
    clear hS
    by_cases hlt : i < l.length
    case neg =>
      obtain rfl : i = l.length := by omega
      rw [List.take_length] at hno
      have HE2 := Lib.hid (HE.out.trans hno)
      clear hlt hik hno
      go_wp2_with (first | (refine sWL ?_; simp only [Act.put, k_a, k_b, k_c, k_d, k_e, k_f, k_g, k_h, NodeS.cells, OpS.cells, ResS.cells]) | (refine sWM ?_; simp only [Act.put, k_a, k_b, k_c]) | ((first | refine sWS ?_ | refine sWT ?_); clear HX; intro w HX; simp only [Act.put, k_a, k_b, k_c, setMany, Nat.reduceAdd, NodeS.cells, OpS.cells, ResS.cells] at HX ⊢) | (refine sWA ?_; clear HX; (first | (have hq := b; clear hq; intro w b2 HX) | intro w b HX); simp only [Act.put, k_a, k_b, k_c]) | ((first | (refine sWN ?_; clear HX; intro w mm HX) | (refine sWP ?_; clear HX; intro w av nv cv HX)); simp only [Act.put, k_a, k_b, k_c]))
      go_ret
      rw [HE2.out]
      exact ⟨rfl, HX.out⟩
    case pos =>
      obtain ⟨g1, o1, rfl⟩ := HN.out (by intro e; have := congrArg List.length e; rw [flatG_len opcells_len] at this; simp at this; omega)
      obtain ⟨E, hE⟩ := HX.out.poolGet HV.out
      have hx : ∀ j v, (OpS.cells l[i])[j]? = some v → (l.flatMap OpS.cells)[i * 5 + j]? = some v := fun j v hj => by
        rw [flatG_at opcells_len l hlt (by have := (List.getElem?_eq_some_iff.1 hj).1; exact this)]
        exact hj
      have hl := row_fld (P := Tryz.prog) (ty := 9) hE (by kernel_rfl) (hx 1 _ rfl)
      have hl2 := row_fld (P := Tryz.prog) (ty := 9) hE (by kernel_rfl) (hx 2 _ rfl)
      have HT := Lib.hid (show l.take (i + 1) = l.take i ++ [l[i]] from List.take_succ_eq_append_getElem hlt)
      have HM := Lib.hid (List.getElem_mem hlt)
      obtain ⟨o, ho⟩ : ∃ o, l[i] = o := ⟨_, rfl⟩
      rw [ho] at hl hl2 HT HM
      have HNO := Lib.hid hno
      have q0 : decide (i < l.length) = true := decide_eq_true hlt
      have q9 : i ≤ 20 := by have := HL.out; omega
      clear hE hx ho hno
      obtain ⟨z1, h1⟩ : ∃ z, decide (300 < o.path.size) = z := ⟨_, rfl⟩
      obtain ⟨z2, h2⟩ : ∃ z, decide (1100 < o.data.size) = z := ⟨_, rfl⟩
      have h1' : decide (300 < (o.path.size : Int)) = z1 := by rw [← h1]; exact decide_eq_decide.2 (by omega)
      have h2' : decide (1100 < (o.data.size : Int)) = z2 := by rw [← h2]; exact decide_eq_decide.2 (by omega)
      by_cases hz : z1 = true ∨ z2 = true
      · have HE2 := Lib.hid (show longS l = true by
          rw [HE.out]
          refine List.any_eq_true.2 ⟨o, HM.out, ?_⟩
          rw [h1, h2]
          rcases hz with h | h <;> simp [h])
        cases z1 <;> cases z2
        case false.false => exact absurd hz (by simp)
        all_goals
          clear hz
          go_wp2_with (first | (refine sWL ?_; simp only [Act.put, k_a, k_b, k_c, k_d, k_e, k_f, k_g, k_h, NodeS.cells, OpS.cells, ResS.cells]) | (refine sWM ?_; simp only [Act.put, k_a, k_b, k_c]) | ((first | refine sWS ?_ | refine sWT ?_); clear HX; intro w HX; simp only [Act.put, k_a, k_b, k_c, setMany, Nat.reduceAdd, NodeS.cells, OpS.cells, ResS.cells] at HX ⊢) | (refine sWA ?_; clear HX; (first | (have hq := b; clear hq; intro w b2 HX) | intro w b HX); simp only [Act.put, k_a, k_b, k_c]) | ((first | (refine sWN ?_; clear HX; intro w mm HX) | (refine sWP ?_; clear HX; intro w av nv cv HX)); simp only [Act.put, k_a, k_b, k_c]) | ((with_reducible apply sx_loadAt hl); (· rfl); (· rfl); simp only [Act.put, k_a, k_b, k_c]) | ((with_reducible apply sx_loadAt hl2); (· rfl); (· rfl); simp only [Act.put, k_a, k_b, k_c]))
          go_ret
          rw [HE2.out]
          exact ⟨rfl, HX.out⟩
      · have HN2 := Lib.hid (show ((l.take (i + 1)).any fun o => decide (300 < o.path.size) || decide (1100 < o.data.size)) = false by
          rw [HT.out, List.any_append, HNO.out]
          simp only [List.any_cons, List.any_nil, Bool.or_false, Bool.false_or]
          rw [h1, h2]
          cases z1 <;> cases z2 <;> simp_all)
        obtain rfl : z1 = false := by cases z1 <;> simp_all
        obtain rfl : z2 = false := by cases z2 <;> simp_all
        clear hz
        go_wp2_with (first | (refine sWL ?_; simp only [Act.put, k_a, k_b, k_c, k_d, k_e, k_f, k_g, k_h, NodeS.cells, OpS.cells, ResS.cells]) | (refine sWM ?_; simp only [Act.put, k_a, k_b, k_c]) | ((first | refine sWS ?_ | refine sWT ?_); clear HX; intro w HX; simp only [Act.put, k_a, k_b, k_c, setMany, Nat.reduceAdd, NodeS.cells, OpS.cells, ResS.cells] at HX ⊢) | (refine sWA ?_; clear HX; (first | (have hq := b; clear hq; intro w b2 HX) | intro w b HX); simp only [Act.put, k_a, k_b, k_c]) | ((first | (refine sWN ?_; clear HX; intro w mm HX) | (refine sWP ?_; clear HX; intro w av nv cv HX)); simp only [Act.put, k_a, k_b, k_c]) | ((with_reducible apply sx_loadAt hl); (· rfl); (· rfl); simp only [Act.put, k_a, k_b, k_c]) | ((with_reducible apply sx_loadAt hl2); (· rfl); (· rfl); simp only [Act.put, k_a, k_b, k_c]))
        go_roundg (l.length - (i + 1))
        case rel => exact ⟨i + 1, by omega, by go_num, HN2.out, HX.out⟩
        case measure => omega
end
end Go.Proofs.YtjeaoopamebgjaaGreatDoor
