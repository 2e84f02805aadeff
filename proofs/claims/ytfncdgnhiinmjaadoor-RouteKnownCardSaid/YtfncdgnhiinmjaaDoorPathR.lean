/-
  The walks of the document's own paths: Cut, IsName, Parts, Good, Top.
-/
import Derived.Test.YtfncdgnhiinmjaaDoorPathC
namespace Go.Av
open Go.RowKit
/-- A text at each such byte. -/
def cutStep (b : UInt8) (acc : List Bs) (c : UInt8) : List Bs := if c = b then acc ++ [[]] else acc.dropLast ++ [acc.getLastD [] ++ [c]]
def cutG (b : UInt8) (l : Bs) : List Bs := l.foldl (cutStep b) [[]]
theorem cutG_ne (b : UInt8) (l : Bs) : cutG b l ≠ [] := by
  have : ∀ (l : Bs) (acc : List Bs), acc ≠ [] → l.foldl (cutStep b) acc ≠ [] := by
    intro l
    induction l with
    | nil => exact fun _ h => h
    | cons c l ih =>
      intro acc h
      refine ih _ ?_
      unfold cutStep
      split <;> simp
  exact this l _ (by simp)
theorem cutG_snoc (b : UInt8) (l : Bs) (c : UInt8) : cutG b (l ++ [c]) = cutStep b (cutG b l) c := by
  unfold cutG
  rw [List.foldl_append]
  rfl
theorem fold_mem (b : UInt8) : ∀ (l : Bs) (acc : List Bs) (n : Nat), (∀ x ∈ acc, x.length ≤ n) → ∀ x ∈ l.foldl (cutStep b) acc, x.length ≤ n + l.length
  | [], acc, n, h => h
  | c :: l, acc, n, h => fun x hx => by
    rw [List.foldl_cons] at hx
    have := fold_mem b l (cutStep b acc c) (n + 1) (fun y hy => by
      unfold cutStep at hy
      split at hy
      · rcases List.mem_append.1 hy with hy | hy
        · have := h y hy; omega
        · rw [List.mem_singleton.1 hy]; simp
      · rcases List.mem_append.1 hy with hy | hy
        · have := h y (List.dropLast_subset _ hy); omega
        · rw [List.mem_singleton.1 hy, List.length_append]
          cases hg : acc.getLast? with
          | none => rw [List.getLastD_eq_getLast?, hg]; simp
          | some z =>
            rw [List.getLastD_eq_getLast?, hg]
            have := h z (List.mem_of_getLast? hg)
            simp; omega) x hx
    rw [List.length_cons]; omega
theorem cutG_mem {b : UInt8} {l x : Bs} (h : x ∈ cutG b l) : x.length ≤ l.length := by
  have := fold_mem b l [[]] 0 (by simp) x h
  omega
theorem fold_cut : ∀ (l : Bs) (acc : List Bs) (x : Bs), l.foldl (cutStep 47) (acc ++ [x]) = acc ++ (match cutS l with | [] => [x] | y :: t => (x ++ y) :: t)
  | [], acc, x => by simp [cutS]
  | c :: l, acc, x => by
    rw [List.foldl_cons]
    by_cases hc : c = 47
    · subst hc
      have e1 : cutStep 47 (acc ++ [x]) 47 = (acc ++ [x]) ++ [[]] := by unfold cutStep; rw [if_pos rfl]
      rw [e1, fold_cut l, cutS, if_pos rfl]
      cases hs : cutS l with
      | nil => exact absurd hs (cutS_ne l)
      | cons y t => simp
    · have e1 : cutStep 47 (acc ++ [x]) c = acc ++ [x ++ [c]] := by unfold cutStep; rw [if_neg hc]; simp
      rw [e1, fold_cut l, cutS, if_neg hc]
      cases hs : cutS l with
      | nil => exact absurd hs (cutS_ne l)
      | cons y t => simp
theorem cutG_cut (l : Bs) : cutG 47 l = cutS l := by
  unfold cutG
  have := fold_cut l [] []
  rw [List.nil_append] at this
  rw [this]
  cases hs : cutS l with
  | nil => exact absurd hs (cutS_ne l)
  | cons y t => simp
theorem cut_noslash : ∀ {l : Bs} {x : Bs}, x ∈ cutS l → 47 ∉ x
  | [], x, h => by simp [cutS] at h; simp [h]
  | c :: l, x, h => by
    unfold cutS at h
    split at h
    · rcases List.mem_cons.1 h with rfl | h
      · simp
      · exact cut_noslash h
    · rename_i hc
      split at h
      · rename_i h0; exact absurd h0 (cutS_ne l)
      · rename_i y t hy
        rcases List.mem_cons.1 h with rfl | h
        · have := cut_noslash (x := y) (l := l) (by rw [hy]; simp)
          simp only [List.mem_cons, not_or]
          exact ⟨fun e => hc e.symm, this⟩
        · exact cut_noslash (x := x) (l := l) (by rw [hy]; simp [h])
/-- The document's names. -/
def nameR (l : Bs) : Bool := decide (1 ≤ l.length) && decide (l.length ≤ 40) && !(l == [46]) && !(l == [46, 46]) && l.all fun c => okCh c && !(c == 47)
theorem nameR_eq {l : Bs} (h : 47 ∉ l) : nameR l = nameS l := by
  have : (l.all fun c => okCh c && !(c == 47)) = l.all okCh := by
    rw [Bool.eq_iff_iff, List.all_eq_true, List.all_eq_true]
    constructor
    · intro ha c hc
      have := ha c hc
      simp only [Bool.and_eq_true] at this
      exact this.1
    · intro ha c hc
      have h1 : (c == 47) = false := beq_eq_false_iff_ne.2 fun e => h (e ▸ hc)
      rw [ha c hc, h1]
      rfl
  unfold nameR nameS
  rw [this]
  cases l.all okCh <;> simp [Bool.and_assoc]
theorem Sep.one {w w' : World} {v : Value} {xs : List Value} {size : Nat} {rows : List (Value × Bs)} (h : Sep w w' [ThRow size v xs] rows) : ∃ D, OwnRow w' size v xs D ∧ Upd w w' [] D := by
  obtain ⟨D, hl, hu, -⟩ := h
  cases hl with
  | @cons _ D _ E h1 h2 h3 =>
    cases h3 with
    | nil => exact ⟨D, h1, by simpa using hu⟩
end Go.Av
namespace Go.Proofs.YtfncdgnhiinmjaaDoor
open Go.RowKit Go.Av
theorem infoS : (Tryd.prog.info? 9).map (fun i => (i.zero, i.size, i.bytes)) = some (some (.string ByteArray.empty), 1, 16) := by kernel_rfl

set_option maxRecDepth 100000 in
set_option maxHeartbeats 2000000 in
theorem cut1_any (s : ByteArray) (b : UInt8) (w : World) (hs : s.size ≤ 1000000) :
    Calls Tryd.prog 48 #[.string s, .int .u8 b.toNat] w (PartsPost w (cutG b s.data.toList)) := by
  obtain ⟨i0, hi0, hz0, hz1, hz2⟩ := info_parts infoS
  have h0 := (Sep.start w).addRow (OwnRow.made w 9 1 1 1 #[.string ⟨#[]⟩] [sv []] rfl (Nat.le_refl _) (by decide) (Nat.le_refl _) rfl) (Upd.alloc1 w _ [])
  have H0 := Lib.hid h0
  have hbt : b.toNat < 256 := UInt8.toNat_lt b
  clear h0
  go_enter Tryd.func48, Tryd.ntmps48
  go_wp2_with fail
  go_loopg [5, 6] s.size (fun k vl vi wr => ∃ p : Nat, p ≤ s.size ∧ k = s.size - p ∧ vi = .int .i64 (p : Int) ∧ Sep w wr [ThRow 1 vl ((cutG b (s.data.toList.take p)).map sv)] [])
  case atStart => exact ⟨0, Nat.zero_le _, rfl, rfl, H0.out⟩
  case round =>
    obtain ⟨p, hp, hk, hvi, hS⟩ := hrel
    subst hvi
    clear H0
    by_cases hlt : p < s.size
    case neg =>
      obtain rfl : p = s.size := by omega
      rw [List.take_of_length_le (by simp)] at hS
      have HO := Lib.hid hS.one
      clear hS
      go_wp2_with fail
      go_ret
      obtain ⟨D, h1, h2⟩ := HO.out
      exact ⟨_, D, rfl, h1, h2⟩
    have hts : s.data.toList.take (p + 1) = s.data.toList.take p ++ [s[p]] := by
      rw [List.take_succ_eq_append_getElem (by simpa using hlt)]; rfl
    have hsn := cutG_snoc b (s.data.toList.take p) s[p]
    rw [← hts] at hsn
    have hne := cutG_ne b (s.data.toList.take p)
    have hcl : (cutG b (s.data.toList.take p)).length ≤ p + 1 := by
      have : ∀ (l : Bs), (cutG b l).length ≤ l.length + 1 := fun l => by
        unfold cutG
        have : ∀ (l : Bs) (acc : List Bs), acc ≠ [] → (l.foldl (cutStep b) acc).length ≤ l.length + acc.length := by
          intro l
          induction l with
          | nil => intro acc _; simp
          | cons c l ih =>
            intro acc h
            rw [List.foldl_cons]
            have h1 : (cutStep b acc c).length ≤ acc.length + 1 := by
              unfold cutStep
              split
              · simp
              · simp only [List.length_append, List.length_dropLast, List.length_singleton]; omega
            have := ih (cutStep b acc c) (by unfold cutStep; split <;> simp)
            rw [List.length_cons]
            omega
        have := this l [[]] (by simp)
        simpa using this
      have := this (s.data.toList.take p)
      rw [List.length_take] at this
      omega
    obtain ⟨acc, hacc⟩ : ∃ acc, cutG b (s.data.toList.take p) = acc := ⟨_, rfl⟩
    rw [hacc] at hsn hne hcl hS
    obtain ⟨al, nl, cl, rfl, hll, hnl, hml⟩ := hS.rowLen
    rw [List.length_map, Nat.mul_one] at hll
    subst hll
    unfold maxLen at hml
    by_cases hc : s[p] = b
    · have hcb : ((s[p].toNat : Int) == (b.toNat : Int)) = true := by rw [hc]; simp
      unfold cutStep at hsn
      rw [if_pos hc] at hsn
      obtain ⟨D, hown, -, back⟩ := hS.use
      have ha1 := Upd.alloc0 wr (.cells #[.string ⟨#[]⟩] 9 (0, 0)) []
      have hownA : OwnRow _ 1 _ _ D := OwnRow.frame hown (ha1.same (OwnRow.lt hown) (by simp))
      obtain ⟨nb, hnb, hsrc⟩ := (cell_new wr (.string ⟨#[]⟩) 9 (0, 0)).src (P := Tryd.prog) (tx := 65) Tryd.underlying65 (by intro u hu; rw [List.mem_singleton.1 hu]; rfl)
      obtain rfl : 1 = nb := by simpa using hnb
      have HBD := Lib.hid (show ∀ n', (acc.map sv).length = n' * 1 → n' + 1 ≤ 140737488355328 ∧ (n' + 1) * i0.bytes ≤ 140737488355328 from fun n' hn' => by
        rw [List.length_map] at hn'
        rw [hz2]; omega)
      have HBK := Lib.hid back
      have HSN := Lib.hid hsn
      clear hown back hS hnb hsn hts hne hacc hc
      go_wp2_with (at_builtin; go_must (refine wpList_app rfl _ _ 65 65 rfl 1 _ _ _ rfl hownA _ i0 _ Tryd.underlying65 hi0 hz0 hz1 rfl _ _ _ rfl hsrc HBD.out ?_); intro a7 n7 c7 w7 D7 hown7 hu7)
      have HN := Lib.hid (HBK.out w7 D7 (ThRow 1 (.slice a7 n7 c7) ((acc ++ [[]]).map sv)) ((ha1.mono (by simp) (fun b hb => .inr hb) : Upd wr _ D D).trans hu7) (by rw [List.map_append]; exact hown7))
      clear hown7 hu7 hsrc hownA
      go_roundg (s.size - (p + 1))
      case rel => exact ⟨p + 1, by omega, rfl, by go_num, by rw [HSN.out]; exact HN.out⟩
      case measure => omega
    · have hcb : ((s[p].toNat : Int) == (b.toNat : Int)) = false := beq_eq_false_iff_ne.2 fun e => hc (UInt8.toNat_inj.1 (by omega))
      unfold cutStep at hsn
      rw [if_neg hc] at hsn
      obtain ⟨k, hkl⟩ : ∃ k, acc.length = k + 1 := ⟨acc.length - 1, by have := List.length_pos_iff.2 hne; omega⟩
      have hlast : acc[k]? = some (acc.getLastD []) := by
        rw [List.getLastD_eq_getLast?, List.getLast?_eq_getElem?, hkl, Nat.add_sub_cancel, List.getElem?_eq_getElem (by omega)]
        rfl
      have hdl : acc.dropLast ++ [acc.getLastD [] ++ [s[p]]] = acc.set k (acc.getLastD [] ++ [s[p]]) := by
        apply List.ext_getElem?
        intro j
        rw [List.getElem?_set]
        by_cases hj : k = j
        · subst hj
          rw [if_pos rfl, List.getElem?_append_right (by rw [List.length_dropLast]; omega), List.length_dropLast, hkl]
          simp
        · rw [if_neg hj]
          by_cases hjk : j < k
          · rw [List.getElem?_append_left (by rw [List.length_dropLast]; omega), List.getElem?_dropLast]
            simp; omega
          · rw [List.getElem?_append_right (by rw [List.length_dropLast]; omega), List.length_dropLast, hkl, List.getElem?_eq_none (l := acc) (by omega)]
            simp; omega
      rw [hdl] at hsn
      obtain ⟨xl, hxl⟩ : ∃ xl, acc.getLastD [] = xl := ⟨_, rfl⟩
      rw [hxl] at hsn hlast
      have hxm : xl ∈ cutG b (s.data.toList.take p) := by rw [hacc]; exact List.mem_of_getElem? hlast
      have hxs := cutG_mem hxm
      rw [List.length_take] at hxs
      rw [hkl] at hS
      obtain ⟨y, rfl, hys, hcy⟩ := hS.rowCell (i := k) (x := sv xl) (by rw [List.getElem?_map, hlast]; rfl)
      obtain ⟨fy, -, -, hset⟩ := hS.drew.rowSet (i := k) (by omega) (sv (xl ++ [s[p]]))
      have hext : (⟨xl.toArray⟩ : ByteArray) ++ s.extract p (p + 1) = ⟨(xl ++ [s[p]]).toArray⟩ := by
        apply WideShapes.bytes_inj
        rw [ByteArray.data_append, Array.toList_append, Lib.extract_data]
        have : (s.data.toList.drop p).take (p + 1 - p) = [s[p]] := by
          rw [show p + 1 - p = 1 by omega, List.drop_eq_getElem_cons (by simpa using hlt)]; rfl
        rw [this]
      have HSN := Lib.hid (show _ ∧ _ ∧ _ from ⟨hsn, hset, hext⟩)
      clear hsn hts hne hacc hc hdl hxl hset hS hlast hext hxm
      rw [hkl]
      unfold sv at hcy
      obtain ⟨xs, hxs1⟩ : ∃ xs : ByteArray, xs = ⟨xl.toArray⟩ := ⟨_, rfl⟩
      have hxs2 : xs.size ≤ 1000000 := by rw [hxs1]; show xl.toArray.size ≤ _; simp; omega
      obtain ⟨es, hes⟩ : ∃ es, es = s.extract p (p + 1) := ⟨_, rfl⟩
      have hes2 : es.size ≤ 1 := by rw [hes]; simp; omega
      rw [← hxs1] at hcy
      rw [← hxs1, ← hes] at HSN
      have hk0 : IntKind.i64.wrap (k : Int) = (k : Int) := IntWalk.i64_in _ (by omega)
      have hp1 : IntKind.i64.wrap ((p : Int) + 1) = ((p + 1 : Nat) : Int) := by rw [IntWalk.i64_in _ (by omega)]; omega
      have hk2 : (k : Int) < (k : Int) + 1 := by omega
      have hp0 : 0 ≤ (p : Int) + 1 := by omega
      have hp2 : (p : Int) + 1 ≤ s.size := by omega
      have hp3 : (p : Int) ≤ (p : Int) + 1 := by omega
      go_wp2_with fail
      refine wp_region_M (fun W => W.cell? (y.add k) = some (.string xs)) 15 (by kernel_rfl) ?_
      refine wpAnyM_take (by kernel_rfl) (by intro c a d v w h; cases d <;> exact h) [(0, false), (1, false), (2, false), (3, false), (4, false), (5, false), (6, false), (7, false), (8, false), (9, true), (10, false), (11, false), (12, false), (13, false), (14, false)] (fuel := 3) (by kernel_rfl) ?_
      apply Exists.intro; refine ⟨?_, hcy, ?_⟩
      · iterate 15 ((first | (apply yieldN; (· (simp only [List.getElem?_toArray, List.getElem?_cons_succ, List.getElem?_cons_zero]; try rfl)); (· rfl)) | ((first | apply yieldP | apply yieldL); (· (simp only [List.getElem?_toArray, List.getElem?_cons_succ, List.getElem?_cons_zero]; try rfl)); (· rfl); (· (intros; go_simp; try with_reducible rfl)))); (· (simp only [Act.put, List.setIfInBounds_toArray, List.set_cons_zero, List.set_cons_succ]; try rfl)))
        exact rfl
      rw [← hes]
      refine wpAnyM_of_any _ _ _ _ (by decide) ?_
      refine wpAny_list [15, 16, 17] (fuel := 0) (by kernel_rfl) ?_
      simp only [List.filterMap_cons, List.filterMap_nil, List.getElem?_toArray, List.getElem?_cons_succ, List.getElem?_cons_zero]
      go_wp2_with fail
      go_roundg (s.size - (p + 1))
      case rel => 
        refine ⟨p + 1, by omega, rfl, by go_num, ?_⟩
        rw [HSN.out.1, ← hxs1, ← hes, HSN.out.2.2]
        have := HSN.out.2.1
        rw [← List.map_set] at this
        exact this
      case measure => omega
end Go.Proofs.YtfncdgnhiinmjaaDoor
