/-
  Texts of this claim, laid together.
-/
import Derived.Test.YtfncdgnhiinmjaaDoorMg2
import Derived.Sort.Walk0

/-
  The walks of the document's own paths: Cut, IsName, Parts, Good, Top.
-/
namespace Go.Av
open Go.RowKit
/-- A text at each such byte. -/
def cutStep (b : UInt8) (acc : List Bs) (c : UInt8) : List Bs := if c = b then acc ++ [[]] else acc.dropLast ++ [acc.getLastD [] ++ [c]]
def cutG (b : UInt8) (l : Bs) : List Bs := l.foldl (cutStep b) [[]]
theorem cutG_ne (b : UInt8) (l : Bs) : cutG b l ≠ [] := by
  have : ∀ (l : Bs) (acc : List Bs), acc ≠ [] → l.foldl (cutStep b) acc ≠ [] := by
    intro l
    induction l with
    | nil => exact fun _ h => h
    | cons c l ih =>
      intro acc h
      refine ih _ ?_
      unfold cutStep
      split <;> simp
  exact this l _ (by simp)
theorem cutG_snoc (b : UInt8) (l : Bs) (c : UInt8) : cutG b (l ++ [c]) = cutStep b (cutG b l) c := by
  unfold cutG
  rw [List.foldl_append]
  rfl
theorem fold_mem (b : UInt8) : ∀ (l : Bs) (acc : List Bs) (n : Nat), (∀ x ∈ acc, x.length ≤ n) → ∀ x ∈ l.foldl (cutStep b) acc, x.length ≤ n + l.length
  | [], acc, n, h => h
  | c :: l, acc, n, h => fun x hx => by
    rw [List.foldl_cons] at hx
    have := fold_mem b l (cutStep b acc c) (n + 1) (fun y hy => by
      unfold cutStep at hy
      split at hy
      · rcases List.mem_append.1 hy with hy | hy
        · have := h y hy; omega
        · rw [List.mem_singleton.1 hy]; simp
      · rcases List.mem_append.1 hy with hy | hy
        · have := h y (List.dropLast_subset _ hy); omega
        · rw [List.mem_singleton.1 hy, List.length_append]
          cases hg : acc.getLast? with
          | none => rw [List.getLastD_eq_getLast?, hg]; simp
          | some z =>
            rw [List.getLastD_eq_getLast?, hg]
            have := h z (List.mem_of_getLast? hg)
            simp; omega) x hx
    rw [List.length_cons]; omega
theorem cutG_mem {b : UInt8} {l x : Bs} (h : x ∈ cutG b l) : x.length ≤ l.length := by
  have := fold_mem b l [[]] 0 (by simp) x h
  omega
theorem fold_cut : ∀ (l : Bs) (acc : List Bs) (x : Bs), l.foldl (cutStep 47) (acc ++ [x]) = acc ++ (match cutS l with | [] => [x] | y :: t => (x ++ y) :: t)
  | [], acc, x => by simp [cutS]
  | c :: l, acc, x => by
    rw [List.foldl_cons]
    by_cases hc : c = 47
    · subst hc
      have e1 : cutStep 47 (acc ++ [x]) 47 = (acc ++ [x]) ++ [[]] := by unfold cutStep; rw [if_pos rfl]
      rw [e1, fold_cut l, cutS, if_pos rfl]
      cases hs : cutS l with
      | nil => exact absurd hs (cutS_ne l)
      | cons y t => simp
    · have e1 : cutStep 47 (acc ++ [x]) c = acc ++ [x ++ [c]] := by unfold cutStep; rw [if_neg hc]; simp
      rw [e1, fold_cut l, cutS, if_neg hc]
      cases hs : cutS l with
      | nil => exact absurd hs (cutS_ne l)
      | cons y t => simp
theorem cutG_cut (l : Bs) : cutG 47 l = cutS l := by
  unfold cutG
  have := fold_cut l [] []
  rw [List.nil_append] at this
  rw [this]
  cases hs : cutS l with
  | nil => exact absurd hs (cutS_ne l)
  | cons y t => simp
theorem cut_noslash : ∀ {l : Bs} {x : Bs}, x ∈ cutS l → 47 ∉ x
  | [], x, h => by simp [cutS] at h; simp [h]
  | c :: l, x, h => by
    unfold cutS at h
    split at h
    · rcases List.mem_cons.1 h with rfl | h
      · simp
      · exact cut_noslash h
    · rename_i hc
      split at h
      · rename_i h0; exact absurd h0 (cutS_ne l)
      · rename_i y t hy
        rcases List.mem_cons.1 h with rfl | h
        · have := cut_noslash (x := y) (l := l) (by rw [hy]; simp)
          simp only [List.mem_cons, not_or]
          exact ⟨fun e => hc e.symm, this⟩
        · exact cut_noslash (x := x) (l := l) (by rw [hy]; simp [h])
/-- The document's names. -/
def nameR (l : Bs) : Bool := decide (1 ≤ l.length) && decide (l.length ≤ 40) && !(l == [46]) && !(l == [46, 46]) && l.all fun c => okCh c && !(c == 47)
theorem nameR_eq {l : Bs} (h : 47 ∉ l) : nameR l = nameS l := by
  have : (l.all fun c => okCh c && !(c == 47)) = l.all okCh := by
    rw [Bool.eq_iff_iff, List.all_eq_true, List.all_eq_true]
    constructor
    · intro ha c hc
      have := ha c hc
      simp only [Bool.and_eq_true] at this
      exact this.1
    · intro ha c hc
      have h1 : (c == 47) = false := beq_eq_false_iff_ne.2 fun e => h (e ▸ hc)
      rw [ha c hc, h1]
      rfl
  unfold nameR nameS
  rw [this]
  cases l.all okCh <;> simp [Bool.and_assoc]
theorem Sep.one {w w' : World} {v : Value} {xs : List Value} {size : Nat} {rows : List (Value × Bs)} (h : Sep w w' [ThRow size v xs] rows) : ∃ D, OwnRow w' size v xs D ∧ Upd w w' [] D := by
  obtain ⟨D, hl, hu, -⟩ := h
  cases hl with
  | @cons _ D _ E h1 h2 h3 =>
    cases h3 with
    | nil => exact ⟨D, h1, by simpa using hu⟩
end Go.Av
namespace Go.Proofs.YtfncdgnhiinmjaaDoor
open Go.RowKit Go.Av
theorem infoS : (Tryd.prog.info? 9).map (fun i => (i.zero, i.size, i.bytes)) = some (some (.string ByteArray.empty), 1, 16) := by kernel_rfl

set_option maxRecDepth 100000 in
set_option maxHeartbeats 2000000 in
theorem cut1_any (s : ByteArray) (b : UInt8) (w : World) (hs : s.size ≤ 1000000) :
    Calls Tryd.prog 48 #[.string s, .int .u8 b.toNat] w (PartsPost w (cutG b s.data.toList)) := by
  obtain ⟨i0, hi0, hz0, hz1, hz2⟩ := info_parts infoS
  have h0 := (Sep.start w).addRow (OwnRow.made w 9 1 1 1 #[.string ⟨#[]⟩] [sv []] rfl (Nat.le_refl _) (by decide) (Nat.le_refl _) rfl) (Upd.alloc1 w _ [])
  have H0 := Lib.hid h0
  have hbt : b.toNat < 256 := UInt8.toNat_lt b
  clear h0
  go_enter Tryd.func48, Tryd.ntmps48
  go_wp2_with fail
  go_loopg [5, 6] s.size (fun k vl vi wr => ∃ p : Nat, p ≤ s.size ∧ k = s.size - p ∧ vi = .int .i64 (p : Int) ∧ Sep w wr [ThRow 1 vl ((cutG b (s.data.toList.take p)).map sv)] [])
  case atStart => exact ⟨0, Nat.zero_le _, rfl, rfl, H0.out⟩
  case round =>
    obtain ⟨p, hp, hk, hvi, hS⟩ := hrel
    subst hvi
    clear H0
    by_cases hlt : p < s.size
    case neg =>
      obtain rfl : p = s.size := by omega
      rw [List.take_of_length_le (by simp)] at hS
      have HO := Lib.hid hS.one
      clear hS
      go_wp2_with fail
      go_ret
      obtain ⟨D, h1, h2⟩ := HO.out
      exact ⟨_, D, rfl, h1, h2⟩
    have hts : s.data.toList.take (p + 1) = s.data.toList.take p ++ [s[p]] := by
      rw [List.take_succ_eq_append_getElem (by simpa using hlt)]; rfl
    have hsn := cutG_snoc b (s.data.toList.take p) s[p]
    rw [← hts] at hsn
    have hne := cutG_ne b (s.data.toList.take p)
    have hcl : (cutG b (s.data.toList.take p)).length ≤ p + 1 := by
      have : ∀ (l : Bs), (cutG b l).length ≤ l.length + 1 := fun l => by
        unfold cutG
        have : ∀ (l : Bs) (acc : List Bs), acc ≠ [] → (l.foldl (cutStep b) acc).length ≤ l.length + acc.length := by
          intro l
          induction l with
          | nil => intro acc _; simp
          | cons c l ih =>
            intro acc h
            rw [List.foldl_cons]
            have h1 : (cutStep b acc c).length ≤ acc.length + 1 := by
              unfold cutStep
              split
              · simp
              · simp only [List.length_append, List.length_dropLast, List.length_singleton]; omega
            have := ih (cutStep b acc c) (by unfold cutStep; split <;> simp)
            rw [List.length_cons]
            omega
        have := this l [[]] (by simp)
        simpa using this
      have := this (s.data.toList.take p)
      rw [List.length_take] at this
      omega
    obtain ⟨acc, hacc⟩ : ∃ acc, cutG b (s.data.toList.take p) = acc := ⟨_, rfl⟩
    rw [hacc] at hsn hne hcl hS
    obtain ⟨al, nl, cl, rfl, hll, hnl, hml⟩ := hS.rowLen
    rw [List.length_map, Nat.mul_one] at hll
    subst hll
    unfold maxLen at hml
    by_cases hc : s[p] = b
    · have hcb : ((s[p].toNat : Int) == (b.toNat : Int)) = true := by rw [hc]; simp
      unfold cutStep at hsn
      rw [if_pos hc] at hsn
      obtain ⟨D, hown, -, back⟩ := hS.use
      have ha1 := Upd.alloc0 wr (.cells #[.string ⟨#[]⟩] 9 (0, 0)) []
      have hownA : OwnRow _ 1 _ _ D := OwnRow.frame hown (ha1.same (OwnRow.lt hown) (by simp))
      obtain ⟨nb, hnb, hsrc⟩ := (cell_new wr (.string ⟨#[]⟩) 9 (0, 0)).src (P := Tryd.prog) (tx := 65) Tryd.underlying65 (by intro u hu; rw [List.mem_singleton.1 hu]; rfl)
      obtain rfl : 1 = nb := by simpa using hnb
      have HBD := Lib.hid (show ∀ n', (acc.map sv).length = n' * 1 → n' + 1 ≤ 140737488355328 ∧ (n' + 1) * i0.bytes ≤ 140737488355328 from fun n' hn' => by
        rw [List.length_map] at hn'
        rw [hz2]; omega)
      have HBK := Lib.hid back
      have HSN := Lib.hid hsn
      clear hown back hS hnb hsn hts hne hacc hc
      go_wp2_with (at_builtin; go_must (refine wpList_app rfl _ _ 65 65 rfl 1 _ _ _ rfl hownA _ i0 _ Tryd.underlying65 hi0 hz0 hz1 rfl _ _ _ rfl hsrc HBD.out ?_); intro a7 n7 c7 w7 D7 hown7 hu7)
      have HN := Lib.hid (HBK.out w7 D7 (ThRow 1 (.slice a7 n7 c7) ((acc ++ [[]]).map sv)) ((ha1.mono (by simp) (fun b hb => .inr hb) : Upd wr _ D D).trans hu7) (by rw [List.map_append]; exact hown7))
      clear hown7 hu7 hsrc hownA
      go_roundg (s.size - (p + 1))
      case rel => exact ⟨p + 1, by omega, rfl, by go_num, by rw [HSN.out]; exact HN.out⟩
      case measure => omega
    · have hcb : ((s[p].toNat : Int) == (b.toNat : Int)) = false := beq_eq_false_iff_ne.2 fun e => hc (UInt8.toNat_inj.1 (by omega))
      unfold cutStep at hsn
      rw [if_neg hc] at hsn
      obtain ⟨k, hkl⟩ : ∃ k, acc.length = k + 1 := ⟨acc.length - 1, by have := List.length_pos_iff.2 hne; omega⟩
      have hlast : acc[k]? = some (acc.getLastD []) := by
        rw [List.getLastD_eq_getLast?, List.getLast?_eq_getElem?, hkl, Nat.add_sub_cancel, List.getElem?_eq_getElem (by omega)]
        rfl
      have hdl : acc.dropLast ++ [acc.getLastD [] ++ [s[p]]] = acc.set k (acc.getLastD [] ++ [s[p]]) := by
        apply List.ext_getElem?
        intro j
        rw [List.getElem?_set]
        by_cases hj : k = j
        · subst hj
          rw [if_pos rfl, List.getElem?_append_right (by rw [List.length_dropLast]; omega), List.length_dropLast, hkl]
          simp
        · rw [if_neg hj]
          by_cases hjk : j < k
          · rw [List.getElem?_append_left (by rw [List.length_dropLast]; omega), List.getElem?_dropLast]
            simp; omega
          · rw [List.getElem?_append_right (by rw [List.length_dropLast]; omega), List.length_dropLast, hkl, List.getElem?_eq_none (l := acc) (by omega)]
            simp; omega
      rw [hdl] at hsn
      obtain ⟨xl, hxl⟩ : ∃ xl, acc.getLastD [] = xl := ⟨_, rfl⟩
      rw [hxl] at hsn hlast
      have hxm : xl ∈ cutG b (s.data.toList.take p) := by rw [hacc]; exact List.mem_of_getElem? hlast
      have hxs := cutG_mem hxm
      rw [List.length_take] at hxs
      rw [hkl] at hS
      obtain ⟨y, rfl, hys, hcy⟩ := hS.rowCell (i := k) (x := sv xl) (by rw [List.getElem?_map, hlast]; rfl)
      obtain ⟨fy, -, -, hset⟩ := hS.drew.rowSet (i := k) (by omega) (sv (xl ++ [s[p]]))
      have hext : (⟨xl.toArray⟩ : ByteArray) ++ s.extract p (p + 1) = ⟨(xl ++ [s[p]]).toArray⟩ := by
        apply WideShapes.bytes_inj
        rw [ByteArray.data_append, Array.toList_append, Lib.extract_data]
        have : (s.data.toList.drop p).take (p + 1 - p) = [s[p]] := by
          rw [show p + 1 - p = 1 by omega, List.drop_eq_getElem_cons (by simpa using hlt)]; rfl
        rw [this]
      have HSN := Lib.hid (show _ ∧ _ ∧ _ from ⟨hsn, hset, hext⟩)
      clear hsn hts hne hacc hc hdl hxl hset hS hlast hext hxm
      rw [hkl]
      unfold sv at hcy
      obtain ⟨xs, hxs1⟩ : ∃ xs : ByteArray, xs = ⟨xl.toArray⟩ := ⟨_, rfl⟩
      have hxs2 : xs.size ≤ 1000000 := by rw [hxs1]; show xl.toArray.size ≤ _; simp; omega
      obtain ⟨es, hes⟩ : ∃ es, es = s.extract p (p + 1) := ⟨_, rfl⟩
      have hes2 : es.size ≤ 1 := by rw [hes]; simp; omega
      rw [← hxs1] at hcy
      rw [← hxs1, ← hes] at HSN
      have hk0 : IntKind.i64.wrap (k : Int) = (k : Int) := IntWalk.i64_in _ (by omega)
      have hp1 : IntKind.i64.wrap ((p : Int) + 1) = ((p + 1 : Nat) : Int) := by rw [IntWalk.i64_in _ (by omega)]; omega
      have hk2 : (k : Int) < (k : Int) + 1 := by omega
      have hp0 : 0 ≤ (p : Int) + 1 := by omega
      have hp2 : (p : Int) + 1 ≤ s.size := by omega
      have hp3 : (p : Int) ≤ (p : Int) + 1 := by omega
      go_wp2_with fail
      refine wp_region_M (fun W => W.cell? (y.add k) = some (.string xs)) 15 (by kernel_rfl) ?_
      refine wpAnyM_take (by kernel_rfl) (by intro c a d v w h; cases d <;> exact h) [(0, false), (1, false), (2, false), (3, false), (4, false), (5, false), (6, false), (7, false), (8, false), (9, true), (10, false), (11, false), (12, false), (13, false), (14, false)] (fuel := 3) (by kernel_rfl) ?_
      apply Exists.intro; refine ⟨?_, hcy, ?_⟩
      · iterate 15 ((first | (apply yieldN; (· (simp only [List.getElem?_toArray, List.getElem?_cons_succ, List.getElem?_cons_zero]; try rfl)); (· rfl)) | ((first | apply yieldP | apply yieldL); (· (simp only [List.getElem?_toArray, List.getElem?_cons_succ, List.getElem?_cons_zero]; try rfl)); (· rfl); (· (intros; go_simp; try with_reducible rfl)))); (· (simp only [Act.put, List.setIfInBounds_toArray, List.set_cons_zero, List.set_cons_succ]; try rfl)))
        exact rfl
      rw [← hes]
      refine wpAnyM_of_any _ _ _ _ (by decide) ?_
      refine wpAny_list [15, 16, 17] (fuel := 0) (by kernel_rfl) ?_
      simp only [List.filterMap_cons, List.filterMap_nil, List.getElem?_toArray, List.getElem?_cons_succ, List.getElem?_cons_zero]
      go_wp2_with fail
      go_roundg (s.size - (p + 1))
      case rel => 
        refine ⟨p + 1, by omega, rfl, by go_num, ?_⟩
        rw [HSN.out.1, ← hxs1, ← hes, HSN.out.2.2]
        have := HSN.out.2.1
        rw [← List.map_set] at this
        exact this
      case measure => omega
end Go.Proofs.YtfncdgnhiinmjaaDoor

/-
  The walks of the document's own paths: IsName, Parts, Good, Top.
-/
namespace Go.Proofs.YtfncdgnhiinmjaaDoor
open Go.RowKit Go.Av

set_option maxRecDepth 100000 in
set_option maxHeartbeats 2000000 in
theorem isName_any (s : ByteArray) (w : World) (hs : s.size ≤ maxLen) :
    Calls Tryd.prog 43 #[.string s] w fun e w' => e = .returned (.bool (nameR s.data.toList)) ∧ w' = w := by
  unfold maxLen at hs
  have hsz : s.size = s.data.toList.length := by simp
  have hT : s.toList = s.data.toList := Go.Lib.toList_data s
  have hnm : nameR s.data.toList = (decide (1 ≤ s.size) && decide (s.size ≤ 40) && !(s.toList == [46]) && !(s.toList == [46, 46]) && s.data.toList.all fun c => okCh c && !(c == 47)) := by
    unfold nameR
    rw [hsz, hT]
  have HN := Lib.hid hnm
  clear hnm hsz hT
  by_cases h1 : (s.size : Int) < 1
  · go_enter Tryd.func43, Tryd.ntmps43
    go_wp2_with fail
    go_ret
    rw [HN.out, show decide (1 ≤ s.size) = false from decide_eq_false (by omega)]
    exact ⟨rfl, rfl⟩
  by_cases h2 : 40 < (s.size : Int)
  · go_enter Tryd.func43, Tryd.ntmps43
    go_wp2_with fail
    go_ret
    rw [HN.out, show decide (s.size ≤ 40) = false from decide_eq_false (by omega), Bool.and_false]
    exact ⟨rfl, rfl⟩
  have hd1 : decide (1 ≤ s.size) = true := decide_eq_true (by omega)
  have hd2 : decide (s.size ≤ 40) = true := decide_eq_true (by omega)
  have HD := Lib.hid (show _ ∧ _ from ⟨hd1, hd2⟩)
  clear hd1 hd2
  cases h3 : (s.toList == [46]) with
  | true =>
    have h3' : s.toList = [46] := by simpa using h3
    have H3 := Lib.hid h3
    go_enter Tryd.func43, Tryd.ntmps43
    go_wp2_with fail
    go_ret
    rw [HN.out, H3.out]
    exact ⟨by simp, rfl⟩
  | false =>
  cases h4 : (s.toList == [46, 46]) with
  | true =>
    have h3' : ¬ s.toList = [46] := by simpa using h3
    have h4' : s.toList = [46, 46] := by simpa using h4
    have H4 := Lib.hid h4
    go_enter Tryd.func43, Tryd.ntmps43
    go_wp2_with fail
    go_ret
    rw [HN.out, H4.out]
    exact ⟨by simp, rfl⟩
  | false =>
  have h3' : ¬ s.toList = [46] := by simpa using h3
  have h4' : ¬ s.toList = [46, 46] := by simpa using h4
  have hnm : nameR s.data.toList = s.data.toList.all fun c => okCh c && !(c == 47) := by
    rw [HN.out, HD.out.1, HD.out.2, h3, h4]
    simp
  have HN := Lib.hid hnm
  clear hnm
  go_enter Tryd.func43, Tryd.ntmps43
  go_wp2_with fail
  go_loop [3] (fun i => ∃ p : Nat, p ≤ s.size ∧ i = .int .i64 p ∧ ((s.data.toList.take p).all fun c => okCh c && !(c == 47)) = true) (fun i => s.size - (intOf i).toNat)
  case atStart => exact ⟨0, Nat.zero_le _, rfl, rfl⟩
  case round =>
    obtain ⟨p, hp, rfl, ha⟩ := hrel
    by_cases hlt : p < s.size
    · have hts : s.data.toList.take (p + 1) = s.data.toList.take p ++ [s[p]] := by
        rw [List.take_succ_eq_append_getElem (by simpa using hlt)]; rfl
      have hok : okCh s[p] = !(decide ((s[p].toNat : Int) < 33) || decide (126 < (s[p].toNat : Int))) := by
        unfold okCh
        congr 2
        · rw [decide_eq_decide, UInt8.lt_iff_toNat_lt, show (33 : UInt8).toNat = 33 from rfl]; omega
        · rw [decide_eq_decide, UInt8.lt_iff_toNat_lt, show (126 : UInt8).toNat = 126 from rfl]; omega
      have hmem : s[p] ∈ s.data.toList := by
        have : s.data.toList[p]'(by simpa using hlt) = s[p] := rfl
        rw [← this]; exact List.getElem_mem _
      have h47 : (s[p] == 47) = ((s[p].toNat : Int) == 47) := by
        rw [Bool.eq_iff_iff, beq_iff_eq, beq_iff_eq, ← UInt8.toNat_inj, show (47 : UInt8).toNat = 47 from rfl]; omega
      have hno : (okCh s[p] && !(s[p] == 47)) = false → nameR s.data.toList = false := fun h => by
        rw [HN.out]
        exact List.all_eq_false.2 ⟨_, hmem, by simp [h]⟩
      have HX := Lib.hid (show _ ∧ _ ∧ _ ∧ _ ∧ _ from ⟨hts, ha, hok, h47, hno⟩)
      clear hts ha hok hmem h47 hno
      by_cases h1 : (s[p].toNat : Int) < 33
      · go_wp2_with fail
        go_ret
        rw [HX.out.2.2.2.2 (by rw [HX.out.2.2.1]; simp [h1])]
        exact ⟨rfl, rfl⟩
      by_cases h2 : 126 < (s[p].toNat : Int)
      · go_wp2_with fail
        go_ret
        rw [HX.out.2.2.2.2 (by rw [HX.out.2.2.1]; simp [h2])]
        exact ⟨rfl, rfl⟩
      cases h5 : ((s[p].toNat : Int) == 47) with
      | true =>
        have H5 := Lib.hid h5
        go_wp2_with fail
        go_ret
        rw [HX.out.2.2.2.2 (by rw [HX.out.2.2.2.1, H5.out]; simp)]
        exact ⟨rfl, rfl⟩
      | false =>
      have H5 := Lib.hid h5
      go_wp2_with fail
      go_round
      case rel =>
        refine ⟨p + 1, by omega, by go_num, ?_⟩
        rw [HX.out.1, List.all_append, HX.out.2.1, List.all_cons, HX.out.2.2.1, HX.out.2.2.2.1, H5.out]
        simp [h1, h2]
      case measure => simp [intOf]; omega
    obtain rfl : p = s.size := by omega
    rw [List.take_of_length_le (by simp)] at ha
    have HA := Lib.hid ha
    clear ha
    go_wp2_with fail
    go_ret
    rw [HN.out, HA.out]
    exact ⟨rfl, rfl⟩

theorem partsP_of {s : ByteArray} {c : UInt8} {r : Bs} (h : s.data.toList = c :: r) : partsP s.data.toList = if c = 47 ∧ s.size ≤ 200 ∧ (cutS r).all nameS = true ∧ (cutS r).length ≤ 8 then cutS r else [] := by
  have hsz : s.size = r.length + 1 := by
    have : s.size = s.data.toList.length := by simp
    rw [this, h, List.length_cons]
  rw [h]
  unfold partsP
  have hg : goodP (c :: r) = true ↔ (c = 47 ∧ s.size ≤ 200 ∧ (cutS r).all nameS = true ∧ (cutS r).length ≤ 8) := by
    unfold goodP
    simp only [Bool.and_eq_true, decide_eq_true_eq, hsz, and_assoc]
  by_cases hc : c = 47 ∧ s.size ≤ 200 ∧ (cutS r).all nameS = true ∧ (cutS r).length ≤ 8
  · rw [if_pos hc, if_pos (hg.2 hc)]; rfl
  · rw [if_neg hc, if_neg (fun e => hc (hg.1 e))]

set_option maxRecDepth 100000 in
set_option maxHeartbeats 2000000 in
theorem parts1_any (s : ByteArray) (w : World) (hs : s.size ≤ maxLen) :
    Calls Tryd.prog 29 #[.string s] w (PartsPost w (partsP s.data.toList)) := by
  unfold maxLen at hs
  have hsz : s.size = s.data.toList.length := by simp
  have hnil : ∀ w' : World, w' = w → partsP s.data.toList = [] → PartsPost w (partsP s.data.toList) (.returned (.slice none 0 0)) w' := fun w' hw h => by
    rw [h, hw]; exact ⟨_, [], rfl, OwnRow.nil _ _, Upd.refl _ _⟩
  cases hl : s.data.toList with
  | nil =>
    have h2 : (s.size : Int) < 2 := by rw [hsz, hl]; decide
    have HN := Lib.hid (show partsP s.data.toList = [] by rw [hl]; rfl)
    rw [← hl]
    have HI := Lib.hid hnil
    clear hnil hsz hl
    go_enter Tryd.func29, Tryd.ntmps29
    go_wp2_with fail
    go_ret
    exact HI.out _ rfl HN.out
  | cons c r =>
  have hP := partsP_of hl
  rw [← hl]
  by_cases h2 : (s.size : Int) < 2
  · have hr : r = [] := by rw [hl, List.length_cons] at hsz; exact List.length_eq_zero_iff.1 (by omega)
    have HN := Lib.hid (show partsP s.data.toList = [] by rw [hP, if_neg]; rintro ⟨-, -, h, -⟩; rw [hr] at h; cases h)
    have HI := Lib.hid hnil
    clear hnil hsz hl hP hr
    go_enter Tryd.func29, Tryd.ntmps29
    go_wp2_with fail
    go_ret
    exact HI.out _ rfl HN.out
  by_cases h200 : 200 < (s.size : Int)
  · have HN := Lib.hid (show partsP s.data.toList = [] by rw [hP, if_neg]; rintro ⟨-, h, -, -⟩; omega)
    have HI := Lib.hid hnil
    clear hnil hsz hl hP
    go_enter Tryd.func29, Tryd.ntmps29
    go_wp2_with fail
    go_ret
    exact HI.out _ rfl HN.out
  have hp0 : 0 < s.size := by omega
  have h0 : s[0].toNat = c.toNat := by
    have : s.data.toList[0]'(by rw [← hsz]; omega) = s[0] := rfl
    rw [← this]
    simp [hl]
  by_cases hc : c = 47
  case neg =>
    have HN := Lib.hid (show partsP s.data.toList = [] by rw [hP, if_neg]; rintro ⟨h, -⟩; exact hc h)
    have HI := Lib.hid hnil
    have hb : ((s[0].toNat : Int) != 47) = true := by
      rw [h0, bne_iff_ne]; intro e; exact hc (UInt8.toNat_inj.1 (by rw [show (47 : UInt8).toNat = 47 from rfl]; omega))
    clear hnil hsz hl hP h0 hc
    go_enter Tryd.func29, Tryd.ntmps29
    go_wp2_with fail
    go_ret
    exact HI.out _ rfl HN.out
  subst hc
  have hb : ((s[0].toNat : Int) != 47) = false := by rw [h0]; rfl
  have hex : (s.extract 1 s.size).data.toList = r := by rw [Lib.extract_to_end, hl]; rfl
  have hct := cut1_any (s.extract 1 s.size) 47 w (by simp; omega)
  rw [hex, cutG_cut] at hct
  have hle : (cutS r).length ≤ 1000 := by
    rw [cutS_len]
    have := List.count_le_length (a := 47) (l := r)
    rw [hl, List.length_cons] at hsz
    omega
  have hlm : ∀ x ∈ cutS r, x.length ≤ 1000 ∧ 47 ∉ x := fun x hx => by
    have := cutS_mem hx
    rw [hl, List.length_cons] at hsz
    exact ⟨by omega, cut_noslash hx⟩
  have hsz2 : s.size ≤ 200 := by omega
  obtain ⟨ps, hps⟩ : ∃ ps, cutS r = ps := ⟨_, rfl⟩
  rw [hps] at hP hct hle hlm
  have HCT := Lib.hid hct
  have HP := Lib.hid hP
  have HL := Lib.hid hlm
  clear hnil hsz hl hP hct hlm hex hps h0
  go_enter Tryd.func29, Tryd.ntmps29
  go_wp2_with fail
  refine HCT.out.mono ?_
  rintro e w1 ⟨v, D, rfl, ho, hu⟩
  obtain ⟨a, n, cp, rfl, hl, hn, hcp, -⟩ := id ho
  rw [List.length_map, Nat.mul_one] at hl
  subst hl
  unfold maxLen at hcp
  have HO := Lib.hid (show _ ∧ _ from ⟨ho, hu⟩)
  clear ho hu
  by_cases h8 : 8 < (ps.length : Int)
  · go_wp2_with fail
    go_ret
    rw [HP.out, if_neg (by rintro ⟨-, -, -, h⟩; omega)]
    exact ⟨_, [], rfl, OwnRow.nil _ _, HO.out.2.mono (fun _ h => h) (fun b hb => by cases hb)⟩
  go_wp2_with fail
  go_loopg [4] ps.length (fun k i wr => wr = w1 ∧ ∃ p : Nat, p ≤ ps.length ∧ k = ps.length - p ∧ i = .int .i64 p ∧ (ps.take p).all nameS = true)
  case atStart => exact ⟨rfl, 0, Nat.zero_le _, rfl, rfl, rfl⟩
  case round =>
    obtain ⟨hW, p, hp, hk, hv, ha⟩ := hrel
    subst wr hv
    by_cases hlt : p < ps.length
    · obtain ⟨y, rfl, hys, hcy⟩ := ownCell HO.out.1 (i := p) (x := sv ps[p]) (by rw [List.getElem?_map, List.getElem?_eq_getElem hlt]; rfl)
      obtain ⟨hx, hns⟩ := HL.out _ (List.getElem_mem hlt)
      have hts : ps.take (p + 1) = ps.take p ++ [ps[p]] := by rw [List.take_succ_eq_append_getElem hlt]
      have hmm : ps[p] ∈ ps := List.getElem_mem hlt
      obtain ⟨x, hxx⟩ : ∃ x, ps[p] = x := ⟨_, rfl⟩
      rw [hxx] at hcy hx hts hmm hns
      have hn := isName_any ⟨x.toArray⟩ w1 (by show x.toArray.size ≤ _; unfold maxLen; simp; omega)
      rw [show (⟨x.toArray⟩ : ByteArray).data.toList = x from rfl, nameR_eq hns] at hn
      unfold sv at hcy
      have HX := Lib.hid (show _ ∧ _ ∧ _ from ⟨hts, ha, hmm⟩)
      cases hnx : nameS x with
      | false =>
        rw [hnx] at hn
        have HN := Lib.hid hn
        have HB := Lib.hid hnx
        clear hn hx hxx hts ha hmm hnx hns
        go_wp2_with fail
        refine HN.out.mono ?_
        rintro e w2 ⟨rfl, hW⟩
        subst w2
        go_wp2_with fail
        go_ret
        rw [HP.out, if_neg (by rintro ⟨-, -, h, -⟩; have := List.all_eq_true.1 h x HX.out.2.2; rw [HB.out] at this; cases this)]
        exact ⟨_, [], rfl, OwnRow.nil _ _, HO.out.2.mono (fun _ h => h) (fun b hb => by cases hb)⟩
      | true =>
        rw [hnx] at hn
        have HN := Lib.hid hn
        have HB := Lib.hid hnx
        clear hn hx hxx hts ha hmm hnx hns
        go_wp2_with fail
        refine HN.out.mono ?_
        rintro e w2 ⟨rfl, hW⟩
        subst w2
        go_wp2_with fail
        go_roundg (ps.length - (p + 1))
        case rel =>
          refine ⟨rfl, p + 1, by omega, rfl, by go_num, ?_⟩
          rw [HX.out.1, List.all_append, HX.out.2.1]
          simp [HB.out]
        case measure => omega
    · obtain rfl : p = ps.length := by omega
      rw [List.take_length] at ha
      have HA := Lib.hid ha
      clear ha
      go_wp2_with fail
      go_ret
      rw [HP.out, if_pos ⟨by first | rfl | trivial, hsz2, HA.out, by omega⟩]
      exact ⟨_, D, rfl, HO.out.1, HO.out.2⟩

theorem good_parts (p : Bs) : goodP p = decide (0 < (partsP p).length) := by
  unfold partsP
  cases goodP p with
  | false => rfl
  | true =>
    rw [if_pos rfl, cutS_len]
    simp
theorem good1_any (s : ByteArray) (w : World) (hs : s.size ≤ maxLen) :
    Calls Tryd.prog 15 #[.string s] w fun e w' => e = .returned (.bool (goodP s.data.toList)) ∧ Upd w w' [] [] := by
  have hg := parts1_any s w hs
  rw [good_parts]
  obtain ⟨ps, hps⟩ : ∃ ps, partsP s.data.toList = ps := ⟨_, rfl⟩
  rw [hps] at hg ⊢
  have HG := Lib.hid hg
  clear hg hps hs
  go_enter Tryd.func15, Tryd.ntmps15
  go_wp2_with fail
  refine HG.out.mono ?_
  rintro e w1 ⟨v, D, rfl, ho, hu⟩
  obtain ⟨a, n, c, rfl, hl, hn, hc, -⟩ := id ho
  rw [List.length_map, Nat.mul_one] at hl
  subst hl
  unfold maxLen at hc
  have HU := Lib.hid (hu.mono (fun _ h => h) (fun b hb => by cases hb) : Upd w w1 [] [])
  clear ho hu
  go_wp2_with fail
  go_ret
  exact ⟨rfl, HU.out⟩
set_option maxHeartbeats 1000000 in
theorem top1_any (s : ByteArray) (w : World) (hs : s.size ≤ maxLen) :
    Calls Tryd.prog 16 #[.string s] w fun e w' => e = .returned (sv (topP s.data.toList)) ∧ Upd w w' [] [] := by
  have hg := parts1_any s w hs
  unfold topP
  obtain ⟨ps, hps⟩ : ∃ ps, partsP s.data.toList = ps := ⟨_, rfl⟩
  rw [hps] at hg ⊢
  have HG := Lib.hid hg
  clear hg hps hs
  go_enter Tryd.func16, Tryd.ntmps16
  go_wp2_with fail
  refine HG.out.mono ?_
  rintro e w1 ⟨v, D, rfl, ho, hu⟩
  obtain ⟨a, n, c, rfl, hl, hn, hc, -⟩ := id ho
  rw [List.length_map, Nat.mul_one] at hl
  subst hl
  unfold maxLen at hc
  have HU := Lib.hid (hu.mono (fun _ h => h) (fun b hb => by cases hb) : Upd w w1 [] [])
  cases ps with
  | nil =>
    clear ho hu
    go_wp2_with fail
    go_ret
    exact ⟨rfl, HU.out⟩
  | cons x ps =>
    obtain ⟨y, rfl, hys, hcy⟩ := ownCell ho (i := 0) (x := sv x) rfl
    have hl0 : (((x :: ps).length : Int) == 0) = false := by simp; omega
    have HY := Lib.hid hcy
    obtain ⟨yb, yo, ysp⟩ := y
    dsimp only at hys
    subst hys
    have hc0 : w1.cell? ⟨yb, yo, none⟩ = some (sv x) := by have := HY.out; rw [Addr.add_lit] at this; exact this
    clear ho hu hcy
    go_wp2_with fail
    go_ret
    exact ⟨rfl, HU.out⟩
end Go.Proofs.YtfncdgnhiinmjaaDoor

/-
  The document's own table, in plain words: names that rise.
-/
namespace Go.Proofs.YtfncdgnhiinmjaaDoor
open Go.RowKit Go.Av Go.Maps Go.Sort

/-- A name is set among names that rise. -/
def insM (k : Bs) (v : Int) : List (Bs × Int) → List (Bs × Int)
  | [] => [(k, v)]
  | e :: l => if e.1 < k then e :: insM k v l else if e.1 = k then (k, v) :: l else (k, v) :: e :: l
def RiseM (l : List (Bs × Int)) : Prop := l.Pairwise fun a b => a.1 < b.1
def badR (T : RtS) (top : Bs) (sh : Int) : Bool := !nameR top || decide (sh < 0) || decide (T.n ≤ sh)
/-- The document's Move. -/
def moveR (T : RtS) (top : Bs) (sh : Int) : Int × RtS :=
  if badR T top sh then (1, T) else if lookM top T.mv = none ∧ 50 ≤ T.mv.length then (2, T) else (0, { T with ver := T.ver + 1, mv := insM top sh T.mv })

theorem lt_ne {a b : Bs} (h : a < b) : a ≠ b := fun e => by subst e; exact List.lt_irrefl _ h
theorem ins_mem {k : Bs} {v : Int} : ∀ {l : List (Bs × Int)} {e : Bs × Int}, e ∈ insM k v l → e = (k, v) ∨ (e ∈ l)
  | [], e, h => by simp [insM] at h; exact .inl h
  | x :: l, e, h => by
    unfold insM at h
    split at h
    · rcases List.mem_cons.1 h with rfl | h
      · exact .inr (by simp)
      · rcases ins_mem h with h | h
        · exact .inl h
        · exact .inr (by simp [h])
    · split at h
      · rcases List.mem_cons.1 h with rfl | h
        · exact .inl rfl
        · exact .inr (by simp [h])
      · rcases List.mem_cons.1 h with rfl | h
        · exact .inl rfl
        · exact .inr h
theorem ins_rise {k : Bs} {v : Int} : ∀ {l : List (Bs × Int)}, RiseM l → RiseM (insM k v l)
  | [], _ => by simp [insM, RiseM]
  | x :: l, h => by
    obtain ⟨h1, h2⟩ := List.pairwise_cons.1 h
    unfold insM
    split
    · rename_i hx
      refine List.pairwise_cons.2 ⟨fun e he => ?_, ins_rise h2⟩
      rcases ins_mem he with rfl | he
      · exact hx
      · exact h1 e he
    · split
      · rename_i hx
        exact List.pairwise_cons.2 ⟨fun e he => by rw [← hx]; exact h1 e he, h2⟩
      · rename_i hx1 hx2
        have hkx : k < x.1 := by
          rcases List.le_total x.1 k with hle | hle
          · by_cases hlt : x.1 < k
            · exact absurd hlt hx1
            · exact absurd (List.le_antisymm hle hlt) hx2
          · by_cases hlt : k < x.1
            · exact hlt
            · exact absurd (List.le_antisymm hlt hle) hx2
        refine List.pairwise_cons.2 ⟨fun e he => ?_, h⟩
        rcases List.mem_cons.1 he with rfl | he
        · exact hkx
        · exact List.lt_trans hkx (h1 e he)
theorem ins_look {k : Bs} {v : Int} (k' : Bs) : ∀ {l : List (Bs × Int)}, RiseM l → lookM k' (insM k v l) = if k' = k then some v else lookM k' l
  | [], _ => by
    unfold insM
    rw [look_cons]
    by_cases h : k' = k
    · rw [if_pos h, if_pos h.symm]
    · rw [if_neg h, if_neg (fun e => h e.symm)]
  | x :: l, h => by
    obtain ⟨h1, h2⟩ := List.pairwise_cons.1 h
    unfold insM
    split
    · rename_i hx
      rw [look_cons, look_cons, ins_look k' h2]
      by_cases hxk : x.1 = k'
      · rw [if_pos hxk, if_pos hxk, if_neg (fun e => lt_ne hx (hxk.trans e))]
      · rw [if_neg hxk, if_neg hxk]
    · split
      · rename_i hx
        rw [look_cons, look_cons]
        by_cases hk : k' = k
        · rw [if_pos hk, if_pos hk.symm]
        · rw [if_neg hk, if_neg (fun e => hk e.symm), if_neg (fun e => hk (e.symm.trans hx))]
      · rw [look_cons]
        by_cases hk : k' = k
        · rw [if_pos hk, if_pos hk.symm]
        · rw [if_neg hk, if_neg (fun e => hk e.symm)]
/-- Lists that rise and say the same are the same. -/
theorem rise_ext : ∀ {l1 l2 : List (Bs × Int)}, RiseM l1 → RiseM l2 → (∀ k, lookM k l1 = lookM k l2) → l1 = l2
  | [], [], _, _, _ => rfl
  | [], e :: l, _, _, h => by have := h e.1; rw [look_cons, if_pos rfl] at this; cases this
  | e :: l, [], _, _, h => by have := h e.1; rw [look_cons, if_pos rfl] at this; cases this
  | e1 :: l1, e2 :: l2, h1, h2, h => by
    obtain ⟨a1, b1⟩ := List.pairwise_cons.1 h1
    obtain ⟨a2, b2⟩ := List.pairwise_cons.1 h2
    have n1 : ∀ {l : List (Bs × Int)} {k : Bs}, (∀ e ∈ l, k < e.1) → lookM k l = none := fun {l k} ha => by
      cases hl : lookM k l with
      | none => rfl
      | some v =>
        obtain ⟨p, q, he, -⟩ := lookM_some hl
        exact absurd (ha (k, v) (by rw [he]; simp)) (List.lt_irrefl _)
    have hk : e1.1 = e2.1 := by
      have e12 := h e1.1
      have e21 := h e2.1
      rw [look_cons, if_pos rfl, look_cons] at e12
      rw [look_cons, look_cons, if_pos rfl] at e21
      by_cases hk : e1.1 = e2.1
      · exact hk
      · rw [if_neg (fun e => hk e.symm)] at e12
        rw [if_neg hk] at e21
        obtain ⟨p, q, he, -⟩ := lookM_some e12.symm
        obtain ⟨p', q', he', -⟩ := lookM_some e21
        have x1 := a2 (e1.1, e1.2) (by rw [he]; simp)
        have x2 := a1 (e2.1, e2.2) (by rw [he']; simp)
        exact absurd (List.lt_trans x1 x2) (List.lt_irrefl _)
    have hv : e1.2 = e2.2 := by
      have := h e1.1
      rw [look_cons, if_pos rfl, look_cons, if_pos hk.symm] at this
      exact Option.some.inj this
    have he : e1 = e2 := Prod.ext hk hv
    subst he
    congr 1
    refine rise_ext b1 b2 fun k => ?_
    by_cases hk2 : e1.1 = k
    · subst hk2
      rw [n1 a1, n1 a2]
    · have := h k
      rw [look_cons, look_cons, if_neg hk2, if_neg hk2] at this
      exact this
theorem sort_rise {S : RtS} (h : RtInv S) : RiseM (sortM S) := by
  have h1 : ((sortM S).map (·.1)).Pairwise (fun a b => ¬ b ≤ a) := by rw [sort_keys]; exact keysM_sorted h
  rw [List.pairwise_map] at h1
  exact h1.imp fun {a b} hab => by
    rcases List.le_total a.1 b.1 with hle | hle
    · by_cases hlt : a.1 < b.1
      · exact hlt
      · exact absurd (List.le_antisymm hle hlt) (fun e => hab (by rw [e]; exact List.le_refl _))
    · exact absurd hle hab
theorem bad_eq (S T : RtS) (hn : S.n = T.n) (top : Bs) (sh : Int) : badM S top sh = badR T top sh := by
  have hnm : (!(topP (47 :: top) == top) || (top == [])) = !nameR top := by
    cases hr : nameR top with
    | true =>
      have h47 : 47 ∉ top := fun hm => by
        unfold nameR at hr
        simp only [Bool.and_eq_true] at hr
        have := List.all_eq_true.1 hr.2 47 hm
        simp at this
      have hnS : nameS top = true := by rw [← nameR_eq h47]; exact hr
      rw [top_one hnS h47]
      have : top ≠ [] := fun e => by subst e; simp [nameR] at hr
      simp [this]
    | false =>
      by_cases h0 : top = []
      · simp [h0]
      · by_cases h1 : topP (47 :: top) = top
        · obtain ⟨-, q, -, -, h4, h5⟩ := top_path (p := 47 :: top) (by rw [h1]; exact h0)
          rw [h1] at h4 h5
          rw [nameR_eq h4, h5] at hr
          cases hr
        · simp [h1]
  unfold badM badR
  rw [hnm, hn]
/-- The document's table goes with the program's. -/
theorem move_ref {S : RtS} (h : RtInv S) (top : Bs) (sh : Int) : moveR (sortT S) top sh = ((moveS S top sh).1, sortT (moveS S top sh).2) := by
  have ha := sort_alike h
  have hb : badM S top sh = badR (sortT S) top sh := bad_eq S (sortT S) rfl top sh
  have hI := inv_move h top sh
  unfold moveR
  rw [← hb, ← ha.look top, show (sortT S).mv.length = S.mv.length from sort_lenM]
  unfold moveS at hI ⊢
  split
  · rfl
  · rename_i h1
    rw [if_neg h1] at hI
    split
    · rfl
    · rename_i h2
      rw [if_neg h2] at hI
      have e : insM top sh (sortM S) = sortM { S with ver := S.ver + 1, mv := setM top sh S.mv } := by
        refine rise_ext (ins_rise (sort_rise h)) (sort_rise hI) fun k => ?_
        have h3 := (sort_alike hI).look k
        have h4 : lookM k (sortM { S with ver := S.ver + 1, mv := setM top sh S.mv }) = lookM k (setM top sh S.mv) := h3.symm
        rw [ins_look k (sort_rise h), h4, look_set]
        have h5 : lookM k (sortM S) = lookM k S.mv := (ha.look k).symm
        rw [h5]
      show (0, ({ (sortT S) with ver := S.ver + 1, mv := insM top sh (sortM S) } : RtS)) = _
      rw [e]
      rfl
end Go.Proofs.YtfncdgnhiinmjaaDoor

/-
  The document's own table in memory; the walks of NewTable, Of.
-/
namespace Go.Av
open Go.RowKit
theorem ownCellG {w : World} {size : Nat} {a : Option Addr} {n c : Nat} {xs : List Value} {D : List Nat} (h : OwnRow w size (.slice a n c) xs D) {i : Nat} {x : Value} (hx : xs[i]? = some x) :
    ∃ y : Addr, a = some y ∧ y.spot = none ∧ w.cell? (y.add i) = some x := by
  obtain ⟨a', n', c', hv, hl, hn, hc, ha, hr⟩ := h
  cases hv
  rcases hr with ⟨hc0, _⟩ | ⟨g, off, cur, T, h1, h2, h3, h4, h5⟩
  · have : i < xs.length := (List.getElem?_eq_some_iff.1 hx).1
    rw [hl] at this
    have : n = 0 := by omega
    subst this
    omega
  · refine ⟨⟨g, off, none⟩, h1, rfl, ?_⟩
    rw [Addr.add_lit, cell_of_row w g (off + i) cur T _ h3]
    rw [← h5, List.getElem?_take] at hx
    split at hx
    · rw [List.getElem?_drop] at hx; simpa using hx
    · cases hx
theorem Sep.rowSetG {w0 w : World} {R : List Thing} {rows : List (Value × Bs)} {size : Nat} {y : Addr} {n c : Nat} {xs : List Value} (h : Sep w0 w (ThRow size (.slice (some y) n c) xs :: R) rows) {i : Nat} (hi : i < n * size) (v : Value) :
    w.frozen? (y.add i) = false ∧ y.spot = none ∧ (∃ u, w.cell? (y.add i) = some u) ∧ Sep w0 (w.setCell (y.add i) v) (ThRow size (.slice (some y) n c) (xs.set i v) :: R) rows := by
  obtain ⟨D, hP, _, back⟩ := h.use
  obtain ⟨a', n', c', hv, hl, hn, hc, ha, hr⟩ := hP
  cases hv
  have hnc : n * size ≤ c * size := Nat.mul_le_mul_right _ hn
  rcases hr with ⟨hc0, _⟩ | ⟨g, off, cur, T, h1, h2, h3, h4, h5⟩
  · subst hc0
    obtain rfl : n = 0 := by omega
    omega
  · cases h1
    subst h2
    rw [Addr.add_lit]
    have hsz : off + i < cur.size := by omega
    refine ⟨frz_of h3 _, rfl, ⟨cur[off + i], by rw [cell_of_row w g (off + i) cur T _ h3]; exact Array.getElem?_eq_getElem hsz⟩, ?_⟩
    refine back _ [g] (ThRow size (.slice (some ⟨g, off, none⟩) n c) (xs.set i v)) (Upd.set1 _ _ _ _ (by simp)) ⟨_, n, c, rfl, by simpa using hl, hn, hc, ha, .inr ⟨g, off, _, T, rfl, rfl, heap_setCell_same w g (off + i) cur T v h3, by simpa using h4, ?_⟩⟩
    rw [← h5, Array.toList_setIfInBounds]
    apply List.ext_getElem?
    intro k
    simp only [List.getElem?_take, List.getElem?_drop, List.getElem?_set, List.length_take, List.length_drop, Array.length_toList, Array.getElem?_toList]
    have hm : i < min (n * size) (cur.size - off) := by omega
    by_cases hki : i = k
    · subst hki
      simp [hi, hsz, hm]
    · have : ¬ off + i = off + k := by omega
      simp [hki]
end Go.Av
namespace Go.Proofs.YtfncdgnhiinmjaaDoor
open Go.RowKit Go.Av

def mcell (e : Bs × Int) : List Value := [sv e.1, .int .i64 e.2]
theorem mcell_at (l : List (Bs × Int)) {p : Nat} (hp : p < l.length) : (l.flatMap mcell)[p * 2]? = some (sv l[p].1) ∧ (l.flatMap mcell)[p * 2 + 1]? = some (.int .i64 l[p].2) := by
  induction l generalizing p with
  | nil => simp at hp
  | cons e l ih =>
    cases p with
    | zero => exact ⟨rfl, rfl⟩
    | succ p =>
      have := ih (p := p) (by simpa using hp)
      rw [List.flatMap_cons, show (p + 1) * 2 = p * 2 + 1 + 1 by omega]
      exact this
theorem mcell_len (l : List (Bs × Int)) : (l.flatMap mcell).length = l.length * 2 := by
  induction l with
  | nil => rfl
  | cons e l ih => rw [List.flatMap_cons, List.length_append, ih, List.length_cons]; simp [mcell]; omega
/-- The document's table, in memory. -/
def Rf (w0 w : World) (t : Nat) (T : RtS) (R : List Thing) (rows : List (Value × Bs)) : Prop :=
  ∃ v, Sep w0 w (ThCell t (.cells #[.int .i64 T.n, .int .i64 T.ver, v] 55 (0, 0)) :: ThRow 2 v (T.mv.flatMap mcell) :: R) rows
section
variable {w0 w : World} {t : Nat} {T : RtS} {R : List Thing} {rows : List (Value × Bs)}
theorem Rf.keep (h : Rf w0 w t T R rows) {w' : World} {D' : List Nat} (hu : Upd w w' [] D') : Rf w0 w' t T R rows := by obtain ⟨v, hS⟩ := h; exact ⟨v, hS.keep hu⟩
theorem Rf.below (h : Rf w0 w t T R rows) : Below w0.heap.size w0 w := by obtain ⟨v, hS⟩ := h; exact hS.below
theorem Rf.facts (h : Rf w0 w t T R rows) : ∃ a c, w.heap[t]? = some (.cells #[.int .i64 T.n, .int .i64 T.ver, .slice a T.mv.length c] 55 (0, 0)) ∧ T.mv.length ≤ c ∧ c ≤ maxLen ∧
    ∀ (p : Nat) (hp : p < T.mv.length), ∃ y : Addr, a = some y ∧ y.spot = none ∧ w.cell? (y.add (p * 2)) = some (sv T.mv[p].1) ∧ w.cell? ⟨(y.add (p * 2)).block, (y.add (p * 2)).off + 1, none⟩ = some (.int .i64 T.mv[p].2) := by
  obtain ⟨v, hS⟩ := h
  have hb := hS.blk
  obtain ⟨D, hD⟩ := hS.has (T := ThRow 2 v (T.mv.flatMap mcell)) (by simp)
  have hD : OwnRow w 2 v (T.mv.flatMap mcell) D := hD
  obtain ⟨a, n, c, rfl, hl, hn, hc, -⟩ := id hD
  rw [mcell_len] at hl
  obtain rfl : n = T.mv.length := by omega
  refine ⟨a, c, hb, hn, hc, fun p hp => ?_⟩
  obtain ⟨m1, m2⟩ := mcell_at T.mv hp
  obtain ⟨y, rfl, hys, h1⟩ := ownCellG hD m1
  obtain ⟨y', h2, -, h3⟩ := ownCellG hD m2
  cases h2
  rw [add_field h1 1] at h3
  exact ⟨y, rfl, hys, h1, h3⟩

set_option maxHeartbeats 400000 in
theorem rf_new (h : Sep w0 w R rows) (n : Int) : Calls Tryd.prog 23 #[.int .i64 n] w fun e w' => ∃ t, e = .returned (.pointer (some ⟨t, 0, none⟩)) ∧ Rf w0 w' t ⟨n, 1, []⟩ R rows := by
  have h1 := (h.nilRow 2).newCell (.cells #[.int .i64 n, .int .i64 1, .slice none 0 0] 55 (0, 0))
  have H := Lib.hid h1
  clear h h1
  go_enter Tryd.func23, Tryd.ntmps23
  go_wp2_with fail
  go_ret
  exact ⟨_, rfl, _, H.out⟩

theorem look_drop {top : Bs} : ∀ {l : List (Bs × Int)} {p : Nat}, p ≤ l.length → (∀ j (h : j < l.length), j < p → l[j].1 ≠ top) → lookM top l = lookM top (l.drop p)
  | [], p, _, _ => by simp
  | e :: l, 0, _, _ => rfl
  | e :: l, p + 1, hp, h => by
    have h0 : e.1 ≠ top := by have := h 0 (by simp) (by omega); simpa using this
    rw [look_cons, if_neg h0, List.drop_succ_cons]
    exact look_drop (by simpa using hp) (fun j hj hjp => by have := h (j + 1) (by simpa using hj) (by omega); simpa using this)

theorem of_nil {S : RtS} {p : Bs} (h : topP p = []) : ofS S p = -1 := by unfold ofS; rw [if_pos h]
theorem of_some {S : RtS} {p tp : Bs} {v : Int} (ht : topP p = tp) (h : tp ≠ []) (hl : lookM tp S.mv = some v) : ofS S p = v := by subst ht; unfold ofS; rw [if_neg h, hl]
theorem of_none {S : RtS} {p tp : Bs} (ht : topP p = tp) (h : tp ≠ []) (hl : lookM tp S.mv = none) : ofS S p = (sumB tp : Int) % S.n := by subst ht; unfold ofS; rw [if_neg h, hl]

set_option maxRecDepth 100000 in
set_option maxHeartbeats 2000000 in
theorem rf_of (h : Rf w0 w t T R rows) (s : ByteArray) (hs : s.size ≤ maxLen) (hn1 : 1 ≤ T.n) (hn2 : T.n ≤ 4) :
    Calls Tryd.prog 25 #[.pointer (some ⟨t, 0, none⟩), .string s] w fun e w' => e = .returned (.int .i64 (ofS T s.data.toList)) ∧ Rf w0 w' t T R rows := by
  have ht := top1_any s w hs
  have hlt : (topP s.data.toList).length ≤ 200 := by
    by_cases h0 : topP s.data.toList = []
    · rw [h0]; simp
    · obtain ⟨-, q, -, -, -, hnm⟩ := top_path h0
      unfold nameS at hnm
      simp only [Bool.and_eq_true, decide_eq_true_eq] at hnm
      omega
  obtain ⟨tp, htp⟩ : ∃ tp, topP s.data.toList = tp := ⟨_, rfl⟩
  obtain ⟨res, hres⟩ : ∃ res, ofS T s.data.toList = res := ⟨_, rfl⟩
  rw [htp] at ht hlt
  rw [hres]
  have HRES := Lib.hid (show _ ∧ _ from ⟨hres, htp⟩)
  clear hres
  have H := Lib.hid h
  have htl : (⟨tp.toArray⟩ : ByteArray).toList = tp := Lib.toList_data _
  have HT := Lib.hid ht
  clear ht h htp
  by_cases h0 : tp = []
  · subst h0
    have HRV := Lib.hid (show res = -1 by rw [← HRES.out.1]; exact of_nil HRES.out.2)
    clear htl
    go_enter Tryd.func25, Tryd.ntmps25
    go_wp2_with fail
    refine HT.out.mono ?_
    rintro e w1 ⟨rfl, hu⟩
    have H1 := Lib.hid (H.out.keep hu)
    clear hu
    unfold sv
    go_wp2_with fail
    go_ret
    rw [HRV.out]
    exact ⟨rfl, H1.out⟩
  have H0 := Lib.hid h0
  have hb0 : ((⟨tp.toArray⟩ : ByteArray).toList == []) = false := by rw [htl]; simpa using h0
  have hb1 : (⟨tp.toArray⟩ : ByteArray).toList.isEmpty = false := by rw [htl]; simpa using h0
  have hsz : (⟨tp.toArray⟩ : ByteArray).size = tp.length := by show tp.toArray.size = _; simp
  obtain ⟨ts, hts⟩ : ∃ ts : ByteArray, ts = ⟨tp.toArray⟩ := ⟨_, rfl⟩
  have hdt : ts.data.toList = tp := by rw [hts]
  unfold sv at HT
  rw [← hts] at HT hb0 hb1 htl hsz
  have HTS := Lib.hid (show _ ∧ _ from ⟨hts, hdt⟩)
  clear hts hdt htl h0
  obtain ⟨nn, hnn⟩ : ∃ nn, nn = T.n := ⟨_, rfl⟩
  have HNN := Lib.hid hnn
  have hn1' : 1 ≤ nn := by omega
  have hn2' : nn ≤ 4 := by omega
  clear hnn hn1 hn2
  go_enter Tryd.func25, Tryd.ntmps25
  go_wp2_with fail
  refine HT.out.mono ?_
  rintro e w1 ⟨rfl, hu⟩
  have H1 := Lib.hid (H.out.keep hu)
  obtain ⟨a, cp, hb, hcp, hcm, hrow⟩ := H1.out.facts
  unfold maxLen at hcm
  have c0 := cell_of hb 0 rfl
  have c2 := cell_of hb 2 rfl
  rw [show (#[Value.int .i64 T.n, .int .i64 T.ver, .slice a T.mv.length cp] : Array Value)[0] = .int .i64 nn by rw [HNN.out]; rfl] at c0
  rw [show (#[Value.int .i64 T.n, .int .i64 T.ver, .slice a T.mv.length cp] : Array Value)[2] = .slice a T.mv.length cp from rfl] at c2
  have HR := Lib.hid hrow
  clear hu hb hrow H HT
  go_wp2_with fail
  go_loopg [6] T.mv.length (fun k vi wr => wr = w1 ∧ ∃ p : Nat, p ≤ T.mv.length ∧ k = T.mv.length - p ∧ vi = .int .i64 (p : Int) ∧ ∀ j (h : j < T.mv.length), j < p → T.mv[j].1 ≠ tp)
  case atStart => exact ⟨rfl, 0, Nat.zero_le _, rfl, rfl, fun _ _ h => absurd h (Nat.not_lt_zero _)⟩
  case round =>
    obtain ⟨hW, p, hp, hk, hvi, hall⟩ := hrel
    subst wr hvi
    have HA := Lib.hid hall
    clear hall
    by_cases hltp : p < T.mv.length
    · obtain ⟨y, rfl, hys, e0, e1⟩ := HR.out p hltp
      obtain ⟨q, hq⟩ : ∃ q, T.mv[p] = q := ⟨_, rfl⟩
      rw [hq] at e0 e1
      obtain ⟨kq, vq⟩ := q
      dsimp only at e0 e1
      unfold sv at e0
      obtain ⟨kb, hkb⟩ : ∃ kb : ByteArray, kb = ⟨kq.toArray⟩ := ⟨_, rfl⟩
      rw [← hkb] at e0
      have heq : (kb.toList == ts.toList) = (kq == tp) := by rw [str_eq, hkb, HTS.out.2]
      cases hkt : (kq == tp) with
      | true =>
        rw [hkt] at heq
        have hR : res = vq := by
          have hlk := look_drop (l := T.mv) (p := p) hp HA.out
          rw [List.drop_eq_getElem_cons hltp, hq, look_cons, if_pos (by simpa using hkt)] at hlk
          rw [← HRES.out.1]
          exact of_some HRES.out.2 H0.out hlk
        have HRV := Lib.hid hR
        clear hR hq hkb hkt
        go_wp2_with fail
        go_ret
        rw [HRV.out]
        exact ⟨rfl, H1.out⟩
      | false =>
        rw [hkt] at heq
        have HNX := Lib.hid (show ∀ j (h : j < T.mv.length), j < p + 1 → T.mv[j].1 ≠ tp from fun j hj hjp => by
          by_cases hjj : j = p
          · subst hjj; rw [hq]; simpa using hkt
          · exact HA.out j hj (by omega))
        clear hq hkb hkt
        go_wp2_with fail
        go_roundg (T.mv.length - (p + 1))
        case rel => exact ⟨rfl, p + 1, by omega, rfl, by go_num, HNX.out⟩
        case measure => omega
    obtain rfl : p = T.mv.length := by omega
    have hR : res = (sumB tp : Int) % nn := by
      have hlk := look_drop (l := T.mv) (p := T.mv.length) (Nat.le_refl _) HA.out
      rw [List.drop_length] at hlk
      rw [← HRES.out.1, HNN.out]
      exact of_none HRES.out.2 H0.out (hlk.trans rfl)
    have HRV := Lib.hid hR
    clear hR
    go_wp2_with fail
    go_loopg [7, 8] tp.length (fun k vs vi wr => wr = w1 ∧ ∃ p : Nat, p ≤ tp.length ∧ k = tp.length - p ∧ vi = .int .i64 (p : Int) ∧ vs = .int .i64 (sumB (tp.take p) : Int))
    case atStart => exact ⟨rfl, 0, Nat.zero_le _, rfl, rfl, rfl⟩
    case round =>
      obtain ⟨hW, p, hp, hk, hvi, hvs⟩ := hrel
      subst wr hvi hvs
      have hsl := sum_le (tp.take p)
      rw [List.length_take] at hsl
      by_cases hlt2 : p < tp.length
      · have hst := sum_step tp p hlt2
        have hpz : p < ts.size := by omega
        have hch : ts[p].toNat = tp[p].toNat := by
          have : ts[p] = tp[p] := by
            have e := HTS.out.1
            subst e
            rfl
          rw [this]
        obtain ⟨x, hx⟩ : ∃ x : Nat, tp[p].toNat = x := ⟨_, rfl⟩
        have hx256 : x < 256 := by rw [← hx]; exact UInt8.toNat_lt _
        rw [hx] at hch hst
        have HST := Lib.hid hst
        obtain ⟨q, hq⟩ : ∃ q, sumB (tp.take p) = q := ⟨_, rfl⟩
        rw [hq] at hsl HST ⊢
        have HX := Lib.hid hch
        have hxi : ((ts[p].toNat : Nat) : Int) = (x : Int) := by rw [hch]
        clear hst hx hq hch
        go_wp2_with fail
        go_roundg (tp.length - (p + 1))
        case rel =>
          refine ⟨rfl, p + 1, by omega, rfl, by go_num, ?_⟩
          rw [HST.out]
          first | rfl | (rw [HX.out]; go_num) | go_num
        case measure => omega
      · obtain rfl : p = tp.length := by omega
        rw [List.take_length] at hsl ⊢
        obtain ⟨q, hq⟩ : ∃ q, sumB tp = q := ⟨_, rfl⟩
        rw [hq] at hsl ⊢
        have HQ := Lib.hid hq
        clear hq
        go_wp2_with fail
        go_ret
        rw [HRV.out]
        exact ⟨by rw [HQ.out]; rfl, H1.out⟩
end
end Go.Proofs.YtfncdgnhiinmjaaDoor

/-
  The document's own table: where a name stands.
-/
namespace Go.Proofs.YtfncdgnhiinmjaaDoor
open Go.RowKit Go.Av

theorem ins_split {k : Bs} {v : Int} : ∀ {l : List (Bs × Int)} {p : Nat}, p ≤ l.length → (∀ j (h : j < l.length), j < p → l[j].1 < k) → insM k v l = l.take p ++ insM k v (l.drop p)
  | [], p, hp, _ => by
    obtain rfl : p = 0 := by simpa using hp
    rfl
  | e :: l, 0, _, _ => rfl
  | e :: l, p + 1, hp, h => by
    have h0 : e.1 < k := by have := h 0 (by simp) (by omega); simpa using this
    rw [insM, if_pos h0, List.take_succ_cons, List.drop_succ_cons, List.cons_append, ins_split (l := l) (p := p) (by simpa using hp) (fun j hj hjp => by have := h (j + 1) (by simpa using hj) (by omega); simpa using this)]
/-- The name stands at p. -/
theorem ins_at {k : Bs} {v : Int} {l : List (Bs × Int)} {p : Nat} (hp : p < l.length) (h : ∀ j (h : j < l.length), j < p → l[j].1 < k) (hk : l[p].1 = k) : insM k v l = l.set p (k, v) ∧ ∃ v0, lookM k l = some v0 := by
  constructor
  · rw [ins_split (by omega) h, List.drop_eq_getElem_cons hp, insM, if_neg (by rw [hk]; exact List.lt_irrefl _), if_pos hk, List.set_eq_take_append_cons_drop, if_pos hp]
  · refine ⟨l[p].2, ?_⟩
    rw [look_drop (p := p) (by omega) (fun j hj hjp => lt_ne (h j hj hjp)), List.drop_eq_getElem_cons hp, look_cons, if_pos hk]
/-- It stands nowhere; its place is ahead of p. -/
theorem ins_new {k : Bs} {v : Int} {l : List (Bs × Int)} {p : Nat} (hr : RiseM l) (hp : p ≤ l.length) (h : ∀ j (h : j < l.length), j < p → l[j].1 < k) (hk : ∀ hp : p < l.length, ¬ l[p].1 < k ∧ l[p].1 ≠ k) : insM k v l = l.take p ++ (k, v) :: l.drop p ∧ lookM k l = none := by
  constructor
  · rw [ins_split hp h]
    congr 1
    cases hd : l.drop p with
    | nil => rfl
    | cons e r =>
      have hlt : p < l.length := by
        have := congrArg List.length hd
        rw [List.length_drop, List.length_cons] at this
        omega
      rw [List.drop_eq_getElem_cons hlt] at hd
      injection hd with hd1 hd2
      obtain ⟨a, b⟩ := hk hlt
      rw [hd1] at a b
      rw [insM, if_neg a, if_neg b]
  · cases hl : lookM k l with
    | none => rfl
    | some v0 =>
      obtain ⟨l1, l2, he, hn⟩ := lookM_some hl
      subst he
      exfalso
      have hj : l1.length < (l1 ++ (k, v0) :: l2).length := by simp
      have hjk : (l1 ++ (k, v0) :: l2)[l1.length].1 = k := by simp
      by_cases hjp : l1.length < p
      · exact lt_ne (h l1.length hj hjp) hjk
      · have hpl : p < (l1 ++ (k, v0) :: l2).length := by omega
        obtain ⟨a, b⟩ := hk hpl
        by_cases hpe : p = l1.length
        · subst hpe; exact b hjk
        · have hpw := List.pairwise_iff_getElem.1 hr p l1.length hpl hj (by omega)
          rw [hjk] at hpw
          exact a hpw
theorem mcell_set {l : List (Bs × Int)} {p : Nat} (hp : p < l.length) (v : Int) : (l.set p (l[p].1, v)).flatMap mcell = (l.flatMap mcell).set (p * 2 + 1) (.int .i64 v) := by
  induction l generalizing p with
  | nil => simp at hp
  | cons e l ih =>
    cases p with
    | zero => rfl
    | succ p =>
      have hp' : p < l.length := by simpa using hp
      have := ih hp'
      rw [List.set_cons_succ, List.flatMap_cons, List.flatMap_cons, show (p + 1) * 2 + 1 = (p * 2 + 1) + 1 + 1 by omega]
      show mcell e ++ (l.set p (l[p].1, v)).flatMap mcell = _
      rw [this]
      rfl
end Go.Proofs.YtfncdgnhiinmjaaDoor

/-
  The tail of a slice that is read, elements of any size.
-/
namespace Go.Proofs.YtfncdgnhiinmjaaDoor
open Go.RowKit Go.Av

theorem slice_runG {P : Program} {t e : TypeId} {i : TypeInfo} (ht : P.underlying t = some (.slice e)) (hi : P.info? e = some i) (g off n c lo : Nat) (h1 : lo ≤ n) (W : World) :
    (Instr.slice t (.slice (some ⟨g, off, none⟩) n c) (some (.int .i64 (lo : Int))) none none).run P W = .ok (.slice (some ⟨g, if c = lo then off else off + lo * i.size, none⟩) (n - lo) (c - lo)) W := by
  simp [Instr.slice, run_underlying ht, Instr.sliceBounds, Instr.sliceBound, asIntOf, h1, sizeOf, typeInfo, hi, Result.andThen, Addr.add]
  split
  · rfl
  · split
    · simp_all
    · rfl
theorem slice_fromG {P : Program} {t e : TypeId} {i : TypeInfo} (ht : P.underlying t = some (.slice e)) (hi : P.info? e = some i) (hz : 0 < i.size) {w : World} {a : Option Addr} {n c : Nat} {xs : List Value} {E : List Nat} (h : ReadRow w i.size (.slice a n c) xs E) (lo : Nat) (h1 : lo ≤ n) :
    ∃ a', (∀ W, (Instr.slice t (.slice a n c) (some (.int .i64 (lo : Int))) none none).run P W = .ok (.slice a' (n - lo) (c - lo)) W) ∧
      ∃ E', ReadRow w i.size (.slice a' (n - lo) (c - lo)) (xs.drop (lo * i.size)) E' ∧ ∀ b ∈ E', b ∈ E := by
  obtain ⟨a', n', c', hv, hl, hn, hc, ha, hr⟩ := h
  cases hv
  have hle : lo * i.size ≤ n * i.size := Nat.mul_le_mul_right _ h1
  have hsub : (n - lo) * i.size = n * i.size - lo * i.size := Nat.sub_mul _ _ _
  cases a with
  | none =>
    have := ha rfl
    subst this
    obtain rfl : n = 0 := by omega
    obtain rfl : lo = 0 := by omega
    have : xs = [] := List.length_eq_zero_iff.1 (by rw [hl]; simp)
    subst this
    exact ⟨none, fun W => (slice_nil ht hi W).2, [], ⟨none, 0, 0, rfl, by simp, Nat.le_refl _, by decide, fun _ => rfl, .inl ⟨by simp, rfl⟩⟩, by simp⟩
  | some x =>
    by_cases hn0 : n = 0
    · subst hn0
      obtain rfl : lo = 0 := by omega
      have : xs = [] := List.length_eq_zero_iff.1 (by rw [hl]; simp)
      subst this
      exact ⟨some x, fun W => by simp [Instr.slice, run_underlying ht, Instr.sliceBounds, Instr.sliceBound, asIntOf, sizeOf, typeInfo, hi, Result.andThen, Addr.add], [], ⟨some x, 0, c, rfl, by simp, Nat.zero_le _, hc, (fun h => by cases h), .inl ⟨by simp, rfl⟩⟩, by simp⟩
    · rcases hr with ⟨h2, _⟩ | ⟨g, off, h2, h3, h4, h5⟩
      · exfalso
        rw [h2] at hl
        have : 0 < n * i.size := Nat.mul_pos (by omega) hz
        simp at hl
        omega
      · cases h2
        refine ⟨_, fun W => slice_runG ht hi g off n c lo h1 W, ?_⟩
        by_cases hlo : n - lo = 0
        · have hd : xs.drop (lo * i.size) = [] := by
            rw [List.drop_eq_nil_iff, hl, show lo = n by omega]
            exact Nat.le_refl _
          rw [hd]
          exact ⟨[], ⟨_, n - lo, _, rfl, by rw [hlo]; simp, by omega, by omega, (fun h => by cases h), .inl ⟨rfl, rfl⟩⟩, by simp⟩
        · rw [if_neg (by omega)]
          refine ⟨E, ⟨_, _, _, rfl, by rw [List.length_drop, hl, hsub], by omega, by omega, (fun h => by cases h), .inr ⟨g, off + lo * i.size, rfl, h3, h4, fun j x hx => ?_⟩⟩, fun _ h => h⟩
          rw [List.getElem?_drop] at hx
          rw [show off + lo * i.size + j = off + (lo * i.size + j) by omega]
          exact h5 _ _ hx
end Go.Proofs.YtfncdgnhiinmjaaDoor

/-
  The document's own table: Move, where it says no.
-/
namespace Go.Proofs.YtfncdgnhiinmjaaDoor
open Go.RowKit Go.Av Go.Sort
section
variable {w0 w : World} {t : Nat} {T : RtS} {R : List Thing} {rows : List (Value × Bs)}
theorem Rf.setVer (h : Rf w0 w t T R rows) (v : Int) : Rf w0 (w.setCell ⟨t, 1, none⟩ (.int .i64 v)) t { T with ver := v } R rows := by
  obtain ⟨m, hS⟩ := h
  exact ⟨m, hS.set 1 (.int .i64 v)⟩


set_option maxRecDepth 100000 in
set_option maxHeartbeats 2000000 in
theorem rf_bad (h : Rf w0 w t T R rows) (s : ByteArray) (hs : s.size ≤ maxLen) (sh : Int) (hb : badR T s.data.toList sh = true) :
    Calls Tryd.prog 24 #[.pointer (some ⟨t, 0, none⟩), .string s, .int .i64 sh] w fun e w' => e = .returned (.int .i64 1) ∧ Rf w0 w' t T R rows := by
  obtain ⟨a, cp, hbk, -, -, -⟩ := h.facts
  have c0 := cell_of hbk 0 rfl
  rw [show (#[Value.int .i64 T.n, .int .i64 T.ver, .slice a T.mv.length cp] : Array Value)[0] = .int .i64 T.n from rfl] at c0
  have ht := isName_any s w hs
  obtain ⟨nm, hnm⟩ : ∃ nm, nameR s.data.toList = nm := ⟨_, rfl⟩
  rw [hnm] at ht
  obtain ⟨n, hn⟩ : ∃ n, T.n = n := ⟨_, rfl⟩
  rw [hn] at c0
  unfold badR at hb
  rw [hnm, hn] at hb
  have HT := Lib.hid ht
  have H := Lib.hid h
  clear ht h hbk hn hnm
  cases nm with
  | false =>
    clear hb
    go_enter Tryd.func24, Tryd.ntmps24
    go_wp2_with fail
    refine HT.out.mono ?_
    rintro e w1 ⟨rfl, rfl⟩
    go_wp2_with fail
    go_ret
    exact ⟨rfl, H.out⟩
  | true =>
  by_cases h3 : sh < 0
  · clear hb
    go_enter Tryd.func24, Tryd.ntmps24
    go_wp2_with fail
    refine HT.out.mono ?_
    rintro e w1 ⟨rfl, rfl⟩
    go_wp2_with fail
    go_ret
    exact ⟨rfl, H.out⟩
  have h4 : n ≤ sh := by simpa [h3] using hb
  clear hb
  go_enter Tryd.func24, Tryd.ntmps24
  go_wp2_with fail
  refine HT.out.mono ?_
  rintro e w1 ⟨rfl, rfl⟩
  go_wp2_with fail
  go_ret
  exact ⟨rfl, H.out⟩
end
end Go.Proofs.YtfncdgnhiinmjaaDoor

/-
  The document's own table: Move, where the name stands already or the table is full.
-/
namespace Go.Proofs.YtfncdgnhiinmjaaDoor
open Go.RowKit Go.Av Go.Sort
section
variable {w0 w : World} {t : Nat} {T : RtS} {R : List Thing} {rows : List (Value × Bs)}

set_option maxRecDepth 100000 in
set_option maxHeartbeats 4000000 in
theorem rf_full (h : Rf w0 w t T R rows) (s : ByteArray) (hs : s.size ≤ maxLen) (sh : Int) (hb : badR T s.data.toList sh = false) (hfull : lookM s.data.toList T.mv = none) (h50 : 50 ≤ T.mv.length) :
    Calls Tryd.prog 24 #[.pointer (some ⟨t, 0, none⟩), .string s, .int .i64 sh] w fun e w' => e = .returned (.int .i64 (moveR T s.data.toList sh).1) ∧ Rf w0 w' t (moveR T s.data.toList sh).2 R rows := by
  have hm : moveR T s.data.toList sh = (2, T) := by
    unfold moveR
    rw [if_neg (by rw [hb]; simp), if_pos ⟨hfull, h50⟩]
  have HM := Lib.hid hm
  clear hm
  obtain ⟨a, cp, hbk, hcp, hcm, hrow⟩ := h.facts
  unfold maxLen at hcm
  have c0 := cell_of hbk 0 rfl
  have c2 := cell_of hbk 2 rfl
  rw [show (#[Value.int .i64 T.n, .int .i64 T.ver, .slice a T.mv.length cp] : Array Value)[0] = .int .i64 T.n from rfl] at c0
  rw [show (#[Value.int .i64 T.n, .int .i64 T.ver, .slice a T.mv.length cp] : Array Value)[2] = .slice a T.mv.length cp from rfl] at c2
  have ht := isName_any s w hs
  unfold badR at hb
  simp only [Bool.or_eq_false_iff, Bool.not_eq_false', decide_eq_false_iff_not] at hb
  obtain ⟨⟨hnm, h3⟩, h4⟩ := hb
  rw [hnm] at ht
  have h50' : (50 : Int) ≤ T.mv.length := by omega
  have HT := Lib.hid ht
  have H := Lib.hid h
  have HR := Lib.hid (show _ ∧ _ from ⟨hrow, hfull⟩)
  clear ht h hbk hnm hrow hfull h50
  go_enter Tryd.func24, Tryd.ntmps24
  go_wp2_with fail
  refine HT.out.mono ?_
  rintro e w1 ⟨rfl, rfl⟩
  go_wp2_with fail
  go_loopg [7] T.mv.length (fun k vi wr => wr = w1 ∧ ∃ p : Nat, p ≤ T.mv.length ∧ k = T.mv.length - p ∧ vi = .int .i64 (p : Int))
  case atStart => exact ⟨rfl, 0, Nat.zero_le _, rfl, rfl⟩
  case round =>
    obtain ⟨hW, p, hp, hk, hvi⟩ := hrel
    subst wr hvi
    by_cases hltp : p < T.mv.length
    · obtain ⟨y, rfl, hys, e0, e1⟩ := HR.out.1 p hltp
      obtain ⟨q, hq⟩ : ∃ q, T.mv[p] = q := ⟨_, rfl⟩
      rw [hq] at e0 e1
      obtain ⟨kq, vq⟩ := q
      dsimp only at e0 e1
      unfold sv at e0
      obtain ⟨kb, hkb⟩ : ∃ kb : ByteArray, kb = ⟨kq.toArray⟩ := ⟨_, rfl⟩
      rw [← hkb] at e0
      have hne : (kb.toList == s.toList) = false := by
        rw [str_eq, hkb]
        have : kq ≠ s.data.toList := fun e => lookM_none HR.out.2 T.mv[p] (List.getElem_mem hltp) (by rw [hq]; exact e)
        simpa using this
      cases hlt : Op.bytesLess kb.toList s.toList with
      | true =>
        clear hq hkb
        go_wp2_with fail
        go_roundg (T.mv.length - (p + 1))
        case rel => exact ⟨rfl, p + 1, by omega, rfl, by go_num⟩
        case measure => omega
      | false =>
        clear hq hkb
        go_wp2_with fail
        go_ret
        rw [HM.out]
        exact ⟨rfl, H.out⟩
    obtain rfl : p = T.mv.length := by omega
    go_wp2_with fail
    go_ret
    rw [HM.out]
    exact ⟨rfl, H.out⟩
end
end Go.Proofs.YtfncdgnhiinmjaaDoor

/-
  The document's own table: Move, where the name stands already.
-/
namespace Go.Proofs.YtfncdgnhiinmjaaDoor
open Go.RowKit Go.Av Go.Sort
section
variable {w0 w : World} {t : Nat} {T : RtS} {R : List Thing} {rows : List (Value × Bs)}

/-- A shard is set. -/
theorem Rf.setSh (h : Rf w0 w t T R rows) {p : Nat} (hp : p < T.mv.length) (v : Int) {y : Addr} {c : Nat} (hc : w.cell? ⟨t, 2, none⟩ = some (.slice (some y) T.mv.length c)) :
    w.frozen? ⟨(y.add (p * 2)).block, (y.add (p * 2)).off + 1, none⟩ = false ∧ Rf w0 (w.setCell ⟨(y.add (p * 2)).block, (y.add (p * 2)).off + 1, none⟩ (.int .i64 v)) t { T with mv := T.mv.set p (T.mv[p].1, v) } R rows := by
  obtain ⟨u, hS⟩ := h
  have hb := hS.blk
  have c2 := cell_of hb 2 rfl
  have he : u = .slice (some y) T.mv.length c := by
    have := c2.symm.trans hc
    injection this
  subst he
  have h2 := hS.perm (List.Perm.swap _ _ _)
  obtain ⟨f1, f2, -, h3⟩ := h2.rowSetG (i := p * 2 + 1) (by omega) (.int .i64 v)
  have ha : (⟨(y.add (p * 2)).block, (y.add (p * 2)).off + 1, none⟩ : Addr) = y.add (p * 2 + 1) := by
    obtain ⟨g, off, sp⟩ := y
    dsimp only at f2
    subst f2
    rw [Addr.add_lit, Addr.add_lit]
    rfl
  rw [ha]
  refine ⟨f1, .slice (some y) T.mv.length c, ?_⟩
  rw [mcell_set hp]
  exact h3.perm (List.Perm.swap _ _ _)

set_option maxRecDepth 100000 in
set_option maxHeartbeats 4000000 in
theorem rf_old (h : Rf w0 w t T R rows) (s : ByteArray) (hs : s.size ≤ maxLen) (sh : Int) (hri : RiseM T.mv) (hv1 : 0 ≤ T.ver) (hv2 : T.ver ≤ 1000000) (hb : badR T s.data.toList sh = false) {v0 : Int} (hold : lookM s.data.toList T.mv = some v0) :
    Calls Tryd.prog 24 #[.pointer (some ⟨t, 0, none⟩), .string s, .int .i64 sh] w fun e w' => e = .returned (.int .i64 (moveR T s.data.toList sh).1) ∧ Rf w0 w' t (moveR T s.data.toList sh).2 R rows := by
  have hm : moveR T s.data.toList sh = (0, { T with ver := T.ver + 1, mv := insM s.data.toList sh T.mv }) := by
    unfold moveR
    rw [if_neg (by rw [hb]; simp), if_neg (by rw [hold]; simp)]
  have HM := Lib.hid hm
  have HRI := Lib.hid hri
  clear hm hri
  obtain ⟨a, cp, hbk, hcp, hcm, hrow⟩ := h.facts
  unfold maxLen at hcm
  have c0 := cell_of hbk 0 rfl
  have c1 := cell_of hbk 1 rfl
  have c2 := cell_of hbk 2 rfl
  rw [show (#[Value.int .i64 T.n, .int .i64 T.ver, .slice a T.mv.length cp] : Array Value)[0] = .int .i64 T.n from rfl] at c0
  rw [show (#[Value.int .i64 T.n, .int .i64 T.ver, .slice a T.mv.length cp] : Array Value)[2] = .slice a T.mv.length cp from rfl] at c2
  have ht := isName_any s w hs
  unfold badR at hb
  simp only [Bool.or_eq_false_iff, Bool.not_eq_false', decide_eq_false_iff_not] at hb
  obtain ⟨⟨hnm, h3⟩, h4⟩ := hb
  rw [hnm] at ht
  have HT := Lib.hid ht
  have H := Lib.hid h
  have HR := Lib.hid (show _ ∧ _ from ⟨hrow, hold⟩)
  obtain ⟨vr, hvr⟩ : ∃ vr, T.ver = vr := ⟨_, rfl⟩
  rw [hvr] at hv1 hv2
  have HV := Lib.hid hvr
  clear ht h hbk hnm hrow hold hvr c1
  go_enter Tryd.func24, Tryd.ntmps24
  go_wp2_with fail
  refine HT.out.mono ?_
  rintro e w1 ⟨rfl, rfl⟩
  go_wp2_with fail
  go_loopg [7] T.mv.length (fun k vi wr => wr = w1 ∧ ∃ p : Nat, p ≤ T.mv.length ∧ k = T.mv.length - p ∧ vi = .int .i64 (p : Int) ∧ ∀ j (h : j < T.mv.length), j < p → T.mv[j].1 < s.data.toList)
  case atStart => exact ⟨rfl, 0, Nat.zero_le _, rfl, rfl, fun _ _ h => absurd h (Nat.not_lt_zero _)⟩
  case round =>
    obtain ⟨hW, p, hp, hk, hvi, hall⟩ := hrel
    subst wr hvi
    have HA := Lib.hid hall
    clear hall
    by_cases hltp : p < T.mv.length
    · obtain ⟨y, rfl, hys, e0, e1⟩ := HR.out.1 p hltp
      have hcell := H.out.setSh hltp sh c2
      obtain ⟨q, hq⟩ : ∃ q, T.mv[p] = q := ⟨_, rfl⟩
      rw [hq] at e0 e1
      obtain ⟨kq, vq⟩ := q
      dsimp only at e0 e1
      unfold sv at e0
      obtain ⟨kb, hkb⟩ : ∃ kb : ByteArray, kb = ⟨kq.toArray⟩ := ⟨_, rfl⟩
      rw [← hkb] at e0
      have heq : (kb.toList == s.toList) = (kq == s.data.toList) := by rw [str_eq, hkb]
      have hbl : Op.bytesLess kb.toList s.toList = decide (kq < s.data.toList) := by
        rw [bytesLess_eq, Lib.toList_data, Lib.toList_data, hkb]
      cases hlt : Op.bytesLess kb.toList s.toList with
      | true =>
        have HNX := Lib.hid (show ∀ j (h : j < T.mv.length), j < p + 1 → T.mv[j].1 < s.data.toList from fun j hj hjp => by
          by_cases hjj : j = p
          · subst hjj; rw [hq]; rw [hlt] at hbl; exact of_decide_eq_true hbl.symm
          · exact HA.out j hj (by omega))
        clear hq hkb hbl heq hcell
        go_wp2_with fail
        go_roundg (T.mv.length - (p + 1))
        case rel => exact ⟨rfl, p + 1, by omega, rfl, by go_num, HNX.out⟩
        case measure => omega
      | false =>
        have hkt : kq = s.data.toList := by
          refine Classical.byContradiction fun hne => ?_
          rw [hlt] at hbl
          have := (ins_new (v := sh) HRI.out hp HA.out (fun _ => by rw [hq]; exact ⟨of_decide_eq_false hbl.symm, hne⟩)).2
          rw [HR.out.2] at this
          cases this
        have hkk : (kb.toList == s.toList) = true := by rw [heq, hkt]; simp
        have HIN := Lib.hid (ins_at (v := sh) hltp HA.out (by rw [hq]; exact hkt)).1
        obtain ⟨yf, hcell⟩ := hcell
        have k1 := hcell.facts
        obtain ⟨a2, cp2, hb2, -⟩ := k1
        have k1 := cell_of hb2 1 rfl
        dsimp only at k1
        rw [show (#[Value.int .i64 T.n, .int .i64 T.ver, .slice a2 (T.mv.set p (T.mv[p].1, sh)).length cp2] : Array Value)[1] = .int .i64 vr by rw [HV.out]; rfl] at k1
        have y1 := frz_of hb2 1
        have H3 := Lib.hid (hcell.setVer (vr + 1))
        have HQ := Lib.hid (show _ ∧ _ from ⟨hq, hkt⟩)
        clear hq hkb hbl heq hcell hkt hb2
        go_wp2_with fail
        go_ret
        rw [HM.out]
        refine ⟨rfl, ?_⟩
        have e := HV.out
        subst e
        have := H3.out
        rw [HQ.out.1, HQ.out.2] at this
        rw [HIN.out]
        exact this
    obtain rfl : p = T.mv.length := by omega
    exfalso
    obtain ⟨l1, l2, he, hn⟩ := lookM_some HR.out.2
    have hj : l1.length < T.mv.length := by rw [he]; simp
    refine lt_ne (HA.out l1.length hj hj) ?_
    simp [he]
end
end Go.Proofs.YtfncdgnhiinmjaaDoor

/-
  The document's own table: Move, where a name is new.
-/
namespace Go.Proofs.YtfncdgnhiinmjaaDoor
open Go.RowKit Go.Av Go.Sort
theorem infoMv : (Tryd.prog.info? 82).map (fun i => (i.zero, i.size, i.bytes)) = some (some (.agg #[.string ByteArray.empty, .int .i64 0]), 2, 24) := by kernel_rfl
theorem mcell_one (l : List (Bs × Int)) : ∀ u ∈ l.flatMap mcell, u.oneCell' = true := by
  intro u hu
  obtain ⟨e, -, he⟩ := List.mem_flatMap.1 hu
  unfold mcell at he
  simp only [List.mem_cons, List.not_mem_nil, or_false] at he
  rcases he with rfl | rfl <;> rfl
theorem mcell_take (l : List (Bs × Int)) (p : Nat) : (l.flatMap mcell).take (p * 2) = (l.take p).flatMap mcell := by
  induction l generalizing p with
  | nil => simp
  | cons e l ih =>
    cases p with
    | zero => rfl
    | succ p =>
      rw [List.flatMap_cons, List.take_succ_cons, List.flatMap_cons, ← ih, show (p + 1) * 2 = p * 2 + 1 + 1 by omega]
      rfl
theorem mcell_drop (l : List (Bs × Int)) (p : Nat) : (l.flatMap mcell).drop (p * 2) = (l.drop p).flatMap mcell := by
  induction l generalizing p with
  | nil => simp
  | cons e l ih =>
    cases p with
    | zero => rfl
    | succ p =>
      rw [List.flatMap_cons, List.drop_succ_cons, ← ih, show (p + 1) * 2 = p * 2 + 1 + 1 by omega]
      rfl
theorem cell2_new (w : World) (u v : Value) (T : TypeId) : ReadRow (w.alloc (.cells #[u, v] T (0, 0))) 2 (.slice (some ⟨w.heap.size, 0, none⟩) 1 1) [u, v] [w.heap.size] :=
  ⟨_, 1, 1, rfl, rfl, Nat.le_refl _, by decide, by simp, .inr ⟨w.heap.size, 0, rfl, rfl, by simp, fun i x hx => by
    have hh : (w.alloc (.cells #[u, v] T (0, 0))).heap[w.heap.size]? = some (.cells #[u, v] T (0, 0)) := heap_alloc_new w _
    rw [cell_of_row _ _ _ _ _ _ hh]
    simpa using hx⟩⟩
section
variable {w0 w : World} {t : Nat} {T : RtS} {R : List Thing} {rows : List (Value × Bs)}


set_option maxRecDepth 100000 in
set_option maxHeartbeats 4000000 in
theorem rf_add (h : Rf w0 w t T R rows) (s : ByteArray) (hs : s.size ≤ maxLen) (sh : Int) (hri : RiseM T.mv) (hv1 : 0 ≤ T.ver) (hv2 : T.ver ≤ 1000000) (hb : badR T s.data.toList sh = false) (hfull : lookM s.data.toList T.mv = none) (h50 : ¬ 50 ≤ T.mv.length) :
    Calls Tryd.prog 24 #[.pointer (some ⟨t, 0, none⟩), .string s, .int .i64 sh] w fun e w' => e = .returned (.int .i64 (moveR T s.data.toList sh).1) ∧ Rf w0 w' t (moveR T s.data.toList sh).2 R rows := by
  have hm : moveR T s.data.toList sh = (0, { T with ver := T.ver + 1, mv := insM s.data.toList sh T.mv }) := by
    unfold moveR
    rw [if_neg (by rw [hb]; simp), if_neg (fun h => h50 h.2)]
  have HM := Lib.hid hm
  have HRI := Lib.hid hri
  clear hm hri
  obtain ⟨i0, hi0, hz0, hz1, hz2⟩ := info_parts infoMv
  obtain ⟨a, cp, hbk, hcp, hcm, hrow⟩ := h.facts
  unfold maxLen at hcm
  have c0 := cell_of hbk 0 rfl
  have c2 := cell_of hbk 2 rfl
  rw [show (#[Value.int .i64 T.n, .int .i64 T.ver, .slice a T.mv.length cp] : Array Value)[0] = .int .i64 T.n from rfl] at c0
  rw [show (#[Value.int .i64 T.n, .int .i64 T.ver, .slice a T.mv.length cp] : Array Value)[2] = .slice a T.mv.length cp from rfl] at c2
  have ht := isName_any s w hs
  unfold badR at hb
  simp only [Bool.or_eq_false_iff, Bool.not_eq_false', decide_eq_false_iff_not] at hb
  obtain ⟨⟨hnm, h3⟩, h4⟩ := hb
  rw [hnm] at ht
  have h50' : ¬ (50 : Int) ≤ T.mv.length := by omega
  have HT := Lib.hid ht
  have H := Lib.hid h
  have HR := Lib.hid (show _ ∧ _ from ⟨hrow, hfull⟩)
  obtain ⟨vr, hvr⟩ : ∃ vr, T.ver = vr := ⟨_, rfl⟩
  rw [hvr] at hv1 hv2
  have HV := Lib.hid hvr
  clear ht h hbk hnm hrow hfull hvr h50
  go_enter Tryd.func24, Tryd.ntmps24
  go_wp2_with fail
  refine HT.out.mono ?_
  rintro e w1 ⟨rfl, rfl⟩
  go_wp2_with fail
  go_loopg [7] T.mv.length (fun k vi wr => wr = w1 ∧ ∃ p : Nat, p ≤ T.mv.length ∧ k = T.mv.length - p ∧ vi = .int .i64 (p : Int) ∧ ∀ j (h : j < T.mv.length), j < p → T.mv[j].1 < s.data.toList)
  case atStart => exact ⟨rfl, 0, Nat.zero_le _, rfl, rfl, fun _ _ h => absurd h (Nat.not_lt_zero _)⟩
  case round =>
    obtain ⟨hW, p, hp, hk, hvi, hall⟩ := hrel
    subst wr hvi
    have HA := Lib.hid hall
    clear hall
    by_cases hltp : p < T.mv.length
    · obtain ⟨y, rfl, hys, e0, e1⟩ := HR.out.1 p hltp
      obtain ⟨q, hq⟩ : ∃ q, T.mv[p] = q := ⟨_, rfl⟩
      rw [hq] at e0 e1
      obtain ⟨kq, vq⟩ := q
      dsimp only at e0 e1
      unfold sv at e0
      obtain ⟨kb, hkb⟩ : ∃ kb : ByteArray, kb = ⟨kq.toArray⟩ := ⟨_, rfl⟩
      rw [← hkb] at e0
      have hne : kq ≠ s.data.toList := fun e => lookM_none HR.out.2 T.mv[p] (List.getElem_mem hltp) (by rw [hq]; exact e)
      have heq : (kb.toList == s.toList) = false := by rw [str_eq, hkb]; simpa using hne
      have hbl : Op.bytesLess kb.toList s.toList = decide (kq < s.data.toList) := by
        rw [bytesLess_eq, Lib.toList_data, Lib.toList_data, hkb]
      cases hlt : Op.bytesLess kb.toList s.toList with
      | true =>
        have HNX := Lib.hid (show ∀ j (h : j < T.mv.length), j < p + 1 → T.mv[j].1 < s.data.toList from fun j hj hjp => by
          by_cases hjj : j = p
          · subst hjj; rw [hq]; rw [hlt] at hbl; exact of_decide_eq_true hbl.symm
          · exact HA.out j hj (by omega))
        clear hq hkb hbl heq hne
        go_wp2_with fail
        go_roundg (T.mv.length - (p + 1))
        case rel => exact ⟨rfl, p + 1, by omega, rfl, by go_num, HNX.out⟩
        case measure => omega
      | false =>
        have hkey : ∀ hp : p < T.mv.length, ¬ T.mv[p].1 < s.data.toList ∧ T.mv[p].1 ≠ s.data.toList := fun _ => by
          rw [hq]; rw [hlt] at hbl; exact ⟨of_decide_eq_false hbl.symm, hne⟩
        clear hq hkb hbl hne
        obtain ⟨hnew, -⟩ := ins_new (v := sh) HRI.out hp HA.out hkey
        have HNW := Lib.hid hnew
        clear hnew hkey
        obtain ⟨u, hS⟩ := H.out
        have hbS := hS.blk
        have hc2 := cell_of hbS 2 rfl
        have hu : u = .slice (some y) T.mv.length cp := by
          have := hc2.symm.trans c2
          injection this
        subst hu
        obtain ⟨DS, hDS⟩ := hS.has (T := ThRow 2 (.slice (some y) T.mv.length cp) (T.mv.flatMap mcell)) (by simp)
        have hDS : OwnRow w1 2 (.slice (some y) T.mv.length cp) (T.mv.flatMap mcell) DS := hDS
        obtain ⟨ES, hRS, -⟩ := hDS.read
        have hRS' : ReadRow w1 i0.size (.slice (some y) T.mv.length cp) (T.mv.flatMap mcell) ES := by rw [hz1]; exact hRS
        obtain ⟨a', hsl2, E', hR2, hE'⟩ := slice_fromG (P := Tryd.prog) Tryd.underlying53 hi0 (by rw [hz1]; decide) hRS' p hp
        rw [hz1, mcell_drop] at hR2
        obtain ⟨h1D, hpc⟩ := hDS.take hp
        rw [mcell_take] at h1D
        obtain ⟨E1, hR1, -⟩ := h1D.read
        have hsl1 : ∀ W : World, (Instr.slice 53 (.slice (some y) T.mv.length cp) none (some (.int .i64 (p : Int))) none).run Tryd.prog W = .ok (.slice (some y) p cp) W := fun W => run_slice_hi (P := Tryd.prog) Tryd.underlying53 hi0 (some y) T.mv.length cp p (by omega) W
        have hsl2' : ∀ W : World, (Instr.slice 53 (.slice (some y) T.mv.length cp) (some (.int .i64 (p : Int))) none none).run Tryd.prog W = .ok (.slice a' (T.mv.length - p) (cp - p)) W := fun W => hsl2 W
        have HSS := Lib.hid (show _ ∧ _ ∧ _ from ⟨hS, hR1, hR2⟩)
        clear hS hbS hc2 hDS hRS hRS' hR2 h1D hR1 hE' hsl2
        go_wp2_with fail
        refine wp_region_M (fun W => W.cell? ⟨t, 2, none⟩ = some (.slice (some y) T.mv.length cp)) 21 (by kernel_rfl) ?_
        refine wpAnyM_take (by kernel_rfl) (by intro c a d v w h; cases d <;> exact h) [(0, false), (2, false), (3, false), (4, false), (5, true), (6, false), (7, false), (9, false), (10, false), (11, false), (14, false), (15, false), (16, false), (17, true), (18, false), (19, false)] (fuel := 8) (by kernel_rfl) ?_
        apply Exists.intro; refine ⟨?_, c2, ?_⟩
        · iterate 16 ((first | (apply yieldN; (· (simp only [List.getElem?_toArray, List.getElem?_cons_succ, List.getElem?_cons_zero]; try rfl)); (· rfl)) | ((first | apply yieldP | apply yieldL); (· (simp only [List.getElem?_toArray, List.getElem?_cons_succ, List.getElem?_cons_zero]; try rfl)); (· rfl); (· (intros; go_simp; try with_reducible rfl)))); (· (simp only [Act.put, List.setIfInBounds_toArray, List.set_cons_zero, List.set_cons_succ]; try rfl)))
          exact rfl
        refine wpAnyM_each (fuel := 7) [1, 12] (by kernel_rfl) (by simp) (fun i hi => ?_)
        simp only [List.mem_cons, List.not_mem_nil, or_false] at hi
        rcases hi with rfl | rfl
        case' inl =>
          refine ⟨_, by rfl, fun K hK => ?_⟩
          go_wp2_with fail
          have ua := Upd.alloc0 w1 (.cells #[] 82) []
          have k2 := upd_cell ua c2
          refine hK _ _ k2 ?_
          clear hK
          obtain ⟨wa, hwa⟩ : ∃ z, z = w1.alloc (.cells #[] 82) := ⟨_, rfl⟩
          rw [← hwa] at ua k2 ⊢
          obtain ⟨HS, HR1, HR2⟩ := HSS.out
          have HX := Lib.hid (show _ ∧ _ ∧ _ ∧ _ from ⟨HS.keep ua, HR1.frame (ua.same HR1.lt (by simp)), HR2.frame (ua.same HR2.lt (by simp)), ua⟩)
          clear HS HR1 HR2 ua hwa
          refine wpAnyM_each (fuel := 6) [8, 12] (by kernel_rfl) (by simp) (fun i hi => ?_)
          simp only [List.mem_cons, List.not_mem_nil, or_false] at hi
          rcases hi with rfl | rfl
          case' inl =>
            refine ⟨_, by rfl, fun K hK => ?_⟩
            obtain ⟨n1, hn1, hsrc⟩ := (HX.out.2.1.frame ((Upd.refl wa []).drew.same HX.out.2.1.lt (by simp))).src (P := Tryd.prog) (tx := 53) Tryd.underlying53 (mcell_one _)
            rw [mcell_len, List.length_take] at hn1
            have HBD := Lib.hid (show ∀ n, ([] : List Value).length = n * 2 → n + n1 ≤ 140737488355328 ∧ (n + n1) * i0.bytes ≤ 140737488355328 from fun n hn => by simp at hn; rw [hz2]; omega)
            clear hn1
            refine wpList_app rfl _ _ 53 53 rfl 2 _ _ _ rfl (OwnRow.zero _ _ _) _ i0 _ Tryd.underlying53 hi0 hz0 hz1 rfl _ _ _ rfl hsrc HBD.out ?_
            intro a5 n5 c5 w5 D5 hown5 hu5
            have k5 := upd_cell hu5 (show wa.drew.cell? _ = _ from k2)
            go_wp2_with fail
            refine hK _ _ k5 ?_
            clear hK
            refine wpAnyM_one (fuel := 5) (i := 12) (by kernel_rfl) (by rfl) (fun K hK => ?_)
            go_wp2_with fail
            have ub := Upd.alloc0 w5 (.cells #[.string s, .int .i64 sh] 82) D5
            have hrb := cell2_new w5 (.string s) (.int .i64 sh) 82
            refine hK _ (w5.alloc (.cells #[.string s, .int .i64 sh] 82)) (upd_cell (Upd.alloc0 w5 _ []) k5) ?_
            clear hK
            have k6 := upd_cell (Upd.alloc0 w5 (.cells #[.string s, .int .i64 sh] 82) []) k5
            have ud : Upd w5 (w5.alloc (.cells #[.string s, .int .i64 sh] 82)) [] [] := Upd.alloc0 w5 _ []
            have HZ := Lib.hid (show _ ∧ _ ∧ _ ∧ _ from ⟨OwnRow.frame hown5 (ud.same (OwnRow.lt hown5) (by simp)), hrb, ((Upd.refl wa []).drew.trans hu5).trans ub, k6⟩)
            clear hown5 hrb hu5 ub ud k5 k6
            obtain ⟨g5, hg5⟩ : ∃ z, z = w5.heap.size := ⟨_, rfl⟩
            obtain ⟨wz, hwz⟩ : ∃ z, z = w5.alloc (.cells #[.string s, .int .i64 sh] 82) := ⟨_, rfl⟩
            rw [← hwz] at HZ ⊢
            rw [← hg5] at HZ ⊢
            clear hwz hg5
            refine wpAnyM_one (fuel := 4) (i := 13) (by kernel_rfl) (by rfl) (fun K hK => ?_)
            obtain ⟨hoz, hrz, huz, kz⟩ := HZ.out
            obtain ⟨m1, hm1, hs1⟩ := hrz.src (P := Tryd.prog) (tx := 53) Tryd.underlying53 (by intro u hu; simp only [List.mem_cons, List.not_mem_nil, or_false] at hu; rcases hu with rfl | rfl <;> rfl)
            obtain rfl : m1 = 1 := by simp at hm1; omega
            have hl5 : (([] : List Value) ++ (T.mv.take p).flatMap mcell).length ≤ 100 := by
              rw [List.nil_append, mcell_len, List.length_take]; omega
            refine wpList_app rfl _ _ 53 53 rfl 2 _ _ _ rfl hoz _ i0 _ Tryd.underlying53 hi0 hz0 hz1 rfl _ _ _ rfl hs1 (fun n hn => by rw [hz2]; omega) ?_
            intro a6 n6 c6 w6 D6 hown6 hu6
            have k7 := upd_cell (huz.trans hu6) k2
            go_wp2_with fail
            refine hK _ _ k7 ?_
            clear hK
            refine wpAnyM_one (fuel := 3) (i := 20) (by kernel_rfl) (by rfl) (fun K hK => ?_)
            have hR3 := HX.out.2.2.1.frame ((huz.trans hu6).same HX.out.2.2.1.lt (by simp))
            obtain ⟨m2, hm2, hs2⟩ := hR3.src (P := Tryd.prog) (tx := 53) Tryd.underlying53 (mcell_one _)
            rw [mcell_len, List.length_drop] at hm2
            refine wpList_app rfl _ _ 53 53 rfl 2 _ _ _ rfl hown6 _ i0 _ Tryd.underlying53 hi0 hz0 hz1 rfl _ _ _ rfl hs2 (fun n hn => by rw [List.length_append] at hn; simp at hn hl5; rw [hz2]; omega) ?_
            intro a7 n7 c7 w7 D7 hown7 hu7
            have hadd := (((HX.out.1.addRow hown7 ((huz.trans hu6).trans hu7)).third).drop).swap
            have hb7 := hadd.blk
            have c7t := cell_of hb7 2 rfl
            have c71 := cell_of hb7 1 rfl
            have y72 := frz_of hb7 2
            have y71 := frz_of hb7 1
            have k8 := upd_cell ((huz.trans hu6).trans hu7) k2
            have hset := hadd.set 2 (.slice a7 n7 c7)
            have HF := Lib.hid hset
            go_wp2_with fail
            refine hK _ _ k8 ?_
            clear hK
            refine wpAnyM_of_any _ _ _ _ (by decide) ?_
            refine wpAny_list [21, 22, 23] (fuel := 0) (by kernel_rfl) ?_
            simp only [List.filterMap_cons, List.filterMap_nil, List.getElem?_toArray, List.getElem?_cons_succ, List.getElem?_cons_zero]
            have hb8 := hset.blk
            have c81 := cell_of hb8 1 rfl
            rw [show ((#[Value.int .i64 T.n, .int .i64 T.ver, .slice (some y) T.mv.length cp] : Array Value).setIfInBounds 2 (.slice a7 n7 c7))[1] = .int .i64 vr by rw [← HV.out]; rfl] at c81
            have y81 := frz_of hb8 1
            have hfin := Lib.hid (hset.set 1 (.int .i64 (vr + 1)))
            clear hoz hrz huz kz hs1 hs2 hown6 hown7 hu6 hu7 hadd hb7 hset hb8 c71 hR3
            go_wp2_with fail
            go_ret
            rw [HM.out]
            refine ⟨rfl, .slice a7 n7 c7, ?_⟩
            have e := HV.out
            have hf := hfin.out
            subst e
            have hsv : Value.string s = sv s.data.toList := by unfold sv; simp
            have hcells : (insM s.data.toList sh T.mv).flatMap mcell = ([] ++ (T.mv.take p).flatMap mcell ++ [.string s, .int .i64 sh]) ++ (T.mv.drop p).flatMap mcell := by
              rw [HNW.out, hsv]
              simp [mcell]
            dsimp only
            rw [hcells]
            exact hf
          case' inr =>
            refine ⟨_, by rfl, fun K hK => ?_⟩
            go_wp2_with fail
            have ub := Upd.alloc0 wa.drew (.cells #[.string s, .int .i64 sh] 82) []
            have hrb := cell2_new wa.drew (.string s) (.int .i64 sh) 82
            have k4 := upd_cell ub (show wa.drew.cell? _ = _ from k2)
            refine hK _ (wa.drew.alloc (.cells #[.string s, .int .i64 sh] 82)) k4 ?_
            clear hK
            have uc := (Upd.refl wa []).drew.trans ub
            obtain ⟨g5, hg5⟩ : ∃ z, z = wa.drew.heap.size := ⟨_, rfl⟩
            obtain ⟨w4, hw4⟩ : ∃ z, z = wa.drew.alloc (.cells #[.string s, .int .i64 sh] 82) := ⟨_, rfl⟩
            rw [← hw4] at hrb k4 uc ⊢
            rw [← hg5] at hrb
            first | rw [← hg5] | (rw [show wa.heap.size = g5 from hg5.symm])
            clear ub hw4 hg5
            refine wpAnyM_one (fuel := 5) (i := 8) (by kernel_rfl) (by rfl) (fun K hK => ?_)
            obtain ⟨n1, hn1, hsrc⟩ := (HX.out.2.1.frame (uc.same HX.out.2.1.lt (by simp))).src (P := Tryd.prog) (tx := 53) Tryd.underlying53 (mcell_one _)
            rw [mcell_len, List.length_take] at hn1
            have HBD := Lib.hid (show ∀ n, ([] : List Value).length = n * 2 → n + n1 ≤ 140737488355328 ∧ (n + n1) * i0.bytes ≤ 140737488355328 from fun n hn => by simp at hn; rw [hz2]; omega)
            clear hn1
            refine wpList_app rfl _ _ 53 53 rfl 2 _ _ _ rfl (OwnRow.zero _ _ _) _ i0 _ Tryd.underlying53 hi0 hz0 hz1 rfl _ _ _ rfl hsrc HBD.out ?_
            intro a5 n5 c5 w5 D5 hown5 hu5
            have k5 := upd_cell hu5 k4
            have HZ := Lib.hid (show _ ∧ _ ∧ _ ∧ _ from ⟨hown5, hrb.frame (hu5.same hrb.lt (by simp)), uc.trans hu5, k5⟩)
            clear hown5 hrb hu5 uc k4 hsrc HBD
            go_wp2_with fail
            refine hK _ _ k5 ?_
            clear hK k5
            refine wpAnyM_one (fuel := 4) (i := 13) (by kernel_rfl) (by rfl) (fun K hK => ?_)
            obtain ⟨hoz, hrz, huz, kz⟩ := HZ.out
            obtain ⟨m1, hm1, hs1⟩ := hrz.src (P := Tryd.prog) (tx := 53) Tryd.underlying53 (by intro u hu; simp only [List.mem_cons, List.not_mem_nil, or_false] at hu; rcases hu with rfl | rfl <;> rfl)
            obtain rfl : m1 = 1 := by simp at hm1; omega
            have hl5 : (([] : List Value) ++ (T.mv.take p).flatMap mcell).length ≤ 100 := by
              rw [List.nil_append, mcell_len, List.length_take]; omega
            refine wpList_app rfl _ _ 53 53 rfl 2 _ _ _ rfl hoz _ i0 _ Tryd.underlying53 hi0 hz0 hz1 rfl _ _ _ rfl hs1 (fun n hn => by rw [hz2]; omega) ?_
            intro a6 n6 c6 w6 D6 hown6 hu6
            have k7 := upd_cell (huz.trans hu6) k2
            go_wp2_with fail
            refine hK _ _ k7 ?_
            clear hK
            refine wpAnyM_one (fuel := 3) (i := 20) (by kernel_rfl) (by rfl) (fun K hK => ?_)
            have hR3 := HX.out.2.2.1.frame ((huz.trans hu6).same HX.out.2.2.1.lt (by simp))
            obtain ⟨m2, hm2, hs2⟩ := hR3.src (P := Tryd.prog) (tx := 53) Tryd.underlying53 (mcell_one _)
            rw [mcell_len, List.length_drop] at hm2
            refine wpList_app rfl _ _ 53 53 rfl 2 _ _ _ rfl hown6 _ i0 _ Tryd.underlying53 hi0 hz0 hz1 rfl _ _ _ rfl hs2 (fun n hn => by rw [List.length_append] at hn; simp at hn hl5; rw [hz2]; omega) ?_
            intro a7 n7 c7 w7 D7 hown7 hu7
            have hadd := (((HX.out.1.addRow hown7 ((huz.trans hu6).trans hu7)).third).drop).swap
            have hb7 := hadd.blk
            have c7t := cell_of hb7 2 rfl
            have c71 := cell_of hb7 1 rfl
            have y72 := frz_of hb7 2
            have y71 := frz_of hb7 1
            have k8 := upd_cell ((huz.trans hu6).trans hu7) k2
            have hset := hadd.set 2 (.slice a7 n7 c7)
            have HF := Lib.hid hset
            go_wp2_with fail
            refine hK _ _ k8 ?_
            clear hK
            refine wpAnyM_of_any _ _ _ _ (by decide) ?_
            refine wpAny_list [21, 22, 23] (fuel := 0) (by kernel_rfl) ?_
            simp only [List.filterMap_cons, List.filterMap_nil, List.getElem?_toArray, List.getElem?_cons_succ, List.getElem?_cons_zero]
            have hb8 := hset.blk
            have c81 := cell_of hb8 1 rfl
            rw [show ((#[Value.int .i64 T.n, .int .i64 T.ver, .slice (some y) T.mv.length cp] : Array Value).setIfInBounds 2 (.slice a7 n7 c7))[1] = .int .i64 vr by rw [← HV.out]; rfl] at c81
            have y81 := frz_of hb8 1
            have hfin := Lib.hid (hset.set 1 (.int .i64 (vr + 1)))
            clear hoz hrz huz kz hs1 hs2 hown6 hown7 hu6 hu7 hadd hb7 hset hb8 c71 hR3
            go_wp2_with fail
            go_ret
            rw [HM.out]
            refine ⟨rfl, .slice a7 n7 c7, ?_⟩
            have e := HV.out
            have hf := hfin.out
            subst e
            have hsv : Value.string s = sv s.data.toList := by unfold sv; simp
            have hcells : (insM s.data.toList sh T.mv).flatMap mcell = ([] ++ (T.mv.take p).flatMap mcell ++ [.string s, .int .i64 sh]) ++ (T.mv.drop p).flatMap mcell := by
              rw [HNW.out, hsv]
              simp [mcell]
            dsimp only
            rw [hcells]
            exact hf
        case' inr =>
          refine ⟨_, by rfl, fun K hK => ?_⟩
          go_wp2_with fail
          have ub := (Upd.alloc0 w1 (.cells #[.string s, .int .i64 sh] 82) []).drew
          have hrb0 := cell2_new w1 (.string s) (.int .i64 sh) 82
          have hrb := hrb0.frame ((Upd.refl _ []).drew.same hrb0.lt (by simp))
          clear hrb0
          have k4 := upd_cell ub c2
          refine hK _ (w1.alloc (.cells #[.string s, .int .i64 sh] 82)).drew k4 ?_
          clear hK
          obtain ⟨g5, hg5⟩ : ∃ z, z = w1.heap.size := ⟨_, rfl⟩
          obtain ⟨w4, hw4⟩ : ∃ z, z = (w1.alloc (.cells #[.string s, .int .i64 sh] 82)).drew := ⟨_, rfl⟩
          rw [← hw4] at hrb k4 ub ⊢
          rw [← hg5] at hrb ⊢
          clear hw4 hg5
          refine wpAnyM_one (fuel := 6) (i := 1) (by kernel_rfl) (by rfl) (fun K hK => ?_)
          go_wp2_with fail
          have ua0 := Upd.alloc0 w4 (.cells #[] 82) []
          have k2 := upd_cell ua0 k4
          refine hK _ _ k2 ?_
          clear hK
          obtain ⟨wa, hwa⟩ : ∃ z, z = w4.alloc (.cells #[] 82) := ⟨_, rfl⟩
          rw [← hwa] at ua0 k2 ⊢
          have ua := ub.trans ua0
          have hrc := hrb.frame (ua0.same hrb.lt (by simp))
          obtain ⟨HS, HR1, HR2⟩ := HSS.out
          have HX := Lib.hid (show _ ∧ _ ∧ _ ∧ _ from ⟨HS.keep ua, HR1.frame (ua.same HR1.lt (by simp)), HR2.frame (ua.same HR2.lt (by simp)), ua⟩)
          clear HS HR1 HR2 ua hwa ub ua0 hrb k4
          refine wpAnyM_one (fuel := 5) (i := 8) (by kernel_rfl) (by rfl) (fun K hK => ?_)
          obtain ⟨n1, hn1, hsrc⟩ := HX.out.2.1.src (P := Tryd.prog) (tx := 53) Tryd.underlying53 (mcell_one _)
          rw [mcell_len, List.length_take] at hn1
          have HBD := Lib.hid (show ∀ n, ([] : List Value).length = n * 2 → n + n1 ≤ 140737488355328 ∧ (n + n1) * i0.bytes ≤ 140737488355328 from fun n hn => by simp at hn; rw [hz2]; omega)
          clear hn1
          refine wpList_app rfl _ _ 53 53 rfl 2 _ _ _ rfl (OwnRow.zero _ _ _) _ i0 _ Tryd.underlying53 hi0 hz0 hz1 rfl _ _ _ rfl hsrc HBD.out ?_
          intro a5 n5 c5 w5 D5 hown5 hu5
          have k5 := upd_cell hu5 k2
          have HZ := Lib.hid (show _ ∧ _ ∧ _ ∧ _ from ⟨hown5, hrc.frame (hu5.same hrc.lt (by simp)), hu5, k5⟩)
          clear hown5 hrc hu5 hsrc HBD
          go_wp2_with fail
          refine hK _ _ k5 ?_
          clear hK k5
          refine wpAnyM_one (fuel := 4) (i := 13) (by kernel_rfl) (by rfl) (fun K hK => ?_)
          obtain ⟨hoz, hrz, huz, kz⟩ := HZ.out
          obtain ⟨m1, hm1, hs1⟩ := hrz.src (P := Tryd.prog) (tx := 53) Tryd.underlying53 (by intro u hu; simp only [List.mem_cons, List.not_mem_nil, or_false] at hu; rcases hu with rfl | rfl <;> rfl)
          obtain rfl : m1 = 1 := by simp at hm1; omega
          have hl5 : (([] : List Value) ++ (T.mv.take p).flatMap mcell).length ≤ 100 := by
            rw [List.nil_append, mcell_len, List.length_take]; omega
          refine wpList_app rfl _ _ 53 53 rfl 2 _ _ _ rfl hoz _ i0 _ Tryd.underlying53 hi0 hz0 hz1 rfl _ _ _ rfl hs1 (fun n hn => by rw [hz2]; omega) ?_
          intro a6 n6 c6 w6 D6 hown6 hu6
          have k7 := upd_cell (huz.trans hu6) k2
          go_wp2_with fail
          refine hK _ _ k7 ?_
          clear hK
          refine wpAnyM_one (fuel := 3) (i := 20) (by kernel_rfl) (by rfl) (fun K hK => ?_)
          have hR3 := HX.out.2.2.1.frame ((huz.trans hu6).same HX.out.2.2.1.lt (by simp))
          obtain ⟨m2, hm2, hs2⟩ := hR3.src (P := Tryd.prog) (tx := 53) Tryd.underlying53 (mcell_one _)
          rw [mcell_len, List.length_drop] at hm2
          refine wpList_app rfl _ _ 53 53 rfl 2 _ _ _ rfl hown6 _ i0 _ Tryd.underlying53 hi0 hz0 hz1 rfl _ _ _ rfl hs2 (fun n hn => by rw [List.length_append] at hn; simp at hn hl5; rw [hz2]; omega) ?_
          intro a7 n7 c7 w7 D7 hown7 hu7
          have hadd := (((HX.out.1.addRow hown7 ((huz.trans hu6).trans hu7)).third).drop).swap
          have hb7 := hadd.blk
          have c7t := cell_of hb7 2 rfl
          have c71 := cell_of hb7 1 rfl
          have y72 := frz_of hb7 2
          have y71 := frz_of hb7 1
          have k8 := upd_cell ((huz.trans hu6).trans hu7) k2
          have hset := hadd.set 2 (.slice a7 n7 c7)
          have HF := Lib.hid hset
          go_wp2_with fail
          refine hK _ _ k8 ?_
          clear hK
          refine wpAnyM_of_any _ _ _ _ (by decide) ?_
          refine wpAny_list [21, 22, 23] (fuel := 0) (by kernel_rfl) ?_
          simp only [List.filterMap_cons, List.filterMap_nil, List.getElem?_toArray, List.getElem?_cons_succ, List.getElem?_cons_zero]
          have hb8 := hset.blk
          have c81 := cell_of hb8 1 rfl
          rw [show ((#[Value.int .i64 T.n, .int .i64 T.ver, .slice (some y) T.mv.length cp] : Array Value).setIfInBounds 2 (.slice a7 n7 c7))[1] = .int .i64 vr by rw [← HV.out]; rfl] at c81
          have y81 := frz_of hb8 1
          have hfin := Lib.hid (hset.set 1 (.int .i64 (vr + 1)))
          clear hoz hrz huz kz hs1 hs2 hown6 hown7 hu6 hu7 hadd hb7 hset hb8 c71 hR3
          go_wp2_with fail
          go_ret
          rw [HM.out]
          refine ⟨rfl, .slice a7 n7 c7, ?_⟩
          have e := HV.out
          have hf := hfin.out
          subst e
          have hsv : Value.string s = sv s.data.toList := by unfold sv; simp
          have hcells : (insM s.data.toList sh T.mv).flatMap mcell = ([] ++ (T.mv.take p).flatMap mcell ++ [.string s, .int .i64 sh]) ++ (T.mv.drop p).flatMap mcell := by
            rw [HNW.out, hsv]
            simp [mcell]
          dsimp only
          rw [hcells]
          exact hf
    have hkey : ∀ hp : p < T.mv.length, ¬ T.mv[p].1 < s.data.toList ∧ T.mv[p].1 ≠ s.data.toList := fun h => absurd h hltp
    obtain ⟨hnew, -⟩ := ins_new (v := sh) HRI.out hp HA.out hkey
    have HNW := Lib.hid hnew
    clear hnew hkey
    obtain ⟨u, hS⟩ := H.out
    have hbS := hS.blk
    have hc2 := cell_of hbS 2 rfl
    have hu : u = .slice a T.mv.length cp := by
      have := hc2.symm.trans c2
      injection this
    subst hu
    obtain ⟨DS, hDS⟩ := hS.has (T := ThRow 2 (.slice a T.mv.length cp) (T.mv.flatMap mcell)) (by simp)
    have hDS : OwnRow w1 2 (.slice a T.mv.length cp) (T.mv.flatMap mcell) DS := hDS
    obtain ⟨ES, hRS, -⟩ := hDS.read
    have hRS' : ReadRow w1 i0.size (.slice a T.mv.length cp) (T.mv.flatMap mcell) ES := by rw [hz1]; exact hRS
    obtain ⟨a', hsl2, E', hR2, hE'⟩ := slice_fromG (P := Tryd.prog) Tryd.underlying53 hi0 (by rw [hz1]; decide) hRS' p hp
    rw [hz1, mcell_drop] at hR2
    obtain ⟨h1D, hpc⟩ := hDS.take hp
    rw [mcell_take] at h1D
    obtain ⟨E1, hR1, -⟩ := h1D.read
    have hsl1 : ∀ W : World, (Instr.slice 53 (.slice a T.mv.length cp) none (some (.int .i64 (p : Int))) none).run Tryd.prog W = .ok (.slice a p cp) W := fun W => run_slice_hi (P := Tryd.prog) Tryd.underlying53 hi0 a T.mv.length cp p (by omega) W
    have hsl2' : ∀ W : World, (Instr.slice 53 (.slice a T.mv.length cp) (some (.int .i64 (p : Int))) none none).run Tryd.prog W = .ok (.slice a' (T.mv.length - p) (cp - p)) W := fun W => hsl2 W
    have HSS := Lib.hid (show _ ∧ _ ∧ _ from ⟨hS, hR1, hR2⟩)
    clear hS hbS hc2 hDS hRS hRS' hR2 h1D hR1 hE' hsl2
    go_wp2_with fail
    refine wp_region_M (fun W => W.cell? ⟨t, 2, none⟩ = some (.slice a T.mv.length cp)) 21 (by kernel_rfl) ?_
    refine wpAnyM_take (by kernel_rfl) (by intro c a d v w h; cases d <;> exact h) [(0, false), (2, false), (3, false), (4, false), (5, true), (6, false), (7, false), (9, false), (10, false), (11, false), (14, false), (15, false), (16, false), (17, true), (18, false), (19, false)] (fuel := 8) (by kernel_rfl) ?_
    apply Exists.intro; refine ⟨?_, c2, ?_⟩
    · iterate 16 ((first | (apply yieldN; (· (simp only [List.getElem?_toArray, List.getElem?_cons_succ, List.getElem?_cons_zero]; try rfl)); (· rfl)) | ((first | apply yieldP | apply yieldL); (· (simp only [List.getElem?_toArray, List.getElem?_cons_succ, List.getElem?_cons_zero]; try rfl)); (· rfl); (· (intros; go_simp; try with_reducible rfl)))); (· (simp only [Act.put, List.setIfInBounds_toArray, List.set_cons_zero, List.set_cons_succ]; try rfl)))
      exact rfl
    refine wpAnyM_each (fuel := 7) [1, 12] (by kernel_rfl) (by simp) (fun i hi => ?_)
    simp only [List.mem_cons, List.not_mem_nil, or_false] at hi
    rcases hi with rfl | rfl
    case' inl =>
      refine ⟨_, by rfl, fun K hK => ?_⟩
      go_wp2_with fail
      have ua := Upd.alloc0 w1 (.cells #[] 82) []
      have k2 := upd_cell ua c2
      refine hK _ _ k2 ?_
      clear hK
      obtain ⟨wa, hwa⟩ : ∃ z, z = w1.alloc (.cells #[] 82) := ⟨_, rfl⟩
      rw [← hwa] at ua k2 ⊢
      obtain ⟨HS, HR1, HR2⟩ := HSS.out
      have HX := Lib.hid (show _ ∧ _ ∧ _ ∧ _ from ⟨HS.keep ua, HR1.frame (ua.same HR1.lt (by simp)), HR2.frame (ua.same HR2.lt (by simp)), ua⟩)
      clear HS HR1 HR2 ua hwa
      refine wpAnyM_each (fuel := 6) [8, 12] (by kernel_rfl) (by simp) (fun i hi => ?_)
      simp only [List.mem_cons, List.not_mem_nil, or_false] at hi
      rcases hi with rfl | rfl
      case' inl =>
        refine ⟨_, by rfl, fun K hK => ?_⟩
        obtain ⟨n1, hn1, hsrc⟩ := (HX.out.2.1.frame ((Upd.refl wa []).drew.same HX.out.2.1.lt (by simp))).src (P := Tryd.prog) (tx := 53) Tryd.underlying53 (mcell_one _)
        rw [mcell_len, List.length_take] at hn1
        have HBD := Lib.hid (show ∀ n, ([] : List Value).length = n * 2 → n + n1 ≤ 140737488355328 ∧ (n + n1) * i0.bytes ≤ 140737488355328 from fun n hn => by simp at hn; rw [hz2]; omega)
        clear hn1
        refine wpList_app rfl _ _ 53 53 rfl 2 _ _ _ rfl (OwnRow.zero _ _ _) _ i0 _ Tryd.underlying53 hi0 hz0 hz1 rfl _ _ _ rfl hsrc HBD.out ?_
        intro a5 n5 c5 w5 D5 hown5 hu5
        have k5 := upd_cell hu5 (show wa.drew.cell? _ = _ from k2)
        go_wp2_with fail
        refine hK _ _ k5 ?_
        clear hK
        refine wpAnyM_one (fuel := 5) (i := 12) (by kernel_rfl) (by rfl) (fun K hK => ?_)
        go_wp2_with fail
        have ub := Upd.alloc0 w5 (.cells #[.string s, .int .i64 sh] 82) D5
        have hrb := cell2_new w5 (.string s) (.int .i64 sh) 82
        refine hK _ (w5.alloc (.cells #[.string s, .int .i64 sh] 82)) (upd_cell (Upd.alloc0 w5 _ []) k5) ?_
        clear hK
        have k6 := upd_cell (Upd.alloc0 w5 (.cells #[.string s, .int .i64 sh] 82) []) k5
        have ud : Upd w5 (w5.alloc (.cells #[.string s, .int .i64 sh] 82)) [] [] := Upd.alloc0 w5 _ []
        have HZ := Lib.hid (show _ ∧ _ ∧ _ ∧ _ from ⟨OwnRow.frame hown5 (ud.same (OwnRow.lt hown5) (by simp)), hrb, ((Upd.refl wa []).drew.trans hu5).trans ub, k6⟩)
        clear hown5 hrb hu5 ub ud k5 k6
        obtain ⟨g5, hg5⟩ : ∃ z, z = w5.heap.size := ⟨_, rfl⟩
        obtain ⟨wz, hwz⟩ : ∃ z, z = w5.alloc (.cells #[.string s, .int .i64 sh] 82) := ⟨_, rfl⟩
        rw [← hwz] at HZ ⊢
        rw [← hg5] at HZ ⊢
        clear hwz hg5
        refine wpAnyM_one (fuel := 4) (i := 13) (by kernel_rfl) (by rfl) (fun K hK => ?_)
        obtain ⟨hoz, hrz, huz, kz⟩ := HZ.out
        obtain ⟨m1, hm1, hs1⟩ := hrz.src (P := Tryd.prog) (tx := 53) Tryd.underlying53 (by intro u hu; simp only [List.mem_cons, List.not_mem_nil, or_false] at hu; rcases hu with rfl | rfl <;> rfl)
        obtain rfl : m1 = 1 := by simp at hm1; omega
        have hl5 : (([] : List Value) ++ (T.mv.take p).flatMap mcell).length ≤ 100 := by
          rw [List.nil_append, mcell_len, List.length_take]; omega
        refine wpList_app rfl _ _ 53 53 rfl 2 _ _ _ rfl hoz _ i0 _ Tryd.underlying53 hi0 hz0 hz1 rfl _ _ _ rfl hs1 (fun n hn => by rw [hz2]; omega) ?_
        intro a6 n6 c6 w6 D6 hown6 hu6
        have k7 := upd_cell (huz.trans hu6) k2
        go_wp2_with fail
        refine hK _ _ k7 ?_
        clear hK
        refine wpAnyM_one (fuel := 3) (i := 20) (by kernel_rfl) (by rfl) (fun K hK => ?_)
        have hR3 := HX.out.2.2.1.frame ((huz.trans hu6).same HX.out.2.2.1.lt (by simp))
        obtain ⟨m2, hm2, hs2⟩ := hR3.src (P := Tryd.prog) (tx := 53) Tryd.underlying53 (mcell_one _)
        rw [mcell_len, List.length_drop] at hm2
        refine wpList_app rfl _ _ 53 53 rfl 2 _ _ _ rfl hown6 _ i0 _ Tryd.underlying53 hi0 hz0 hz1 rfl _ _ _ rfl hs2 (fun n hn => by rw [List.length_append] at hn; simp at hn hl5; rw [hz2]; omega) ?_
        intro a7 n7 c7 w7 D7 hown7 hu7
        have hadd := (((HX.out.1.addRow hown7 ((huz.trans hu6).trans hu7)).third).drop).swap
        have hb7 := hadd.blk
        have c7t := cell_of hb7 2 rfl
        have c71 := cell_of hb7 1 rfl
        have y72 := frz_of hb7 2
        have y71 := frz_of hb7 1
        have k8 := upd_cell ((huz.trans hu6).trans hu7) k2
        have hset := hadd.set 2 (.slice a7 n7 c7)
        have HF := Lib.hid hset
        go_wp2_with fail
        refine hK _ _ k8 ?_
        clear hK
        refine wpAnyM_of_any _ _ _ _ (by decide) ?_
        refine wpAny_list [21, 22, 23] (fuel := 0) (by kernel_rfl) ?_
        simp only [List.filterMap_cons, List.filterMap_nil, List.getElem?_toArray, List.getElem?_cons_succ, List.getElem?_cons_zero]
        have hb8 := hset.blk
        have c81 := cell_of hb8 1 rfl
        rw [show ((#[Value.int .i64 T.n, .int .i64 T.ver, .slice a T.mv.length cp] : Array Value).setIfInBounds 2 (.slice a7 n7 c7))[1] = .int .i64 vr by rw [← HV.out]; rfl] at c81
        have y81 := frz_of hb8 1
        have hfin := Lib.hid (hset.set 1 (.int .i64 (vr + 1)))
        clear hoz hrz huz kz hs1 hs2 hown6 hown7 hu6 hu7 hadd hb7 hset hb8 c71 hR3
        go_wp2_with fail
        go_ret
        rw [HM.out]
        refine ⟨rfl, .slice a7 n7 c7, ?_⟩
        have e := HV.out
        have hf := hfin.out
        subst e
        have hsv : Value.string s = sv s.data.toList := by unfold sv; simp
        have hcells : (insM s.data.toList sh T.mv).flatMap mcell = ([] ++ (T.mv.take p).flatMap mcell ++ [.string s, .int .i64 sh]) ++ (T.mv.drop p).flatMap mcell := by
          rw [HNW.out, hsv]
          simp [mcell]
        dsimp only
        rw [hcells]
        exact hf
      case' inr =>
        refine ⟨_, by rfl, fun K hK => ?_⟩
        go_wp2_with fail
        have ub := Upd.alloc0 wa.drew (.cells #[.string s, .int .i64 sh] 82) []
        have hrb := cell2_new wa.drew (.string s) (.int .i64 sh) 82
        have k4 := upd_cell ub (show wa.drew.cell? _ = _ from k2)
        refine hK _ (wa.drew.alloc (.cells #[.string s, .int .i64 sh] 82)) k4 ?_
        clear hK
        have uc := (Upd.refl wa []).drew.trans ub
        obtain ⟨g5, hg5⟩ : ∃ z, z = wa.drew.heap.size := ⟨_, rfl⟩
        obtain ⟨w4, hw4⟩ : ∃ z, z = wa.drew.alloc (.cells #[.string s, .int .i64 sh] 82) := ⟨_, rfl⟩
        rw [← hw4] at hrb k4 uc ⊢
        rw [← hg5] at hrb
        first | rw [← hg5] | (rw [show wa.heap.size = g5 from hg5.symm])
        clear ub hw4 hg5
        refine wpAnyM_one (fuel := 5) (i := 8) (by kernel_rfl) (by rfl) (fun K hK => ?_)
        obtain ⟨n1, hn1, hsrc⟩ := (HX.out.2.1.frame (uc.same HX.out.2.1.lt (by simp))).src (P := Tryd.prog) (tx := 53) Tryd.underlying53 (mcell_one _)
        rw [mcell_len, List.length_take] at hn1
        have HBD := Lib.hid (show ∀ n, ([] : List Value).length = n * 2 → n + n1 ≤ 140737488355328 ∧ (n + n1) * i0.bytes ≤ 140737488355328 from fun n hn => by simp at hn; rw [hz2]; omega)
        clear hn1
        refine wpList_app rfl _ _ 53 53 rfl 2 _ _ _ rfl (OwnRow.zero _ _ _) _ i0 _ Tryd.underlying53 hi0 hz0 hz1 rfl _ _ _ rfl hsrc HBD.out ?_
        intro a5 n5 c5 w5 D5 hown5 hu5
        have k5 := upd_cell hu5 k4
        have HZ := Lib.hid (show _ ∧ _ ∧ _ ∧ _ from ⟨hown5, hrb.frame (hu5.same hrb.lt (by simp)), uc.trans hu5, k5⟩)
        clear hown5 hrb hu5 uc k4 hsrc HBD
        go_wp2_with fail
        refine hK _ _ k5 ?_
        clear hK k5
        refine wpAnyM_one (fuel := 4) (i := 13) (by kernel_rfl) (by rfl) (fun K hK => ?_)
        obtain ⟨hoz, hrz, huz, kz⟩ := HZ.out
        obtain ⟨m1, hm1, hs1⟩ := hrz.src (P := Tryd.prog) (tx := 53) Tryd.underlying53 (by intro u hu; simp only [List.mem_cons, List.not_mem_nil, or_false] at hu; rcases hu with rfl | rfl <;> rfl)
        obtain rfl : m1 = 1 := by simp at hm1; omega
        have hl5 : (([] : List Value) ++ (T.mv.take p).flatMap mcell).length ≤ 100 := by
          rw [List.nil_append, mcell_len, List.length_take]; omega
        refine wpList_app rfl _ _ 53 53 rfl 2 _ _ _ rfl hoz _ i0 _ Tryd.underlying53 hi0 hz0 hz1 rfl _ _ _ rfl hs1 (fun n hn => by rw [hz2]; omega) ?_
        intro a6 n6 c6 w6 D6 hown6 hu6
        have k7 := upd_cell (huz.trans hu6) k2
        go_wp2_with fail
        refine hK _ _ k7 ?_
        clear hK
        refine wpAnyM_one (fuel := 3) (i := 20) (by kernel_rfl) (by rfl) (fun K hK => ?_)
        have hR3 := HX.out.2.2.1.frame ((huz.trans hu6).same HX.out.2.2.1.lt (by simp))
        obtain ⟨m2, hm2, hs2⟩ := hR3.src (P := Tryd.prog) (tx := 53) Tryd.underlying53 (mcell_one _)
        rw [mcell_len, List.length_drop] at hm2
        refine wpList_app rfl _ _ 53 53 rfl 2 _ _ _ rfl hown6 _ i0 _ Tryd.underlying53 hi0 hz0 hz1 rfl _ _ _ rfl hs2 (fun n hn => by rw [List.length_append] at hn; simp at hn hl5; rw [hz2]; omega) ?_
        intro a7 n7 c7 w7 D7 hown7 hu7
        have hadd := (((HX.out.1.addRow hown7 ((huz.trans hu6).trans hu7)).third).drop).swap
        have hb7 := hadd.blk
        have c7t := cell_of hb7 2 rfl
        have c71 := cell_of hb7 1 rfl
        have y72 := frz_of hb7 2
        have y71 := frz_of hb7 1
        have k8 := upd_cell ((huz.trans hu6).trans hu7) k2
        have hset := hadd.set 2 (.slice a7 n7 c7)
        have HF := Lib.hid hset
        go_wp2_with fail
        refine hK _ _ k8 ?_
        clear hK
        refine wpAnyM_of_any _ _ _ _ (by decide) ?_
        refine wpAny_list [21, 22, 23] (fuel := 0) (by kernel_rfl) ?_
        simp only [List.filterMap_cons, List.filterMap_nil, List.getElem?_toArray, List.getElem?_cons_succ, List.getElem?_cons_zero]
        have hb8 := hset.blk
        have c81 := cell_of hb8 1 rfl
        rw [show ((#[Value.int .i64 T.n, .int .i64 T.ver, .slice a T.mv.length cp] : Array Value).setIfInBounds 2 (.slice a7 n7 c7))[1] = .int .i64 vr by rw [← HV.out]; rfl] at c81
        have y81 := frz_of hb8 1
        have hfin := Lib.hid (hset.set 1 (.int .i64 (vr + 1)))
        clear hoz hrz huz kz hs1 hs2 hown6 hown7 hu6 hu7 hadd hb7 hset hb8 c71 hR3
        go_wp2_with fail
        go_ret
        rw [HM.out]
        refine ⟨rfl, .slice a7 n7 c7, ?_⟩
        have e := HV.out
        have hf := hfin.out
        subst e
        have hsv : Value.string s = sv s.data.toList := by unfold sv; simp
        have hcells : (insM s.data.toList sh T.mv).flatMap mcell = ([] ++ (T.mv.take p).flatMap mcell ++ [.string s, .int .i64 sh]) ++ (T.mv.drop p).flatMap mcell := by
          rw [HNW.out, hsv]
          simp [mcell]
        dsimp only
        rw [hcells]
        exact hf
    case' inr =>
      refine ⟨_, by rfl, fun K hK => ?_⟩
      go_wp2_with fail
      have ub := (Upd.alloc0 w1 (.cells #[.string s, .int .i64 sh] 82) []).drew
      have hrb0 := cell2_new w1 (.string s) (.int .i64 sh) 82
      have hrb := hrb0.frame ((Upd.refl _ []).drew.same hrb0.lt (by simp))
      clear hrb0
      have k4 := upd_cell ub c2
      refine hK _ (w1.alloc (.cells #[.string s, .int .i64 sh] 82)).drew k4 ?_
      clear hK
      obtain ⟨g5, hg5⟩ : ∃ z, z = w1.heap.size := ⟨_, rfl⟩
      obtain ⟨w4, hw4⟩ : ∃ z, z = (w1.alloc (.cells #[.string s, .int .i64 sh] 82)).drew := ⟨_, rfl⟩
      rw [← hw4] at hrb k4 ub ⊢
      rw [← hg5] at hrb ⊢
      clear hw4 hg5
      refine wpAnyM_one (fuel := 6) (i := 1) (by kernel_rfl) (by rfl) (fun K hK => ?_)
      go_wp2_with fail
      have ua0 := Upd.alloc0 w4 (.cells #[] 82) []
      have k2 := upd_cell ua0 k4
      refine hK _ _ k2 ?_
      clear hK
      obtain ⟨wa, hwa⟩ : ∃ z, z = w4.alloc (.cells #[] 82) := ⟨_, rfl⟩
      rw [← hwa] at ua0 k2 ⊢
      have ua := ub.trans ua0
      have hrc := hrb.frame (ua0.same hrb.lt (by simp))
      obtain ⟨HS, HR1, HR2⟩ := HSS.out
      have HX := Lib.hid (show _ ∧ _ ∧ _ ∧ _ from ⟨HS.keep ua, HR1.frame (ua.same HR1.lt (by simp)), HR2.frame (ua.same HR2.lt (by simp)), ua⟩)
      clear HS HR1 HR2 ua hwa ub ua0 hrb k4
      refine wpAnyM_one (fuel := 5) (i := 8) (by kernel_rfl) (by rfl) (fun K hK => ?_)
      obtain ⟨n1, hn1, hsrc⟩ := HX.out.2.1.src (P := Tryd.prog) (tx := 53) Tryd.underlying53 (mcell_one _)
      rw [mcell_len, List.length_take] at hn1
      have HBD := Lib.hid (show ∀ n, ([] : List Value).length = n * 2 → n + n1 ≤ 140737488355328 ∧ (n + n1) * i0.bytes ≤ 140737488355328 from fun n hn => by simp at hn; rw [hz2]; omega)
      clear hn1
      refine wpList_app rfl _ _ 53 53 rfl 2 _ _ _ rfl (OwnRow.zero _ _ _) _ i0 _ Tryd.underlying53 hi0 hz0 hz1 rfl _ _ _ rfl hsrc HBD.out ?_
      intro a5 n5 c5 w5 D5 hown5 hu5
      have k5 := upd_cell hu5 k2
      have HZ := Lib.hid (show _ ∧ _ ∧ _ ∧ _ from ⟨hown5, hrc.frame (hu5.same hrc.lt (by simp)), hu5, k5⟩)
      clear hown5 hrc hu5 hsrc HBD
      go_wp2_with fail
      refine hK _ _ k5 ?_
      clear hK k5
      refine wpAnyM_one (fuel := 4) (i := 13) (by kernel_rfl) (by rfl) (fun K hK => ?_)
      obtain ⟨hoz, hrz, huz, kz⟩ := HZ.out
      obtain ⟨m1, hm1, hs1⟩ := hrz.src (P := Tryd.prog) (tx := 53) Tryd.underlying53 (by intro u hu; simp only [List.mem_cons, List.not_mem_nil, or_false] at hu; rcases hu with rfl | rfl <;> rfl)
      obtain rfl : m1 = 1 := by simp at hm1; omega
      have hl5 : (([] : List Value) ++ (T.mv.take p).flatMap mcell).length ≤ 100 := by
        rw [List.nil_append, mcell_len, List.length_take]; omega
      refine wpList_app rfl _ _ 53 53 rfl 2 _ _ _ rfl hoz _ i0 _ Tryd.underlying53 hi0 hz0 hz1 rfl _ _ _ rfl hs1 (fun n hn => by rw [hz2]; omega) ?_
      intro a6 n6 c6 w6 D6 hown6 hu6
      have k7 := upd_cell (huz.trans hu6) k2
      go_wp2_with fail
      refine hK _ _ k7 ?_
      clear hK
      refine wpAnyM_one (fuel := 3) (i := 20) (by kernel_rfl) (by rfl) (fun K hK => ?_)
      have hR3 := HX.out.2.2.1.frame ((huz.trans hu6).same HX.out.2.2.1.lt (by simp))
      obtain ⟨m2, hm2, hs2⟩ := hR3.src (P := Tryd.prog) (tx := 53) Tryd.underlying53 (mcell_one _)
      rw [mcell_len, List.length_drop] at hm2
      refine wpList_app rfl _ _ 53 53 rfl 2 _ _ _ rfl hown6 _ i0 _ Tryd.underlying53 hi0 hz0 hz1 rfl _ _ _ rfl hs2 (fun n hn => by rw [List.length_append] at hn; simp at hn hl5; rw [hz2]; omega) ?_
      intro a7 n7 c7 w7 D7 hown7 hu7
      have hadd := (((HX.out.1.addRow hown7 ((huz.trans hu6).trans hu7)).third).drop).swap
      have hb7 := hadd.blk
      have c7t := cell_of hb7 2 rfl
      have c71 := cell_of hb7 1 rfl
      have y72 := frz_of hb7 2
      have y71 := frz_of hb7 1
      have k8 := upd_cell ((huz.trans hu6).trans hu7) k2
      have hset := hadd.set 2 (.slice a7 n7 c7)
      have HF := Lib.hid hset
      go_wp2_with fail
      refine hK _ _ k8 ?_
      clear hK
      refine wpAnyM_of_any _ _ _ _ (by decide) ?_
      refine wpAny_list [21, 22, 23] (fuel := 0) (by kernel_rfl) ?_
      simp only [List.filterMap_cons, List.filterMap_nil, List.getElem?_toArray, List.getElem?_cons_succ, List.getElem?_cons_zero]
      have hb8 := hset.blk
      have c81 := cell_of hb8 1 rfl
      rw [show ((#[Value.int .i64 T.n, .int .i64 T.ver, .slice a T.mv.length cp] : Array Value).setIfInBounds 2 (.slice a7 n7 c7))[1] = .int .i64 vr by rw [← HV.out]; rfl] at c81
      have y81 := frz_of hb8 1
      have hfin := Lib.hid (hset.set 1 (.int .i64 (vr + 1)))
      clear hoz hrz huz kz hs1 hs2 hown6 hown7 hu6 hu7 hadd hb7 hset hb8 c71 hR3
      go_wp2_with fail
      go_ret
      rw [HM.out]
      refine ⟨rfl, .slice a7 n7 c7, ?_⟩
      have e := HV.out
      have hf := hfin.out
      subst e
      have hsv : Value.string s = sv s.data.toList := by unfold sv; simp
      have hcells : (insM s.data.toList sh T.mv).flatMap mcell = ([] ++ (T.mv.take p).flatMap mcell ++ [.string s, .int .i64 sh]) ++ (T.mv.drop p).flatMap mcell := by
        rw [HNW.out, hsv]
        simp [mcell]
      dsimp only
      rw [hcells]
      exact hf
end
end Go.Proofs.YtfncdgnhiinmjaaDoor

/-
  The document's own table: Move, whole.
-/
namespace Go.Proofs.YtfncdgnhiinmjaaDoor
open Go.RowKit Go.Av Go.Sort
section
variable {w0 w : World} {t : Nat} {T : RtS} {R : List Thing} {rows : List (Value × Bs)}
theorem rf_move (h : Rf w0 w t T R rows) (s : ByteArray) (hs : s.size ≤ maxLen) (sh : Int) (hri : RiseM T.mv) (hv1 : 0 ≤ T.ver) (hv2 : T.ver ≤ 1000000) :
    Calls Tryd.prog 24 #[.pointer (some ⟨t, 0, none⟩), .string s, .int .i64 sh] w fun e w' => e = .returned (.int .i64 (moveR T s.data.toList sh).1) ∧ Rf w0 w' t (moveR T s.data.toList sh).2 R rows := by
  cases hb : badR T s.data.toList sh with
  | true =>
    have hm : moveR T s.data.toList sh = (1, T) := by unfold moveR; rw [if_pos hb]
    rw [hm]
    exact rf_bad h s hs sh hb
  | false =>
    cases hl : lookM s.data.toList T.mv with
    | some v => exact rf_old h s hs sh hri hv1 hv2 hb hl
    | none =>
      by_cases h50 : 50 ≤ T.mv.length
      · have hm : moveR T s.data.toList sh = (2, T) := by unfold moveR; rw [if_neg (by rw [hb]; simp), if_pos ⟨hl, h50⟩]
        have := rf_full h s hs sh hb hl h50
        rw [hm] at this ⊢
        exact this
      · exact rf_add h s hs sh hri hv1 hv2 hb hl h50
end
end Go.Proofs.YtfncdgnhiinmjaaDoor

/-
  The document's own table: Split.
-/
namespace Go.Proofs.YtfncdgnhiinmjaaDoor
open Go.RowKit Go.Av
def rfTh (t : Nat) (v : Value) (T : RtS) : List Thing := [ThCell t (.cells #[.int .i64 T.n, .int .i64 T.ver, v] 55 (0, 0)), ThRow 2 v (T.mv.flatMap mcell)]
/-- A grid beside a table. -/
def RfG (w0 w : World) (t : Nat) (S : RtS) (v : Value) (ls : List (List Int)) (R : List Thing) (rows : List (Value × Bs)) : Prop :=
  ∃ vs, vs.length = ls.length ∧ Rf w0 w t S (ThRow 1 v vs :: (zipT vs ls ++ R)) rows
section
variable {w0 w : World} {t : Nat} {S : RtS} {R : List Thing} {rows : List (Value × Bs)}
/-- One row of the grid, taken up; and laid back with another. -/
theorem RfG.take {v : Value} {ls : List (List Int)} (h : RfG w0 w t S v ls R rows) {s : Nat} {l : List Int} (hs : ls[s]? = some l) : ∃ (vi : Value) (D : List Nat), w.cell? ⟨t, 0, none⟩ = some (.int .i64 S.n) ∧
    (∃ a n c, v = .slice (some a) n c ∧ n = ls.length ∧ a.spot = none ∧ w.cell? (a.add s) = some vi) ∧ OwnRow w 1 vi (l.map ivv) D ∧
    ∀ (w' : World) D' vi' l', OwnRow w' 1 vi' (l'.map ivv) D' → Upd w w' D D' → ∀ a n c, v = .slice (some a) n c → w'.frozen? (a.add s) = false ∧ (∃ u, w'.cell? (a.add s) = some u) ∧ RfG w0 (w'.setCell (a.add s) vi') t S v (ls.set s l') R rows := by
  obtain ⟨vs, hlen, m, hS⟩ := h
  have hsl : s < vs.length := by rw [hlen]; exact (List.getElem?_eq_some_iff.1 hs).1
  obtain ⟨vi, l0, A, B, h1, h2, h3, h4⟩ := zip_focus hlen hsl
  have e := hs.symm.trans h2
  injection e with e
  subst e
  have hb := hS.block (b := t) (o := .cells #[.int .i64 S.n, .int .i64 S.ver, m] 55 (0, 0)) (by simp [rtTh])
  have hp : ∀ (vs' : List Value) (vi' : Value) (l' : List Int), (ThRow 1 vi' (l'.map ivv) :: ThRow 1 v vs' :: (A ++ B ++ (rfTh t m S ++ R))).Perm (rfTh t m S ++ ThRow 1 v vs' :: ((A ++ ThRow 1 vi' (l'.map ivv) :: B) ++ R)) := fun vs' vi' l' => by
    refine List.Perm.symm ?_
    refine (List.perm_append_comm (l₁ := rfTh t m S)).trans ?_
    rw [List.cons_append]
    refine List.Perm.trans ?_ (List.Perm.swap _ _ _)
    refine List.Perm.cons _ ?_
    rw [List.append_assoc, List.append_assoc, List.cons_append]
    refine List.perm_middle.trans (List.Perm.cons _ ?_)
    rw [List.append_assoc]
    exact List.Perm.append_left _ (List.Perm.append_left _ List.perm_append_comm)
  rw [h3] at hS
  have hS1 := hS.perm (hp vs vi l).symm
  obtain ⟨D, ho, -, back⟩ := hS1.use
  obtain ⟨a, n, c, rfl, hl, hn, hc⟩ := hS1.swap.rowLen
  rw [Nat.mul_one] at hl
  obtain ⟨y, rfl, hys, hcy⟩ := hS1.swap.rowCell (i := s) (x := vi) h1
  refine ⟨vi, D, cell_of hb 0 rfl, ⟨y, n, c, rfl, by omega, hys, hcy⟩, ho, fun w' D' vi' l' ho' hu a' n' c' hv => ?_⟩
  cases hv
  have hS2 := (back w' D' (ThRow 1 vi' (l'.map ivv)) hu ho').swap
  obtain ⟨f1, -, f3, f4⟩ := hS2.rowSet (i := s) (by omega) vi'
  refine ⟨f1, f3, vs.set s vi', by simp [hlen], m, ?_⟩
  rw [h4]
  exact (f4.swap).perm (hp (vs.set s vi') vi' l')

theorem RfG.table {v : Value} {ls : List (List Int)} (h : RfG w0 w t S v ls R rows) : ∃ R', Rf w0 w t S R' rows ∧ ∀ w', Rf w0 w' t S R' rows → RfG w0 w' t S v ls R rows := by
  obtain ⟨vs, h1, h2⟩ := h
  exact ⟨_, h2, fun w' h' => ⟨vs, h1, h'⟩⟩
theorem RfG.keep {v : Value} {ls : List (List Int)} (h : RfG w0 w t S v ls R rows) {w' : World} {D' : List Nat} (hu : Upd w w' [] D') : RfG w0 w' t S v ls R rows := by
  obtain ⟨vs, h1, h2⟩ := h
  exact ⟨vs, h1, h2.keep hu⟩
theorem RfG.below {v : Value} {ls : List (List Int)} (h : RfG w0 w t S v ls R rows) : Below w0.heap.size w0 w := by
  obtain ⟨vs, h1, h2⟩ := h
  exact h2.below

set_option maxRecDepth 100000 in
set_option maxHeartbeats 4000000 in
theorem rf_split_gen (h : Rf w0 w t S R rows) (hok : RtOK S) (a : Option Addr) (len cap : Nat) (ops : List OpS) (hop0 : IsOps w a len cap ops) (hops : ∀ (w' : World) v ls, RfG w0 w' t S v ls R rows → IsOps w' a len cap ops) (hl : ops.length ≤ 1000) :
    Calls Tryd.prog 26 #[.pointer (some ⟨t, 0, none⟩), .slice a len cap] w fun e w' => ∃ v, e = .returned v ∧ RfG w0 w' t S v (gridS S (ops.map fun o => o.path.data.toList) ops.length) R rows := by
  obtain ⟨i0, hi0, hz0, hz1, hz2⟩ := info_parts infoI'
  obtain ⟨N, hN⟩ : ∃ N : Nat, S.n = N := ⟨S.n.toNat, by have := hok.1; omega⟩
  have hN1 : 1 ≤ N := by have := hok.1; omega
  have hN4 : N ≤ 4 := by have := hok.2.1; omega
  obtain ⟨am, cm, hb, -⟩ := h.facts
  have c0 := cell_of hb 0 rfl
  rw [show (#[Value.int .i64 S.n, .int .i64 S.ver, .slice am S.mv.length cm] : Array Value)[0] = .int .i64 (N : Int) by rw [← hN]; rfl] at c0
  have hmk := fun W => run_make_row' (P := Tryd.prog) 39 41 (.slice none 0 0) 24 Tryd.underlying39 infoII rfl .i64 .i64 N (by omega) (by omega) W
  have hla : ops.length = len := hop0.1
  subst hla
  obtain ⟨ps, hps⟩ : ∃ ps, ps = ops.map fun o => o.path.data.toList := ⟨_, rfl⟩
  rw [← hps]
  have hG : RfG w0 (w.alloc (.cells (madeCells #[.slice none 0 0] N) 41)) t S (.slice (some ⟨w.heap.size, 0, none⟩) N N) (gridS S ps 0) R rows := by
    obtain ⟨m', hS⟩ := h
    refine ⟨List.replicate N (.slice none 0 0), by rw [grid_len, hN]; simp, m', ?_⟩
    have h1 := (hS.addRow (nilRows w N (by omega)) (Upd.alloc1 w _ [])).nils N
    rw [grid_zero, hN, Int.toNat_natCast]
    refine h1.perm ?_
    rw [← hN]
    show List.Perm _ (rfTh t m' S ++ _)
    exact (List.perm_append_comm_assoc (zipT (List.replicate N (.slice none 0 0)) (List.replicate N [])) (ThRow 1 (.slice (some ⟨w.heap.size, 0, none⟩) N N) (List.replicate N (.slice none 0 0)) :: rfTh t m' S) R).trans (List.perm_middle (l₁ := rfTh t m' S)).symm
  have HG := Lib.hid hG
  have HOK := Lib.hid hok
  have HOP := Lib.hid hops
  have hcap : ops.length ≤ cap := hop0.2.1
  have hcm := hop0.2.2.1
  unfold maxLen at hcm
  have HN := Lib.hid hN
  have hpl : ps.length = ops.length := by rw [hps, List.length_map]
  have HPS := Lib.hid (show _ ∧ _ from ⟨hps, hpl⟩)
  clear h hb hG hok hops hop0 hN hps hpl
  go_enter Tryd.func26, Tryd.ntmps26
  go_wp2_with fail
  go_loopg [6] ops.length (fun k vi wr => ∃ p : Nat, p ≤ ops.length ∧ k = ops.length - p ∧ vi = .int .i64 (p : Int) ∧ RfG w0 wr t S (.slice (some ⟨w.heap.size, 0, none⟩) N N) (gridS S ps p) R rows)
  case atStart => exact ⟨0, Nat.zero_le _, rfl, rfl, HG.out⟩
  case round =>
    obtain ⟨p, hp, hk, hvi, H⟩ := hrel
    subst hvi
    clear HG
    by_cases hlt : p < ops.length
    case neg =>
      obtain rfl : p = ops.length := by omega
      have HO := Lib.hid H
      clear H
      go_wp2_with fail
      go_ret
      exact ⟨_, rfl, HO.out⟩
    obtain ⟨x, rfl, g0, g1, g2, g3, g4, hsz, -⟩ := (HOP.out _ _ _ H).at hlt
    have hget : ps.getD p [] = ops[p].path.data.toList := by
      rw [HPS.out.1, List.getD_eq_getElem?_getD, List.getElem?_map, List.getElem?_eq_getElem hlt]; rfl
    obtain ⟨o, ho⟩ : ∃ o, ops[p] = o := ⟨_, rfl⟩
    rw [ho] at g0 g1 g2 g3 g4 hsz hget
    obtain ⟨R1, ht, bk⟩ := H.table
    have hOf := rf_of ht o.path hsz HOK.out.1 HOK.out.2.1
    rw [← hget] at hOf
    have hbd := of_bd HOK.out (ps.getD p [])
    obtain ⟨z, hz⟩ : ∃ z, ofS S (ps.getD p []) = z := ⟨_, rfl⟩
    rw [hz] at hOf hbd
    have HOF := Lib.hid hOf
    have HBK := Lib.hid bk
    have HZ := Lib.hid hz
    have hbd1 : z < N := by have := HN.out; omega
    clear H ht bk hOf hz hget ho
    go_wp2_with fail
    refine HOF.out.mono ?_
    rintro e w2 ⟨rfl, h2⟩
    have H2 := HBK.out _ h2
    clear HOF HBK h2
    by_cases hneg : z < 0
    · have HX := Lib.hid H2
      have hb0 : ¬ 0 ≤ z := by omega
      clear H2
      go_wp2_with fail
      go_roundg (ops.length - (p + 1))
      case rel => exact ⟨p + 1, by omega, rfl, by go_num, by rw [grid_none (by rw [HZ.out]; exact hneg)]; exact HX.out⟩
      case measure => omega
    obtain ⟨s, rfl⟩ : ∃ s : Nat, z = s := ⟨z.toNat, by omega⟩
    have hsN : s < N := by omega
    have hsN' : s < S.n.toNat := by rw [HN.out]; simpa using hsN
    obtain ⟨vi, D, -, ⟨y, n, c, hv, hn, hys, hcy⟩, hown, back⟩ := H2.take (grid_get hsN')
    cases hv
    have hrl := row_len S ps p s
    obtain ⟨al, nl, cl, rfl, hll⟩ := hown.len
    have ha1 := Upd.alloc0 w2 (.cells #[.int .i64 (p : Int)] 3 (0, 0)) []
    have hcy2 := upd_cell ha1 hcy
    have hownA : OwnRow _ 1 _ _ D := OwnRow.frame hown (ha1.same (OwnRow.lt hown) (by simp))
    obtain ⟨nb, hnb, hsrc⟩ := (cell_new w2 (.int .i64 (p : Int)) 3 (0, 0)).src (P := Tryd.prog) (tx := 41) Tryd.underlying41 (by intro u hu; rw [List.mem_singleton.1 hu]; rfl)
    obtain rfl : 1 = nb := by simpa using hnb
    have HBD := Lib.hid (show ∀ n', ((rowS S ps p s).map ivv).length = n' * 1 → n' + 1 ≤ 140737488355328 ∧ (n' + 1) * i0.bytes ≤ 140737488355328 from fun n' hn' => by
      rw [List.length_map] at hn'
      rw [hz2]; omega)
    have HB2 := Lib.hid back
    rw [Addr.add_lit, Nat.zero_add] at hcy
    have hb0 : 0 ≤ (s : Int) := by omega
    have hs1 : (s : Int) < N := by omega
    clear hown back H2 hnb hll hn hcy2 hrl
    go_wp2_with (at_builtin; go_must (refine wpList_app rfl _ _ 41 41 rfl 1 _ _ _ rfl hownA _ i0 _ Tryd.underlying41 hi0 hz0 hz1 rfl _ _ _ rfl hsrc HBD.out ?_); intro a7 n7 c7 w7 D7 hown7 hu7; obtain ⟨f7, u7, HN7⟩ := HB2.out w7 D7 _ (rowS S ps p s ++ [(p : Int)]) (by rw [List.map_append]; exact hown7) ((ha1.mono (by simp) (fun b hb => .inr hb) : Upd w2 _ D D).trans hu7) _ _ _ rfl; rw [Addr.add_lit, Nat.zero_add] at f7 u7 HN7; obtain ⟨u7, hu7c⟩ := u7; have HX := Lib.hid HN7; clear HN7 hown7 hu7)
    go_roundg (ops.length - (p + 1))
    case rel => exact ⟨p + 1, by omega, rfl, by go_num, by rw [grid_set HZ.out hsN']; exact HX.out⟩
    case measure => omega
theorem rf_split (h : Rf w0 w t S R rows) (hok : RtOK S) (a : Option Addr) (len cap : Nat) (ops : List OpS) (hops : IsOps w0 a len cap ops) (hl : ops.length ≤ 1000) :
    Calls Tryd.prog 26 #[.pointer (some ⟨t, 0, none⟩), .slice a len cap] w fun e w' => ∃ v, e = .returned v ∧ RfG w0 w' t S v (gridS S (ops.map fun o => o.path.data.toList) ops.length) R rows :=
  rf_split_gen h hok a len cap ops (hops.below h.below) (fun _ _ _ H => hops.below H.below) hl
end
end Go.Proofs.YtfncdgnhiinmjaaDoor

/-
  The document's own numbers and texts in bytes: the walks.
-/
namespace Go.Proofs.YtfncdgnhiinmjaaDoor
open Go.RowKit Go.Av

set_option maxRecDepth 100000 in
set_option maxHeartbeats 1000000 in
theorem i64R_any (b : Value) (l : Bs) (E : List Nat) (v : Int) (w : World) (h : ReadRow w 1 b (l.map bv) E) (hl : l.length ≤ 1073741824) :
    Calls Tryd.prog 45 #[b, .int .i64 v] w (AppPost w [] (l ++ packI v)) := by
  obtain ⟨i0, hi0, hz0, hz1, hz2⟩ := info_parts info5
  obtain ⟨nn, hnn⟩ : ∃ nn : Nat, nn = (v % 18446744073709551616).toNat := ⟨_, rfl⟩
  have e64 : IntKind.u64.wrap v = (nn : Int) := by rw [hnn, IntKind.wrap_u64]; omega
  have HN := Lib.hid hnn
  clear hnn
  have h0 := h.frame ((Upd.alloc0 w (.cells #[] 5 (0, 0)) []).same h.lt (by simp))
  obtain ⟨nb, hnb, hsrc⟩ := h0.src (P := Tryd.prog) (tx := 47) Tryd.underlying47 bv_one
  rw [List.length_map, Nat.mul_one] at hnb
  subst hnb
  have HBD := Lib.hid (show ∀ n', ([] : List Value).length = n' * 1 → n' + l.length ≤ 140737488355328 ∧ (n' + l.length) * i0.bytes ≤ 140737488355328 from fun n' hn' => by simp at hn'; rw [hz2]; omega)
  clear h0
  go_enter Tryd.func45, Tryd.ntmps45
  go_wp2_with (at_builtin; go_must (refine wpList_app rfl _ _ 47 47 rfl 1 _ [] [] rfl (OwnRow.zero _ _ _) _ i0 _ Tryd.underlying47 hi0 hz0 hz1 rfl _ _ _ rfl hsrc HBD.out ?_); intro a3 n3 c3' w3 D3 hown3 hu3)
  have hu0 : Upd w w3 [] D3 := (Upd.alloc0 w (.cells #[] 5 (0, 0)) []).trans hu3
  have hst : ∃ (m : Nat) (D : List Nat), m ≤ 8 ∧ (8 : Nat) = m ∧ (Value.int .i64 7) = .int .i64 ((m : Int) - 1) ∧ OwnRow w3 1 (.slice a3 n3 c3') ((l ++ (packI v).take (8 - m)).map bv) D ∧ Upd w w3 [] D :=
    ⟨8, D3, by omega, rfl, rfl, by simpa using hown3, hu0⟩
  clear hown3 hu3 hu0 hsrc
  go_loopg [5, 6] 8 (fun k o i wr => ∃ (m : Nat) (D : List Nat), m ≤ 8 ∧ k = m ∧ i = .int .i64 ((m : Int) - 1) ∧ OwnRow wr 1 o ((l ++ (packI v).take (8 - m)).map bv) D ∧ Upd w wr [] D)
  case atStart => exact hst
  case round =>
    obtain ⟨m, D, hm, hk, rfl, hown, hu⟩ := hrel
    cases m with
    | zero =>
      have HO := Lib.hid hown
      have HU := Lib.hid hu
      clear hown hu
      go_wp2_with fail
      go_ret
      exact ⟨_, D, rfl, by have := HO.out; rwa [List.take_of_length_le (by rw [packI_length]; omega)] at this, HU.out⟩
    | succ j =>
      rw [show ((j + 1 : Nat) : Int) - 1 = (j : Int) by omega]
      obtain ⟨bt, hbt⟩ : ∃ bt : Nat, bt = nn / 2 ^ (8 * j) % 256 := ⟨_, rfl⟩
      have e8 : IntKind.i64.wrap (8 * (j : Int)) = ((8 * j : Nat) : Int) := by rw [IntWalk.i64_in _ (by omega)]; omega
      have eb : IntKind.u8.wrap ((nn : Int) / 2 ^ (8 * j)) = (bt : Int) := by
        rw [hbt, IntKind.wrap_u8]
        simp
      have HB := Lib.hid hbt
      have hU2 := Upd.alloc0 wr (.cells #[.int .u8 bt] 5 (0, 0)) []
      have hown2 := hown.frame (hU2.same hown.lt (by simp))
      obtain ⟨nb, hnb, hsrc⟩ := (cell_new wr (.int .u8 bt) 5 (0, 0)).src (P := Tryd.prog) (tx := 47) Tryd.underlying47 (by intro u hu; rw [List.mem_singleton.1 hu]; rfl)
      have hnb1 : 1 = nb := by simpa using hnb
      subst hnb1
      have HBD := Lib.hid (show ∀ n', ((l ++ (packI v).take (8 - (j + 1))).map bv).length = n' * 1 → n' + 1 ≤ 140737488355328 ∧ (n' + 1) * i0.bytes ≤ 140737488355328 from fun n' hn' => by simp at hn'; rw [hz2]; omega)
      have HU := Lib.hid (hu.trans (Upd.alloc0 wr (.cells #[.int .u8 bt] 5 (0, 0)) D))
      clear hbt hown hu hnb hU2
      go_wp2_with (at_builtin; go_must (refine wpList_app rfl _ _ 47 47 rfl 1 _ _ _ rfl hown2 _ i0 _ Tryd.underlying47 hi0 hz0 hz1 rfl _ _ _ rfl hsrc HBD.out ?_); intro a4 n4 c4 w4 D4 hown4 hu4)
      go_roundg j
      case rel =>
        refine ⟨j, D4, by omega, rfl, rfl, ?_, HU.out.trans hu4⟩
        have e1 : 8 - j = 7 - j + 1 := by omega
        have e2 : 8 - (j + 1) = 7 - j := by omega
        rw [e2] at hown4
        rw [e1, packI_step v j (by omega), ← HN.out, ← List.append_assoc, List.map_append]
        have e3 : ([UInt8.ofNat (nn / 2 ^ (8 * j))] : Bs).map bv = [.int .u8 bt] := by simp [bv, HB.out]
        rw [e3]
        exact hown4
      case measure => omega
set_option maxRecDepth 100000 in
set_option maxHeartbeats 1000000 in
theorem txtR_any (b : Value) (l : Bs) (E : List Nat) (s : ByteArray) (w : World) (h : ReadRow w 1 b (l.map bv) E) (hl : l.length ≤ 1000000) (hs : s.size ≤ 1000000) :
    Calls Tryd.prog 46 #[b, .string s] w (AppPost w [] (l ++ textB s.data.toList)) := by
  obtain ⟨i0, hi0, hz0, hz1, hz2⟩ := info_parts info5
  have hsz : s.size = s.data.toList.length := by simp
  have hp := i64R_any b l E (s.size : Int) w h (by omega)
  have HP := Lib.hid hp
  have hln : (l ++ packI (s.size : Int)).length ≤ 1000008 := by rw [List.length_append, packI_len]; omega
  have HT := Lib.hid (show l ++ textB s.data.toList = (l ++ packI (s.size : Int)) ++ s.data.toList by unfold textB; rw [hsz, List.append_assoc])
  obtain ⟨lp, hlp⟩ : ∃ lp, l ++ packI (s.size : Int) = lp := ⟨_, rfl⟩
  rw [hlp] at hln HP HT
  clear h hp hlp hsz
  go_enter Tryd.func46, Tryd.ntmps46
  go_wp2_with fail
  refine HP.out.mono ?_
  rintro e w1 ⟨v1, D1, rfl, ho1, hu1⟩
  have hsrc : Src Tryd.prog 1 9 (.string s) s.size (byteCells s) w1 := Src.ofString _ Tryd.underlying9 s
  have HBD := Lib.hid (show ∀ n', (lp.map bv).length = n' * 1 → n' + s.size ≤ 140737488355328 ∧ (n' + s.size) * i0.bytes ≤ 140737488355328 from fun n' hn' => by
    rw [List.length_map] at hn'
    rw [hz2]; omega)
  have HU := Lib.hid hu1
  clear hu1 HP
  obtain ⟨a1, n1, c1, rfl, -⟩ := ho1.len
  go_wp2_with (at_builtin; go_must (refine wpList_app rfl _ _ 47 9 rfl 1 _ _ _ rfl ho1 _ i0 _ Tryd.underlying47 hi0 hz0 hz1 rfl _ _ _ rfl hsrc HBD.out ?_); intro a3 n3 c3' w3 D3 hown3 hu3)
  go_ret
  rw [HT.out]
  rw [bytes_src, ← List.map_append] at hown3
  exact ⟨_, D3, rfl, hown3, HU.out.trans hu3⟩

end Go.Proofs.YtfncdgnhiinmjaaDoor

/-
  The document's own table: Put.
-/
namespace Go.Proofs.YtfncdgnhiinmjaaDoor
open Go.RowKit Go.Av

def entR (e : Bs × Int) : Bs := textB e.1 ++ packI e.2
def bytesR (T : RtS) : Bs := ([T.n, T.ver, (T.mv.length : Int)].flatMap packI) ++ T.mv.flatMap entR
theorem bytesR_sort {S : RtS} (h : RtInv S) : bytesR (sortT S) = bytesT S := by
  unfold bytesR bytesT
  show [S.n, S.ver, ((sortM S).length : Int)].flatMap packI ++ (sortM S).flatMap entR = _
  rw [sort_lenM, ← sort_keys, List.flatMap_map]
  congr 1
  have ha := sort_alike h
  have : ∀ l : List (Bs × Int), (∀ e ∈ l, lookM e.1 S.mv = some e.2) → l.flatMap entR = l.flatMap fun e => entM S e.1 := by
    intro l
    induction l with
    | nil => intro _; rfl
    | cons e l ih =>
      intro hl
      rw [List.flatMap_cons, List.flatMap_cons, ih (fun e he => hl e (by simp [he]))]
      have : entR e = entM S e.1 := by unfold entR entM; rw [hl e (by simp)]; rfl
      rw [this]
  refine this _ fun e he => ?_
  obtain ⟨k, _, hk⟩ := List.mem_filterMap.1 he
  cases hl : lookM k S.mv with
  | none => rw [hl] at hk; cases hk
  | some x =>
    rw [hl] at hk
    cases hk
    exact hl

section
variable {w0 w : World} {t : Nat} {T : RtS} {R : List Thing} {rows : List (Value × Bs)}
/-- The same, its row by its name. -/
def RfM (w0 w : World) (t : Nat) (u : Value) (T : RtS) (R : List Thing) (rows : List (Value × Bs)) : Prop := Sep w0 w (rfTh t u T ++ R) rows
theorem RfM.ahead {u : Value} {X : Thing} (h : RfM w0 w t u T (X :: R) rows) : Sep w0 w (X :: (rfTh t u T ++ R)) rows := Sep.third h
theorem RfM.behind {u : Value} {X : Thing} (h : Sep w0 w (X :: (rfTh t u T ++ R)) rows) : RfM w0 w t u T (X :: R) rows := h.perm (List.perm_middle (l₁ := [_, _])).symm
theorem RfM.cells {u : Value} (h : RfM w0 w t u T R rows) : w.cell? ⟨t, 0, none⟩ = some (.int .i64 T.n) ∧ w.cell? ⟨t, 1, none⟩ = some (.int .i64 T.ver) ∧ w.cell? ⟨t, 2, none⟩ = some u := by
  have hb := Sep.blk h
  exact ⟨cell_of hb 0 rfl, cell_of hb 1 rfl, cell_of hb 2 rfl⟩
theorem RfM.row {a : Option Addr} {c : Nat} (h : RfM w0 w t (.slice a T.mv.length c) T R rows) (p : Nat) (hp : p < T.mv.length) :
    ∃ y : Addr, a = some y ∧ y.spot = none ∧ w.cell? (y.add (p * 2)) = some (sv T.mv[p].1) ∧ w.cell? ⟨(y.add (p * 2)).block, (y.add (p * 2)).off + 1, none⟩ = some (.int .i64 T.mv[p].2) := by
  obtain ⟨D, hD⟩ := Sep.has h (T := ThRow 2 (.slice a T.mv.length c) (T.mv.flatMap mcell)) (by simp [rfTh])
  have hD : OwnRow w 2 (.slice a T.mv.length c) (T.mv.flatMap mcell) D := hD
  obtain ⟨m1, m2⟩ := mcell_at T.mv hp
  obtain ⟨y, rfl, hys, h1⟩ := ownCellG hD m1
  obtain ⟨y', h2, -, h3⟩ := ownCellG hD m2
  cases h2
  rw [add_field h1 1] at h3
  exact ⟨y, rfl, hys, h1, h3⟩
theorem RfM.keep {u : Value} (h : RfM w0 w t u T R rows) {w' : World} {D' : List Nat} (hu : Upd w w' [] D') : RfM w0 w' t u T R rows := Sep.keep h hu
theorem RfM.i64 {u v : Value} {l : Bs} (h : RfM w0 w t u T (ThRow 1 v (l.map bv) :: R) rows) (x : Int) (hl : l.length ≤ 1073741824) :
    Calls Tryd.prog 45 #[v, .int .i64 x] w fun e w' => ∃ v', e = .returned v' ∧ RfM w0 w' t u T (ThRow 1 v' ((l ++ packI x).map bv) :: R) rows := by
  have hS := h.ahead
  obtain ⟨E, hE⟩ := hS.readFst
  refine (i64R_any v l E x w hE hl).mono ?_
  rintro e w' ⟨v', D', rfl, ho, hu⟩
  exact ⟨v', rfl, RfM.behind (hS.drop.addRow ho hu)⟩
theorem RfM.txt {u v : Value} {l : Bs} (h : RfM w0 w t u T (ThRow 1 v (l.map bv) :: R) rows) (s : ByteArray) (hl : l.length ≤ 1000000) (hs : s.size ≤ 1000000) :
    Calls Tryd.prog 46 #[v, .string s] w fun e w' => ∃ v', e = .returned v' ∧ RfM w0 w' t u T (ThRow 1 v' ((l ++ textB s.data.toList).map bv) :: R) rows := by
  have hS := h.ahead
  obtain ⟨E, hE⟩ := hS.readFst
  refine (txtR_any v l E s w hE hl hs).mono ?_
  rintro e w' ⟨v', D', rfl, ho, hu⟩
  exact ⟨v', rfl, RfM.behind (hS.drop.addRow ho hu)⟩
theorem RfM.nil {u : Value} (h : RfM w0 w t u T R rows) : RfM w0 w t u T (ThRow 1 (.slice none 0 0) (([] : Bs).map bv) :: R) rows :=
  RfM.behind (Sep.nilRow 1 h)
theorem RfM.rf {u : Value} (h : RfM w0 w t u T R rows) : Rf w0 w t T R rows := ⟨u, h⟩

theorem entsR_len (hn : RtSh T) (p : Nat) : ((T.mv.take p).flatMap entR).length ≤ 1016 * 100 := by
  have : ∀ l : List (Bs × Int), (∀ e ∈ l, e.1.length ≤ 1000) → (l.flatMap entR).length ≤ 1016 * l.length := by
    intro l
    induction l with
    | nil => intro _; simp
    | cons e l ih =>
      intro hl
      have h1 := hl e (by simp)
      have h2 := ih (fun e he => hl e (by simp [he]))
      have h3 : (entR e).length = 16 + e.1.length := by unfold entR textB; rw [List.length_append, List.length_append, packI_len, packI_len]; omega
      rw [List.flatMap_cons, List.length_append, List.length_cons]
      omega
  have h1 := this (T.mv.take p) (fun e he => hn.2 e (List.mem_of_mem_take he))
  have h2 := hn.1
  rw [List.length_take] at h1
  omega

set_option maxRecDepth 100000 in
set_option maxHeartbeats 8000000 in
theorem rf_put (h : Rf w0 w t T R rows) (hn : RtSh T) :
    Calls Tryd.prog 27 #[.pointer (some ⟨t, 0, none⟩)] w fun e w' => ∃ v, e = .returned v ∧ Rf w0 w' t T (ThRow 1 v ((bytesR T).map bv) :: R) rows := by
  obtain ⟨u, h⟩ := h
  have h : RfM w0 w t u T R rows := h
  have hw : ∃ a c, u = .slice a T.mv.length c ∧ T.mv.length ≤ c ∧ c ≤ maxLen := by
    obtain ⟨a, c, hb, h1, h2, -⟩ := h.rf.facts
    refine ⟨a, c, ?_, h1, h2⟩
    have e := h.cells.2.2.symm.trans (cell_of hb 2 rfl)
    injection e
  obtain ⟨a, cp, rfl, hcp, hcm⟩ := hw
  unfold maxLen at hcm
  obtain ⟨n, hnn⟩ : ∃ n, T.n = n := ⟨_, rfl⟩
  obtain ⟨ver, hvv⟩ : ∃ ver, T.ver = ver := ⟨_, rfl⟩
  have H0 := Lib.hid (h.nil.keep (Upd.refl w []).drew)
  have HP := Lib.hid hn
  have HV := Lib.hid (show _ ∧ _ from ⟨hnn, hvv⟩)
  have HC := Lib.hid (show ∀ W R', RfM w0 W t (.slice a T.mv.length cp) T R' rows → W.cell? ⟨t, 0, none⟩ = some (.int .i64 n) ∧ W.cell? ⟨t, 1, none⟩ = some (.int .i64 ver) ∧ W.cell? ⟨t, 2, none⟩ = some (.slice a T.mv.length cp) from fun W R' h => by
    rw [← hnn, ← hvv]; exact h.cells)
  obtain ⟨c0, c1, c2⟩ := HC.out w _ h
  have hlen : T.mv.length ≤ 100 := hn.1
  clear h hn hnn hvv
  go_enter Tryd.func27, Tryd.ntmps27
  go_wp2_with fail
  refine wp_region_M (fun W => W.cell? ⟨t, 0, none⟩ = some (.int .i64 n) ∧ W.cell? ⟨t, 1, none⟩ = some (.int .i64 ver) ∧ W.cell? ⟨t, 2, none⟩ = some (.slice a T.mv.length cp)) 16 (by kernel_rfl) ?_
  refine wpAnyM_take (by kernel_rfl) (by intro c a d v w h; cases d <;> exact h) [(0, false), (1, false), (2, false), (3, true), (5, false), (6, false), (7, false), (8, true), (10, false), (11, false), (12, false), (13, true), (14, false)] (fuel := 4) (by kernel_rfl) ?_
  apply Exists.intro; refine ⟨?_, ⟨c0, c1, c2⟩, ?_⟩
  · iterate 13 ((first | (apply yieldN; (· (simp only [List.getElem?_toArray, List.getElem?_cons_succ, List.getElem?_cons_zero]; try rfl)); (· rfl)) | ((first | apply yieldP | apply yieldL); (· (simp only [List.getElem?_toArray, List.getElem?_cons_succ, List.getElem?_cons_zero]; try rfl)); (· rfl); (· (intros; go_simp; try with_reducible rfl)))); (· (simp only [Act.put, List.setIfInBounds_toArray, List.set_cons_zero, List.set_cons_succ]; try rfl)))
    exact rfl
  clear c0 c1 c2
  refine wpAnyM_one (fuel := 3) (i := 4) (by kernel_rfl) (by rfl) (fun K hK => ?_)    -- CALL
  go_wp2_with fail
  refine (H0.out.i64 n (by simp)).mono ?_
  rintro e w1 ⟨v1, rfl, h1⟩
  have H1 := Lib.hid h1
  clear h1 H0
  go_wp2_with fail
  refine hK _ _ (HC.out _ _ H1.out) ?_
  clear hK
  refine wpAnyM_one (fuel := 2) (i := 9) (by kernel_rfl) (by rfl) (fun K hK => ?_)    -- CALL
  go_wp2_with fail
  refine (H1.out.i64 ver (by rw [List.length_append, packI_len]; simp)).mono ?_
  rintro e w2 ⟨v2, rfl, h2⟩
  have H2 := Lib.hid h2
  clear h2 H1
  go_wp2_with fail
  refine hK _ _ (HC.out _ _ H2.out) ?_
  clear hK
  refine wpAnyM_one (fuel := 1) (i := 15) (by kernel_rfl) (by rfl) (fun K hK => ?_)    -- CALL
  go_wp2_with fail
  refine (H2.out.i64 (T.mv.length : Int) (by rw [List.length_append, List.length_append, packI_len, packI_len]; simp)).mono ?_
  rintro e w3 ⟨v3, rfl, h3⟩
  obtain ⟨hd, hhd⟩ : ∃ hd, (([] : Bs) ++ packI n ++ packI ver ++ packI (T.mv.length : Int)) = hd := ⟨_, rfl⟩
  have hhl : hd.length = 24 := by rw [← hhd]; rfl
  rw [hhd] at h3
  have HHD := Lib.hid (show [T.n, T.ver, (T.mv.length : Int)].flatMap packI = hd by rw [HV.out.1, HV.out.2, ← hhd]; simp)
  have H3 := Lib.hid h3
  clear h3 H2 hhd
  go_wp2_with fail
  refine hK _ _ (HC.out _ _ H3.out) ?_
  clear hK
  refine wpAnyM_of_any _ _ _ _ (by decide) ?_
  refine wpAny_list [16] (fuel := 0) (by kernel_rfl) ?_
  simp only [List.filterMap_cons, List.filterMap_nil, List.getElem?_toArray, List.getElem?_cons_succ, List.getElem?_cons_zero]
  go_wp2_with fail
  go_loopg [3, 4] T.mv.length (fun k vb vi wr => ∃ p : Nat, p ≤ T.mv.length ∧ k = T.mv.length - p ∧ vi = .int .i64 (p : Int) ∧ RfM w0 wr t (.slice a T.mv.length cp) T (ThRow 1 vb ((hd ++ (T.mv.take p).flatMap entR).map bv) :: R) rows)
  case atStart => exact ⟨0, Nat.zero_le _, rfl, rfl, by simpa using H3.out⟩
  case round =>
    obtain ⟨p, hp, hk, hv, hC⟩ := hrel
    subst hv
    clear H3
    by_cases hlt : p < T.mv.length
    case neg =>
      obtain rfl : p = T.mv.length := by omega
      rw [List.take_length] at hC
      obtain ⟨-, -, c2⟩ := hC.cells
      have HF := Lib.hid hC
      clear hC
      go_wp2_with fail
      go_ret
      refine ⟨_, rfl, ?_⟩
      unfold bytesR
      rw [HHD.out]
      exact HF.out.rf
    obtain ⟨y, rfl, hys, e0, e1⟩ := hC.row p hlt
    obtain ⟨-, -, c2⟩ := hC.cells
    have hbl := entsR_len HP.out p
    have hst : hd ++ (T.mv.take (p + 1)).flatMap entR = (hd ++ (T.mv.take p).flatMap entR) ++ entR T.mv[p] := by
      rw [List.take_succ_eq_append_getElem hlt, List.flatMap_append]; simp
    have hks := HP.out.2 T.mv[p] (List.getElem_mem hlt)
    obtain ⟨q, hq⟩ : ∃ q, T.mv[p] = q := ⟨_, rfl⟩
    rw [hq] at e0 e1 hst hks
    obtain ⟨kq, vq⟩ := q
    dsimp only at e0 e1 hks
    unfold sv at e0
    obtain ⟨kb, hkb⟩ : ∃ kb : ByteArray, kb = ⟨kq.toArray⟩ := ⟨_, rfl⟩
    rw [← hkb] at e0
    have hkb2 : kb.data.toList = kq := by rw [hkb]
    have hkbs : kb.size ≤ 1000 := by rw [hkb]; show kq.toArray.size ≤ _; simpa using hks
    have hen : entR (kq, vq) = textB kb.data.toList ++ packI vq := by unfold entR; rw [hkb2]
    rw [hen] at hst
    have htl : (textB kb.data.toList).length ≤ 1008 := by
      unfold textB; rw [List.length_append, packI_len]
      have : kb.data.toList.length = kb.size := by simp
      omega
    obtain ⟨pre, hpre⟩ : ∃ pre, hd ++ (T.mv.take p).flatMap entR = pre := ⟨_, rfl⟩
    have hbl2 : pre.length ≤ 110000 := by rw [← hpre, List.length_append]; omega
    rw [hpre] at hst hC
    have HT := Lib.hid (hC.keep (Upd.refl wr []).drew)
    have HST := Lib.hid (show _ ∧ _ from ⟨hst, hbl2⟩)
    have HC2 := Lib.hid (show ∀ W R', RfM w0 W t (.slice (some y) T.mv.length cp) T R' rows → W.cell? ⟨t, 2, none⟩ = some (.slice (some y) T.mv.length cp) ∧ W.cell? (y.add (p * 2)) = some (.string kb) ∧ W.cell? ⟨(y.add (p * 2)).block, (y.add (p * 2)).off + 1, none⟩ = some (.int .i64 vq) from fun W R' h => by
      obtain ⟨y', hy', -, x0, x1⟩ := h.row p hlt
      cases hy'
      rw [hq] at x0 x1
      exact ⟨h.cells.2.2, by rw [hkb]; exact x0, x1⟩)
    clear hC hst hbl hbl2 hks hq hkb hkb2 hen hpre
    go_wp2_with fail
    refine wp_region_M (fun W => W.cell? ⟨t, 2, none⟩ = some (.slice (some y) T.mv.length cp) ∧ W.cell? (y.add (p * 2)) = some (.string kb) ∧ W.cell? ⟨(y.add (p * 2)).block, (y.add (p * 2)).off + 1, none⟩ = some (.int .i64 vq)) 19 (by kernel_rfl) ?_
    refine wpAnyM_take (by kernel_rfl) (by intro c a d v w h; cases d <;> exact h) [(0, false), (1, false), (2, false), (3, false), (4, true), (5, false), (6, false), (7, false), (8, true), (10, false), (11, false), (12, false), (13, true), (14, false), (15, false), (16, false), (17, true)] (fuel := 3) (by kernel_rfl) ?_
    apply Exists.intro; refine ⟨?_, ⟨c2, e0, e1⟩, ?_⟩
    · iterate 17 ((first | (apply yieldN; (· (simp only [List.getElem?_toArray, List.getElem?_cons_succ, List.getElem?_cons_zero]; try rfl)); (· rfl)) | ((first | apply yieldP | apply yieldL); (· (simp only [List.getElem?_toArray, List.getElem?_cons_succ, List.getElem?_cons_zero]; try rfl)); (· rfl); (· (intros; go_simp; try with_reducible rfl)))); (· (simp only [Act.put, List.setIfInBounds_toArray, List.set_cons_zero, List.set_cons_succ]; try rfl)))
      exact rfl
    clear c2 e0 e1
    refine wpAnyM_one (fuel := 2) (i := 9) (by kernel_rfl) (by rfl) (fun K hK => ?_)    -- CALL
    go_wp2_with fail
    refine (HT.out.txt kb (by have := HST.out.2; omega) (by omega)).mono ?_
    rintro e w4 ⟨v4, rfl, h4⟩
    have H4 := Lib.hid h4
    clear h4 HT
    go_wp2_with fail
    refine hK _ _ (HC2.out _ _ H4.out) ?_
    clear hK
    refine wpAnyM_one (fuel := 1) (i := 18) (by kernel_rfl) (by rfl) (fun K hK => ?_)    -- CALL
    go_wp2_with fail
    refine (H4.out.i64 vq (by have := HST.out.2; rw [List.length_append]; omega)).mono ?_
    rintro e w5 ⟨v5, rfl, h5⟩
    have H5 := Lib.hid h5
    clear h5 H4
    go_wp2_with fail
    refine hK _ _ (HC2.out _ _ H5.out) ?_
    clear hK
    refine wpAnyM_of_any _ _ _ _ (by decide) ?_
    refine wpAny_list [19] (fuel := 0) (by kernel_rfl) ?_
    simp only [List.filterMap_cons, List.filterMap_nil, List.getElem?_toArray, List.getElem?_cons_succ, List.getElem?_cons_zero]
    go_wp2_with fail
    go_roundg (T.mv.length - (p + 1))
    case rel =>
      refine ⟨p + 1, by omega, rfl, by go_num, ?_⟩
      rw [HST.out.1, ← List.append_assoc]
      exact H5.out
    case measure => omega
end
end Go.Proofs.YtfncdgnhiinmjaaDoor

/-
  Routes in plain words: each Op is just one shard's.
-/
namespace Go.Proofs.YtfncdgnhiinmjaaDoor
open Go.RowKit Go.Av

theorem top_ne (p : Bs) : topP p = [] ↔ goodP p = false := by
  constructor
  · intro h
    cases hg : goodP p with
    | false => rfl
    | true =>
      cases p with
      | nil => cases hg
      | cons c q =>
        unfold topP partsP at h
        rw [hg, if_pos rfl] at h
        have hg' := hg
        unfold goodP at hg'
        simp only [Bool.and_eq_true, decide_eq_true_eq] at hg'
        obtain ⟨⟨⟨-, -⟩, h3⟩, -⟩ := hg'
        obtain ⟨t, r, e1, -, -⟩ := cut_head q
        rw [show (c :: q).drop 1 = q from rfl, e1] at h
        dsimp only at h
        subst h
        rw [e1] at h3
        simp [nameS] at h3
  · intro h
    unfold topP partsP
    rw [h]; rfl
theorem of_neg {S : RtS} (h : RtOK S) (p : Bs) : decide (0 ≤ ofS S p) = goodP p := by
  cases hg : goodP p with
  | false =>
    have := (top_ne p).2 hg
    unfold ofS
    rw [if_pos this]; rfl
  | true =>
    have ht : topP p ≠ [] := fun e => by rw [(top_ne p).1 e] at hg; cases hg
    obtain ⟨h1, h2, h3⟩ := h
    refine decide_eq_true ?_
    unfold ofS
    rw [if_neg ht]
    split
    · rename_i s hs
      obtain ⟨l1, l2, he, -⟩ := lookM_some hs
      exact (h3 (topP p, s) (by rw [he]; simp)).1
    · exact Int.emod_nonneg _ (by omega)
theorem of_top (S : RtS) {p : Bs} (h : goodP p = true) : ofS S (47 :: topP p) = ofS S p := by
  have ht : topP p ≠ [] := fun e => by rw [(top_ne p).1 e] at h; cases h
  obtain ⟨-, q, -, -, h4, h5⟩ := top_path ht
  unfold ofS
  rw [top_one h5 h4]

/-! ### the grid's rows -/
def rowN (S : RtS) (ps : List Bs) (P s : Nat) : List Nat := (List.range P).filter fun i => decide (ofS S (ps.getD i []) = (s : Int))
theorem rowS_eq (S : RtS) (ps : List Bs) (P s : Nat) : rowS S ps P s = (rowN S ps P s).map Int.ofNat := rfl
theorem rowN_mem {S : RtS} {ps : List Bs} {P s j : Nat} : j ∈ rowN S ps P s ↔ j < P ∧ ofS S (ps.getD j []) = (s : Int) := by
  unfold rowN
  rw [List.mem_filter, List.mem_range, decide_eq_true_eq]
theorem rowN_lt (S : RtS) (ps : List Bs) (P s : Nat) : (rowN S ps P s).Pairwise (· < ·) := (List.pairwise_lt_range (n := P)).filter _
/-- What was seen, in the row i behind its first k. -/
def snS (S : RtS) (ps : List Bs) (P i k j : Nat) : Bool := decide (0 ≤ ofS S (ps.getD j []) ∧ ofS S (ps.getD j []) < (i : Int)) || ((rowN S ps P i).take k).contains j
def seenS (S : RtS) (ps : List Bs) (P i k : Nat) : List Bool := (List.range P).map (snS S ps P i k)
theorem seen_len (S : RtS) (ps : List Bs) (P i k : Nat) : (seenS S ps P i k).length = P := by unfold seenS; simp
theorem seen_get {S : RtS} {ps : List Bs} {P i k j : Nat} (h : j < P) : (seenS S ps P i k)[j]? = some (snS S ps P i k j) := by
  unfold seenS
  rw [List.getElem?_map, List.getElem?_range h]; rfl
theorem seen_zero (S : RtS) (ps : List Bs) (P : Nat) : seenS S ps P 0 0 = List.replicate P false := by
  apply List.ext_getElem?
  intro j
  by_cases hj : j < P
  · rw [seen_get hj, List.getElem?_replicate, if_pos hj]
    unfold snS
    have : decide (0 ≤ ofS S (ps.getD j []) ∧ ofS S (ps.getD j []) < ((0 : Nat) : Int)) = false := decide_eq_false (by omega)
    rw [this]; simp
  · rw [List.getElem?_eq_none (by rw [seen_len]; omega), List.getElem?_eq_none (by simp; omega)]
theorem row_at {S : RtS} {ps : List Bs} {P i k : Nat} (hk : k < (rowN S ps P i).length) : (rowN S ps P i)[k] < P ∧ ofS S (ps.getD (rowN S ps P i)[k] []) = (i : Int) ∧ snS S ps P i k (rowN S ps P i)[k] = false ∧ (0 < k → ∀ h : k - 1 < (rowN S ps P i).length, (rowN S ps P i)[k - 1] < (rowN S ps P i)[k]) := by
  obtain ⟨h1, h2⟩ := rowN_mem.1 (List.getElem_mem hk)
  refine ⟨h1, h2, ?_, fun h0 h => ?_⟩
  · unfold snS
    rw [h2, show decide (0 ≤ (i : Int) ∧ (i : Int) < (i : Int)) = false from decide_eq_false (by omega), Bool.false_or]
    cases hc : ((rowN S ps P i).take k).contains (rowN S ps P i)[k] with
    | false => rfl
    | true =>
      have hm := List.contains_iff_mem.1 hc
      obtain ⟨j, hj, hje⟩ := List.mem_take_iff_getElem.1 hm
      have := List.pairwise_iff_getElem.1 (rowN_lt S ps P i) j k (by omega) hk (by omega)
      omega
  · exact List.pairwise_iff_getElem.1 (rowN_lt S ps P i) (k - 1) k h hk (by omega)
theorem seen_next {S : RtS} {ps : List Bs} {P i k : Nat} (hk : k < (rowN S ps P i).length) : seenS S ps P i (k + 1) = (seenS S ps P i k).set (rowN S ps P i)[k] true := by
  obtain ⟨h1, h2, -, -⟩ := row_at hk
  apply List.ext_getElem?
  intro j
  rw [List.getElem?_set, seen_len]
  by_cases hj : j < P
  · rw [seen_get hj]
    unfold snS
    rw [List.take_succ_eq_append_getElem hk]
    by_cases hn : (rowN S ps P i)[k] = j
    · rw [if_pos hn, if_pos h1]
      simp [hn]
    · rw [if_neg hn, seen_get hj]
      unfold snS
      have : ((rowN S ps P i).take k ++ [(rowN S ps P i)[k]]).contains j = ((rowN S ps P i).take k).contains j := by
        rw [Bool.eq_iff_iff, List.contains_iff_mem, List.contains_iff_mem, List.mem_append, List.mem_singleton]
        exact ⟨fun h => h.resolve_right (fun e => hn e.symm), .inl⟩
      rw [this]
  · rw [List.getElem?_eq_none (by rw [seen_len]; omega), if_neg (by omega), List.getElem?_eq_none (by rw [seen_len]; omega)]
theorem seen_row (S : RtS) (ps : List Bs) (P i : Nat) : seenS S ps P i (rowN S ps P i).length = seenS S ps P (i + 1) 0 := by
  unfold seenS
  refine List.map_congr_left fun j hj => ?_
  rw [List.mem_range] at hj
  unfold snS
  rw [List.take_length, List.take_zero]
  have h0 : ([] : List Nat).contains j = false := rfl
  rw [h0, Bool.or_false, Bool.eq_iff_iff, Bool.or_eq_true, decide_eq_true_eq, decide_eq_true_eq, List.contains_iff_mem, rowN_mem]
  omega
theorem seen_all {S : RtS} (h : RtOK S) (ps : List Bs) (P j : Nat) : snS S ps P S.n.toNat 0 j = goodP (ps.getD j []) := by
  have hb := of_bd h (ps.getD j [])
  rw [← of_neg h]
  unfold snS
  rw [List.take_zero]
  have h0 : ([] : List Nat).contains j = false := rfl
  rw [h0, Bool.or_false, decide_eq_decide]
  have := h.1
  omega
end Go.Proofs.YtfncdgnhiinmjaaDoor

/-
  Routes: what is too long; what stands beside a grid.
-/
namespace Go.Proofs.YtfncdgnhiinmjaaDoor
open Go.RowKit Go.Av

def longO (o : OpS) : Bool := decide (300 < (o.path.size : Int)) || decide (1100 < (o.data.size : Int))
def longS (l : List OpS) : Bool := decide (20 < (l.length : Int)) || l.any longO
set_option maxHeartbeats 1000000 in
theorem long_any (a : Option Addr) (len cap : Nat) (ops : List OpS) (w : World) (h : IsOps w a len cap ops) :
    Calls Tryd.prog 14 #[.slice a len cap] w fun e w' => e = .returned (.bool (longS ops)) ∧ w' = w := by
  have hl : ops.length = len := h.1
  subst hl
  have hcap := h.2.1
  have hcm := h.2.2.1
  unfold maxLen at hcm
  have H := Lib.hid h
  clear h
  by_cases h20 : 20 < (ops.length : Int)
  · have HL := Lib.hid (show longS ops = true by unfold longS; simp [h20])
    go_enter Tryd.func14, Tryd.ntmps14
    go_wp2_with fail
    go_ret
    rw [HL.out]
    exact ⟨rfl, rfl⟩
  go_enter Tryd.func14, Tryd.ntmps14
  go_wp2_with fail
  go_loop [3] (fun i => ∃ p : Nat, p ≤ ops.length ∧ i = .int .i64 p ∧ (ops.take p).any longO = false) (fun i => ops.length - (intOf i).toNat)
  case atStart => exact ⟨0, Nat.zero_le _, rfl, rfl⟩
  case round =>
    obtain ⟨p, hp, rfl, ha⟩ := hrel
    by_cases hlt : p < ops.length
    · obtain ⟨x, rfl, -, g1, g2, -, -, hs1, hs2⟩ := H.out.at hlt
      have hmm : ops[p] ∈ ops := List.getElem_mem hlt
      have hts : ops.take (p + 1) = ops.take p ++ [ops[p]] := by rw [List.take_succ_eq_append_getElem hlt]
      obtain ⟨o, ho⟩ : ∃ o, ops[p] = o := ⟨_, rfl⟩
      rw [ho] at g1 g2 hs1 hs2 hmm hts
      unfold maxLen at hs1 hs2
      have hL : longO o = true → longS ops = true := fun h => by
        unfold longS
        rw [List.any_eq_true.2 ⟨o, hmm, h⟩, Bool.or_true]
      have HX := Lib.hid (show _ ∧ _ ∧ _ from ⟨hL, hts, ha⟩)
      clear hL hts ha hmm ho
      by_cases h1 : 300 < (o.path.size : Int)
      · go_wp2_with fail
        go_ret
        rw [HX.out.1 (by unfold longO; simp [h1])]
        exact ⟨rfl, rfl⟩
      by_cases h2 : 1100 < (o.data.size : Int)
      · go_wp2_with fail
        go_ret
        rw [HX.out.1 (by unfold longO; simp [h2])]
        exact ⟨rfl, rfl⟩
      go_wp2_with fail
      go_round
      case rel =>
        refine ⟨p + 1, by omega, by go_num, ?_⟩
        rw [HX.out.2.1, List.any_append, HX.out.2.2, List.any_cons, List.any_nil]
        unfold longO
        simp [h1, h2]
      case measure => simp [intOf]; omega
    · obtain rfl : p = ops.length := by omega
      rw [List.take_length] at ha
      have HA := Lib.hid ha
      clear ha
      go_wp2_with fail
      go_ret
      refine ⟨?_, rfl⟩
      unfold longS
      rw [HA.out]
      simp [h20]

section
variable {w0 w : World} {t : Nat} {S : RtS} {R : List Thing} {rows : List (Value × Bs)} {v : Value} {ls : List (List Int)}
theorem RtG.side {A : List Thing} (h : RtG w0 w t S v ls (A ++ R) rows) : ∃ X, Sep w0 w (A ++ X) rows ∧ ∀ (w' : World) (A' : List Thing), Sep w0 w' (A' ++ X) rows → RtG w0 w' t S v ls (A' ++ R) rows := by
  obtain ⟨vs, hl, m, hS⟩ := h
  have e : ∀ B : List Thing, (B ++ (rtTh t m S ++ ThRow 1 v vs :: (zipT vs ls ++ R))).Perm (rtTh t m S ++ ThRow 1 v vs :: (zipT vs ls ++ (B ++ R))) := fun B => by
    refine (List.perm_append_comm_assoc B (rtTh t m S) _).trans (List.Perm.append_left _ ?_)
    refine (List.perm_middle).trans (List.Perm.cons _ ?_)
    exact List.perm_append_comm_assoc _ _ _
  exact ⟨_, hS.perm (e A).symm, fun w' A' hS' => ⟨vs, hl, m, hS'.perm (e A')⟩⟩
theorem RtG.table2 (h : RtG w0 w t S v ls R rows) : ∃ R', Rt w0 w t S R' rows := by
  obtain ⟨R', h1, -⟩ := h.table
  exact ⟨R', h1⟩
theorem RtG.row {v' : Value} {xs : List Value} (h : RtG w0 w t S v ls (ThRow 1 v' xs :: R) rows) : ∃ D, OwnRow w 1 v' xs D := by
  obtain ⟨X, hS, -⟩ := RtG.side (A := [_]) h
  exact hS.fst
theorem RtG.rowSet {y : Addr} {n c : Nat} {xs : List Value} (h : RtG w0 w t S v ls (ThRow 1 (.slice (some y) n c) xs :: R) rows) {i : Nat} (hi : i < n) (u : Value) :
    w.frozen? (y.add i) = false ∧ (∃ u, w.cell? (y.add i) = some u) ∧ RtG w0 (w.setCell (y.add i) u) t S v ls (ThRow 1 (.slice (some y) n c) (xs.set i u) :: R) rows := by
  obtain ⟨X, hS, hb⟩ := RtG.side (A := [_]) h
  obtain ⟨f1, -, f3, f4⟩ := hS.rowSet hi u
  exact ⟨f1, f3, hb _ [_] f4⟩
end
end Go.Proofs.YtfncdgnhiinmjaaDoor

/-
  Routes: are two lists of lists alike?
-/
namespace Go.Av
open Go.RowKit
/-- Rows of numbers that are read. -/
def ReadII (w : World) (v : Value) (ls : List (List Int)) : Prop := ∃ vs E, ReadRow w 1 v vs E ∧ vs.length = ls.length ∧ ∀ (i : Nat) l, ls[i]? = some l → ∃ vi Ei, vs[i]? = some vi ∧ ReadRow w 1 vi (l.map ivv) Ei
theorem frozen_heap' {w W : World} (h : W.heap = w.heap) (a : Addr) : W.cell? a = w.cell? a := by unfold World.cell?; rw [h]
theorem ReadII.slice {w : World} {v : Value} {ls : List (List Int)} (h : ReadII w v ls) : ∃ a c, v = .slice a ls.length c ∧ ls.length ≤ c ∧ c ≤ maxLen := by
  obtain ⟨vs, E, hr, hl, -⟩ := h
  obtain ⟨a, n, c, rfl, hln, hn, hc, -⟩ := hr
  rw [Nat.mul_one, hl] at hln
  subst hln
  exact ⟨a, c, rfl, hn, hc⟩
end Go.Av
namespace Go.Proofs.YtfncdgnhiinmjaaDoor
open Go.RowKit Go.Av

theorem readII_at {w : World} {a : Option Addr} {n c : Nat} {ls : List (List Int)} (h : ReadII w (.slice a n c) ls) {i : Nat} {l : List Int} (hl : ls[i]? = some l) : ∃ x ai ci, a = some x ∧ x.spot = none ∧ w.cell? (x.add i) = some (.slice ai l.length ci) ∧ l.length ≤ ci ∧ ci ≤ maxLen ∧
    (0 < l.length → ∃ y, ai = some y ∧ y.spot = none ∧ ∀ (j : Nat) z, l[j]? = some z → w.cell? (y.add j) = some (.int .i64 z)) := by
  obtain ⟨vs, E, hr, hll, hrow⟩ := h
  obtain ⟨vi, Ei, hvi, hri⟩ := hrow i l hl
  obtain ⟨hn, hnc, hcm, hcell⟩ := row_cell hr
  have hil : i < vs.length := (List.getElem?_eq_some_iff.1 hvi).1
  obtain ⟨x, rfl, hs, hx⟩ := hcell (by omega)
  obtain ⟨ai, ni, ci, rfl, -⟩ := id hri
  obtain ⟨hni, hnci, hcmi, hcelli⟩ := row_cell hri
  rw [List.length_map] at hni
  subst hni
  refine ⟨x, ai, ci, rfl, hs, hx i _ hvi, hnci, hcmi, fun h0 => ?_⟩
  obtain ⟨y, rfl, hys, hy⟩ := hcelli h0
  exact ⟨y, rfl, hys, fun j z hz => hy j _ (by rw [List.getElem?_map, hz]; rfl)⟩

theorem take_eq' {α : Type} {l1 l2 : List α} {p : Nat} (h : l1.take p = l2.take p) (h1 : p < l1.length) (h2 : p < l2.length) (he : l1[p] = l2[p]) : l1.take (p + 1) = l2.take (p + 1) := by
  rw [List.take_succ_eq_append_getElem h1, List.take_succ_eq_append_getElem h2, h, he]

set_option maxRecDepth 100000 in
set_option maxHeartbeats 4000000 in
theorem places_any (v1 v2 : Value) (l1 l2 : List (List Int)) (w : World) (h1 : ReadII w v1 l1) (h2 : ReadII w v2 l2) :
    Calls Tryd.prog 19 #[v1, v2] w fun e w' => e = .returned (.bool (decide (l1 = l2))) ∧ Upd w w' [] [] := by
  obtain ⟨a1, c1, rfl, hn1, hm1⟩ := h1.slice
  obtain ⟨a2, c2, rfl, hn2, hm2⟩ := h2.slice
  unfold maxLen at hm1 hm2
  have HR := Lib.hid (show _ ∧ _ from ⟨h1, h2⟩)
  clear h1 h2
  by_cases hll : l1.length = l2.length
  case neg =>
    have hb : ((l1.length : Int) != (l2.length : Int)) = true := by simp; omega
    have HD := Lib.hid (show decide (l1 = l2) = false by simp; intro e; exact hll (by rw [e]))
    clear hll
    go_enter Tryd.func19, Tryd.ntmps19
    go_wp2_with fail
    go_ret
    rw [HD.out]
    exact ⟨rfl, Upd.refl _ _⟩
  have hb : ((l1.length : Int) != (l2.length : Int)) = false := by simp; omega
  have HLL := Lib.hid hll
  clear hll
  go_enter Tryd.func19, Tryd.ntmps19
  go_wp2_with fail
  go_loopg [5] l1.length (fun k i wr => ∃ p : Nat, p ≤ l1.length ∧ k = l1.length - p ∧ i = .int .i64 (p : Int) ∧ l1.take p = l2.take p ∧ wr.heap = w.heap ∧ Upd w wr [] [])
  case atStart => exact ⟨0, Nat.zero_le _, rfl, rfl, rfl, rfl, Upd.refl _ _⟩
  case round =>
    obtain ⟨p, hp, hk, hv, ht, hh, hu⟩ := hrel
    subst hv
    by_cases hlt : p < l1.length
    case neg =>
      obtain rfl : p = l1.length := by omega
      have HU := Lib.hid (show _ ∧ _ from ⟨ht, hu⟩)
      clear ht hu hh
      go_wp2_with fail
      go_ret
      obtain ⟨ht, hu⟩ := HU.out
      rw [List.take_length, HLL.out, List.take_length] at ht
      exact ⟨by simp [ht], hu⟩
    have hlt2 : p < l2.length := by rw [← HLL.out]; exact hlt
    obtain ⟨x1, b1, e1, rfl, hs1, hx1, hle1, hme1, hy1⟩ := readII_at HR.out.1 (List.getElem?_eq_getElem hlt)
    obtain ⟨x2, b2, e2, rfl, hs2, hx2, hle2, hme2, hy2⟩ := readII_at HR.out.2 (List.getElem?_eq_getElem hlt2)
    obtain ⟨u1, hu1⟩ : ∃ u, l1[p] = u := ⟨_, rfl⟩
    obtain ⟨u2, hu2⟩ : ∃ u, l2[p] = u := ⟨_, rfl⟩
    rw [hu1] at hx1 hle1 hy1
    rw [hu2] at hx2 hle2 hy2
    unfold maxLen at hme1 hme2
    have k1 := fun (W : World) (hW : W.heap = wr.heap) => (frozen_heap' (hW.trans hh) _).trans hx1
    have k2 := fun (W : World) (hW : W.heap = wr.heap) => (frozen_heap' (hW.trans hh) _).trans hx2
    have HT := Lib.hid (show _ ∧ _ ∧ _ ∧ _ ∧ _ from ⟨ht, hu1, hu2, hh, hu⟩)
    have HY := Lib.hid (show _ ∧ _ from ⟨hy1, hy2⟩)
    clear hx1 hx2 ht hu1 hu2 hh hu hy1 hy2
    obtain ⟨b, hbb⟩ : ∃ b, ((u1.length : Int) != (u2.length : Int)) = b := ⟨_, rfl⟩
    have HB := Lib.hid hbb
    go_wp2_with fail
    refine wp_region_M (fun W => W.heap = wr.heap) 11 (by kernel_rfl) ?_
    refine wpAnyM_take (by kernel_rfl) (by intro c a d v w h; cases d <;> exact h) [(0, false), (1, false), (2, false), (3, true), (4, false), (5, false), (6, false), (7, false), (8, true), (9, false), (10, false)] (fuel := 0) (by kernel_rfl) ?_
    apply Exists.intro; refine ⟨?_, rfl, ?_⟩
    · iterate 11 ((first | (apply yieldN; (· (simp only [List.getElem?_toArray, List.getElem?_cons_succ, List.getElem?_cons_zero]; try rfl)); (· rfl)) | ((first | apply yieldP | apply yieldL); (· (simp only [List.getElem?_toArray, List.getElem?_cons_succ, List.getElem?_cons_zero]; try rfl)); (· rfl); (· (intros; go_simp; try with_reducible rfl)))); (· (simp only [Act.put, List.setIfInBounds_toArray, List.set_cons_zero, List.set_cons_succ]; try rfl)))
      exact rfl
    refine wpAnyM_done (by kernel_rfl) ?_ _
    cases b with
    | true =>
      have hne : u1.length ≠ u2.length := fun e => by
        have := HB.out
        rw [e] at this
        simp at this
      have HNE := Lib.hid hne
      clear hne
      go_wp2_with fail
      go_ret
      obtain ⟨ht, hu1, hu2, hh, hu⟩ := HT.out
      refine ⟨?_, hu.drew⟩
      have : decide (l1 = l2) = false := by
        simp
        intro e
        subst e
        exact HNE.out (by rw [← hu1, ← hu2])
      rw [this]
      rfl
    | false =>
    have hul : u1.length = u2.length := by have := HB.out; simp at this; omega
    have HUL := Lib.hid hul
    clear hul hbb
    go_wp2_with fail
    obtain ⟨wq, hwq⟩ : ∃ z, z = wr.drew := ⟨_, rfl⟩
    have hqh : wq.heap = wr.heap := by rw [hwq]; rfl
    have HQ := Lib.hid (show wq.heap = w.heap ∧ Upd w wq [] [] by rw [hwq]; exact ⟨HT.out.2.2.2.1, HT.out.2.2.2.2.drew⟩)
    rw [← hwq]
    have kk1 := k1 wq hqh
    have kk2 := k2 wq hqh
    clear k1 k2 hwq hqh
    go_loopg [6] u1.length (fun k2 i wr2 => ∃ q : Nat, q ≤ u1.length ∧ k2 = u1.length - q ∧ i = .int .i64 (q : Int) ∧ u1.take q = u2.take q ∧ wr2.heap = w.heap ∧ Upd w wr2 [] [])
    case atStart => exact ⟨0, Nat.zero_le _, rfl, rfl, rfl, HQ.out.1, HQ.out.2⟩
    case round =>
      obtain ⟨q, hq, hk2, hv2, ht2, hh2, hu2'⟩ := hrel
      subst hv2
      have hx1 := (frozen_heap' (hh2.trans HQ.out.1.symm) _).trans kk1
      have hx2 := (frozen_heap' (hh2.trans HQ.out.1.symm) _).trans kk2
      by_cases hq1 : q < u1.length
      case neg =>
        obtain rfl : q = u1.length := by omega
        have HU := Lib.hid (show _ ∧ _ ∧ _ from ⟨ht2, hh2, hu2'⟩)
        clear ht2 hh2 hu2' kk1 kk2 HQ hx2
        go_wp2_with fail
        go_roundg (l1.length - (p + 1))
        case rel =>
          obtain ⟨ht2, hh2, hu2'⟩ := HU.out
          rw [List.take_length, HUL.out, List.take_length] at ht2
          exact ⟨p + 1, by omega, rfl, by go_num, take_eq' HT.out.1 hlt hlt2 (by rw [HT.out.2.1, HT.out.2.2.1, ht2]), hh2, hu2'⟩
        case measure => omega
      have hq2 : q < u2.length := by rw [← HUL.out]; exact hq1
      obtain ⟨⟨yb1, yo1, ysp1⟩, rfl, hsp1, hy1⟩ := HY.out.1 (by omega)
      obtain ⟨⟨yb2, yo2, ysp2⟩, rfl, hsp2, hy2⟩ := HY.out.2 (by omega)
      dsimp only at hsp1 hsp2
      subst hsp1 hsp2
      have z1 := hy1 q _ (List.getElem?_eq_getElem hq1)
      have z2 := hy2 q _ (List.getElem?_eq_getElem hq2)
      rw [Addr.add_lit] at z1 z2
      have j1 := fun (W : World) (hW : W.heap = wr.heap) => (frozen_heap' (hW.trans hh2) _).trans z1
      have j2 := fun (W : World) (hW : W.heap = wr.heap) => (frozen_heap' (hW.trans hh2) _).trans z2
      have i1 := fun (W : World) (hW : W.heap = wr.heap) => (frozen_heap' hW _).trans hx1
      have i2 := fun (W : World) (hW : W.heap = wr.heap) => (frozen_heap' hW _).trans hx2
      obtain ⟨n1, hn1'⟩ : ∃ u, u1[q] = u := ⟨_, rfl⟩
      obtain ⟨n2, hn2'⟩ : ∃ u, u2[q] = u := ⟨_, rfl⟩
      rw [hn1'] at j1
      rw [hn2'] at j2
      have HT2 := Lib.hid (show _ ∧ _ ∧ _ ∧ _ ∧ _ from ⟨ht2, hn1', hn2', hh2, hu2'⟩)
      clear hy1 hy2 z1 z2 ht2 hn1' hn2' hh2 hu2' kk1 kk2 hx2
      obtain ⟨b, hbb⟩ : ∃ b, (n1 != n2) = b := ⟨_, rfl⟩
      have HB2 := Lib.hid hbb
      go_wp2_with fail
      refine wp_region_M (fun W => W.heap = wr.heap) 15 (by kernel_rfl) ?_
      refine wpAnyM_take (by kernel_rfl) (by intro c a d v w h; cases d <;> exact h) [(0, false), (1, false), (2, false), (3, true), (4, false), (5, false), (6, true), (7, false), (8, false), (9, false), (10, true), (11, false), (12, false), (13, true), (14, false)] (fuel := 0) (by kernel_rfl) ?_
      apply Exists.intro; refine ⟨?_, rfl, ?_⟩
      · iterate 15 ((first | (apply yieldN; (· (simp only [List.getElem?_toArray, List.getElem?_cons_succ, List.getElem?_cons_zero]; try rfl)); (· rfl)) | ((first | apply yieldP | apply yieldL); (· (simp only [List.getElem?_toArray, List.getElem?_cons_succ, List.getElem?_cons_zero]; try rfl)); (· rfl); (· (intros; go_simp; try with_reducible rfl)))); (· (simp only [Act.put, List.setIfInBounds_toArray, List.set_cons_zero, List.set_cons_succ]; try rfl)))
        exact rfl
      refine wpAnyM_done (by kernel_rfl) ?_ _
      cases b with
      | true =>
        have hne : n1 ≠ n2 := by simpa using HB2.out
        have HNE := Lib.hid hne
        clear hne
        go_wp2_with fail
        go_ret
        obtain ⟨-, hu1, hu2, -, -⟩ := HT.out
        obtain ⟨-, hn1, hn2, -, hu⟩ := HT2.out
        refine ⟨?_, hu.drew⟩
        have : decide (l1 = l2) = false := by
          simp
          intro e
          subst e
          have e12 : u1 = u2 := hu1.symm.trans hu2
          subst e12
          exact HNE.out (hn1.symm.trans hn2)
        rw [this]
        rfl
      | false =>
        have heq : n1 = n2 := by simpa using HB2.out
        have HEQ := Lib.hid heq
        clear heq
        go_wp2_with fail
        go_roundg (u1.length - (q + 1))
        case rel =>
          obtain ⟨ht2, hn1, hn2, hh2, hu⟩ := HT2.out
          exact ⟨q + 1, by omega, rfl, by go_num, take_eq' ht2 hq1 hq2 (by rw [hn1, hn2, HEQ.out]), hh2, hu.drew⟩
        case measure => omega
end Go.Proofs.YtfncdgnhiinmjaaDoor

/-
  Routes: the tables, the grids, each as one thing; their calls.
-/
namespace Go.Proofs.YtfncdgnhiinmjaaDoor
open Go.RowKit Go.Av

def ThTb (t : Nat) (S : RtS) : Thing := Bun fun L => ∃ m, L = rtTh t m S
def ThRf (t : Nat) (T : RtS) : Thing := Bun fun L => ∃ v, L = rfTh t v T
def ThGr (v : Value) (ls : List (List Int)) : Thing := Bun fun L => ∃ vs, vs.length = ls.length ∧ L = ThRow 1 v vs :: zipT vs ls
section
variable {w0 w : World} {t : Nat} {S : RtS} {R : List Thing} {rows : List (Value × Bs)}
theorem tb_iff : Sep w0 w (ThTb t S :: R) rows ↔ Rt w0 w t S R rows := by
  constructor
  · intro h
    obtain ⟨L, ⟨m, rfl⟩, h'⟩ := h.opens
    exact ⟨m, h'⟩
  · rintro ⟨m, h⟩
    exact Sep.shut (O := fun L => ∃ m, L = rtTh t m S) ⟨m, rfl⟩ h
theorem rf_iff : Sep w0 w (ThRf t S :: R) rows ↔ Rf w0 w t S R rows := by
  constructor
  · intro h
    obtain ⟨L, ⟨m, rfl⟩, h'⟩ := h.opens
    exact ⟨m, h'⟩
  · rintro ⟨m, h⟩
    exact Sep.shut (O := fun L => ∃ v, L = rfTh t v S) ⟨m, rfl⟩ h
theorem gr_tb {v : Value} {ls : List (List Int)} (h : RtG w0 w t S v ls R rows) : Sep w0 w (ThGr v ls :: ThTb t S :: R) rows := by
  obtain ⟨vs, hl, m, hS⟩ := h
  have h1 : Sep w0 w ((ThRow 1 v vs :: zipT vs ls) ++ (rtTh t m S ++ R)) rows := hS.perm (List.perm_append_comm_assoc (rtTh t m S) (ThRow 1 v vs :: zipT vs ls) R)
  have h2 : Sep w0 w (ThGr v ls :: (rtTh t m S ++ R)) rows := Sep.shut (O := fun L => ∃ vs : List Value, vs.length = ls.length ∧ L = ThRow 1 v vs :: zipT vs ls) ⟨vs, hl, rfl⟩ h1
  have h3 : Sep w0 w (rtTh t m S ++ (ThGr v ls :: R)) rows := h2.perm (List.perm_middle (l₁ := rtTh t m S)).symm
  exact (tb_iff.2 ⟨m, h3⟩).swap
theorem gr_rf {v : Value} {ls : List (List Int)} (h : RfG w0 w t S v ls R rows) : Sep w0 w (ThGr v ls :: ThRf t S :: R) rows := by
  obtain ⟨vs, hl, m, hS⟩ := h
  have h1 : Sep w0 w ((ThRow 1 v vs :: zipT vs ls) ++ (rfTh t m S ++ R)) rows := hS.perm (List.perm_append_comm_assoc (rfTh t m S) (ThRow 1 v vs :: zipT vs ls) R)
  have h2 : Sep w0 w (ThGr v ls :: (rfTh t m S ++ R)) rows := Sep.shut (O := fun L => ∃ vs : List Value, vs.length = ls.length ∧ L = ThRow 1 v vs :: zipT vs ls) ⟨vs, hl, rfl⟩ h1
  have h3 : Sep w0 w (rfTh t m S ++ (ThGr v ls :: R)) rows := h2.perm (List.perm_middle (l₁ := rfTh t m S)).symm
  exact (rf_iff.2 ⟨m, h3⟩).swap
theorem gr_read {v : Value} {ls : List (List Int)} (h : Sep w0 w (ThGr v ls :: R) rows) : ReadII w v ls := by
  obtain ⟨L, ⟨vs, hl, rfl⟩, hS⟩ := h.opens
  obtain ⟨D, hD⟩ := hS.has (T := ThRow 1 v vs) (by simp)
  obtain ⟨E, hE, -⟩ := OwnRow.read hD
  refine ⟨vs, E, hE, hl, fun i l hi => ?_⟩
  have hil : i < vs.length := by rw [hl]; exact (List.getElem?_eq_some_iff.1 hi).1
  have hm : ThRow 1 vs[i] (l.map ivv) ∈ zipT vs ls := by
    unfold zipT
    refine List.mem_map.2 ⟨(vs[i], l), List.mem_iff_getElem?.2 ⟨i, ?_⟩, rfl⟩
    rw [List.getElem?_zip_eq_some]
    exact ⟨List.getElem?_eq_getElem hil, hi⟩
  obtain ⟨D2, hD2⟩ := hS.has (T := ThRow 1 vs[i] (l.map ivv)) (by simp [hm])
  obtain ⟨E2, hE2, -⟩ := OwnRow.read hD2
  exact ⟨_, E2, List.getElem?_eq_getElem hil, hE2⟩
theorem rf_ver (h : Sep w0 w (ThRf t S :: R) rows) : w.cell? ⟨t, 1, none⟩ = some (.int .i64 S.ver) := by
  obtain ⟨a, c, hb, -⟩ := (rf_iff.1 h).facts
  exact cell_of hb 1 rfl
theorem rf_shards (h : Sep w0 w (ThRf t S :: R) rows) : w.cell? ⟨t, 0, none⟩ = some (.int .i64 S.n) := by
  obtain ⟨a, c, hb, -⟩ := (rf_iff.1 h).facts
  exact cell_of hb 0 rfl
/-- What the table writes is from now on only read. -/
theorem tb_put (h : Sep w0 w (ThTb t S :: R) rows) (hn : RtSh S) :
    Calls Tryd.prog 20 #[.pointer (some ⟨t, 0, none⟩)] w fun e w' => ∃ v, e = .returned v ∧ Sep w0 w' (ThTb t S :: R) ((v, bytesT S) :: rows) := by
  refine (put_table (tb_iff.1 h) hn).mono ?_
  rintro e w' ⟨v, rfl, h'⟩
  exact ⟨v, rfl, tb_iff.2 h'.toRowR⟩
theorem rfs_put (h : Sep w0 w (ThRf t S :: R) rows) (hn : RtSh S) :
    Calls Tryd.prog 27 #[.pointer (some ⟨t, 0, none⟩)] w fun e w' => ∃ v, e = .returned v ∧ Sep w0 w' (ThRf t S :: R) ((v, bytesR S) :: rows) := by
  refine (rf_put (rf_iff.1 h) hn).mono ?_
  rintro e w' ⟨v, rfl, u, h'⟩
  exact ⟨v, rfl, rf_iff.2 ⟨u, (Sep.third h').toRow⟩⟩
theorem tb_get (h : Sep w0 w (ThTb t S :: R) rows) (hd : Door w0) {v : Value} (hv : (v, bytesT S) ∈ rows) (hI : RtInv S) (hn : S.ver ≤ 1000000) :
    Calls Tryd.prog 18 #[v] w fun e w' => ∃ u, e = .returned (.tuple #[.pointer (some ⟨u, 0, none⟩), .int .i64 0]) ∧ Sep w0 w' (ThTb u (sortT S) :: ThTb t S :: R) rows := by
  refine (two_getT (tb_iff.1 h) hd hv hI hn).mono ?_
  rintro e w' ⟨u, rfl, m', h'⟩
  refine ⟨u, rfl, ?_⟩
  have h1 : Sep w0 w' (ThTb u (sortT S) :: (rtTh t m' S ++ R)) rows := tb_iff.2 h'
  have h2 : Sep w0 w' (rtTh t m' S ++ (ThTb u (sortT S) :: R)) rows := h1.perm (List.perm_middle (l₁ := rtTh t m' S)).symm
  exact (tb_iff.2 ⟨m', h2⟩).swap
theorem sort_nil {n v : Int} : sortT ⟨n, v, []⟩ = ⟨n, v, []⟩ := by unfold sortT sortM keysM; simp
theorem sort_ver {S : RtS} : (sortT S).ver = S.ver := rfl
theorem sort_riseT {S : RtS} (h : RtInv S) : RiseM (sortT S).mv := sort_rise h
theorem grid_eq {S T : RtS} (hn : S.n = T.n) (h : ∀ p, ofS S p = ofS T p) (ps : List Bs) (k : Nat) : gridS S ps k = gridS T ps k := by
  unfold gridS rowS
  rw [hn]
  refine List.map_congr_left fun s _ => ?_
  simp only [h]
end
end Go.Proofs.YtfncdgnhiinmjaaDoor
