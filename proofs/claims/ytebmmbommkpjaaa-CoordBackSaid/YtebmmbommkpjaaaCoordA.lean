/-
  Decisions in plain words; the parts of slices that the walks need.
-/
import Derived.Test.YtebmmbommkpjaaaGenA
import Derived.Test.YtebmmbommkpjaaaInfos
import Derived.Test.YtebmmbommkpjaaaSepC
import Derived.Deep.LoopGhost
namespace Go.Proofs.Ytebmmbommkpjaaa
open Go.RowKit Go.Av

def iv (n : Int) : Value := .int .i64 n
theorem iv_one {l : List Int} : ∀ u ∈ l.map iv, u.oneCell' = true := by
  intro u hu
  obtain ⟨x, _, rfl⟩ := List.mem_map.1 hu
  rfl

def risF (last : Int) : List Int → Bool
  | [] => true
  | s :: r => !(decide (s ≤ last) || decide (4 ≤ s)) && risF s r
/-- May numbers be shards? -/
def risS (l : List Int) : Bool := risF (-1) l
def idxF (k : Int) : List Int → Option Nat
  | [] => none
  | x :: r => if x = k then some 0 else (idxF k r).map (· + 1)
/-- Where a number stands. -/
def idxS (k : Int) (l : List Int) : Int := match idxF k l with | none => -1 | some i => i

theorem risF_cons (last x : Int) (r : List Int) : risF last (x :: r) = (!(decide (x ≤ last) || decide (4 ≤ x)) && risF x r) := rfl
set_option maxHeartbeats 1000000 in
theorem rising_any (v : Value) (l : List Int) (E : List Nat) (w : World) (h : ReadRow w 1 v (l.map iv) E) :
    Calls Try.prog 33 #[v] w fun e w' => e = .returned (.bool (risS l)) ∧ w' = w := by
  obtain ⟨a, n, c, rfl, -⟩ := id h
  obtain ⟨hn, hnc, hcm, hcell⟩ := row_cell h
  rw [List.length_map] at hn
  subst hn
  unfold maxLen at hcm
  have HC := Lib.hid hcell
  clear hcell h
  go_enter Try.func33, Try.ntmps33
  go_wp2_with fail
  go_loop [3, 8] (fun u i => ∃ (p : Nat) (last : Int), p ≤ l.length ∧ i = .int .i64 p ∧ u = .int .i64 last ∧ risS l = risF last (l.drop p)) (fun _ i => l.length - (intOf i).toNat)
  case atStart => exact ⟨0, -1, Nat.zero_le _, rfl, rfl, rfl⟩
  case round =>
    obtain ⟨p, last, hp, rfl, rfl, hr⟩ := hrel
    by_cases hlt : p < l.length
    · obtain ⟨x, rfl, hs, hc⟩ := HC.out (by omega)
      have hx := hc p (iv l[p]) (by rw [List.getElem?_map, List.getElem?_eq_getElem hlt]; rfl)
      have hd : l.drop p = l[p] :: l.drop (p + 1) := (List.getElem_cons_drop hlt).symm
      obtain ⟨y, hy⟩ : ∃ y, y = l[p] := ⟨_, rfl⟩
      rw [hd, ← hy] at hr
      rw [← hy] at hx
      rw [risF_cons] at hr
      unfold iv at hx
      have HR := Lib.hid hr
      clear hc hd hy hr
      by_cases h1 : y ≤ last
      · go_wp2_with fail
        go_ret
        rw [HR.out]
        exact ⟨by simp [h1], rfl⟩
      by_cases h2 : 4 ≤ y
      · go_wp2_with fail
        go_ret
        rw [HR.out]
        exact ⟨by simp [h2], rfl⟩
      go_wp2_with fail
      go_round
      case rel => exact ⟨p + 1, y, by omega, by go_num, rfl, by rw [HR.out]; simp [h1, h2]⟩
      case measure => simp [intOf]; omega
    · have HR := Lib.hid hr
      clear hr
      go_wp2_with fail
      go_ret
      rw [HR.out, List.drop_eq_nil_of_le (by omega)]
      exact ⟨rfl, rfl⟩

theorem idxF_cons (k x : Int) (r : List Int) : idxF k (x :: r) = if x = k then some 0 else (idxF k r).map (· + 1) := rfl
set_option maxHeartbeats 1000000 in
theorem index_any (v : Value) (l : List Int) (k : Int) (E : List Nat) (w : World) (h : ReadRow w 1 v (l.map iv) E) :
    Calls Try.prog 57 #[v, .int .i64 k] w fun e w' => e = .returned (.int .i64 (idxS k l)) ∧ w' = w := by
  obtain ⟨a, n, c, rfl, -⟩ := id h
  obtain ⟨hn, hnc, hcm, hcell⟩ := row_cell h
  rw [List.length_map] at hn
  subst hn
  unfold maxLen at hcm
  have HC := Lib.hid hcell
  clear hcell h
  go_enter Try.func57, Try.ntmps57
  go_wp2_with fail
  go_loop [8] (fun i => ∃ (p : Nat), p ≤ l.length ∧ i = .int .i64 p ∧ idxF k l = (idxF k (l.drop p)).map (· + p)) (fun i => l.length - (intOf i).toNat)
  case atStart => exact ⟨0, Nat.zero_le _, rfl, by simp⟩
  case round =>
    obtain ⟨p, hp, rfl, hr⟩ := hrel
    by_cases hlt : p < l.length
    · obtain ⟨x, rfl, hs, hc⟩ := HC.out (by omega)
      have hx := hc p (iv l[p]) (by rw [List.getElem?_map, List.getElem?_eq_getElem hlt]; rfl)
      have hd : l.drop p = l[p] :: l.drop (p + 1) := (List.getElem_cons_drop hlt).symm
      obtain ⟨y, hy⟩ : ∃ y, y = l[p] := ⟨_, rfl⟩
      rw [hd, ← hy] at hr
      rw [← hy] at hx
      rw [idxF_cons] at hr
      unfold iv at hx
      have HR := Lib.hid hr
      clear hc hd hy hr
      by_cases h1 : k = y
      · have hb : (k == y) = true := by simp [h1]
        have HK := Lib.hid h1
        clear h1
        go_wp2_with fail
        go_ret
        have := HR.out
        rw [if_pos HK.out.symm] at this
        unfold idxS
        rw [this]
        exact ⟨by simp, rfl⟩
      · have hb : (k == y) = false := by simp [h1]
        go_wp2_with fail
        go_round
        case rel =>
          have := HR.out
          rw [if_neg (fun e => h1 e.symm)] at this
          refine ⟨p + 1, by omega, by go_num, ?_⟩
          rw [this, Option.map_map]
          congr 1
          funext z
          simp
          omega
        case measure => simp [intOf]; omega
    · have HR := Lib.hid hr
      clear hr
      go_wp2_with fail
      go_ret
      have := HR.out
      rw [List.drop_eq_nil_of_le (by omega)] at this
      unfold idxS
      rw [this]
      exact ⟨rfl, rfl⟩

/-- Is there one? -/
def findF (p : Int → Bool) : List Int → Option Nat
  | [] => none
  | x :: r => if p x then some 0 else (findF p r).map (· + 1)

theorem findF_cons (q : Int → Bool) (x : Int) (r : List Int) : findF q (x :: r) = if q x then some 0 else (findF q r).map (· + 1) := rfl
def idxQ (q : Int → Bool) (l : List Int) : Int := match findF q l with | none => -1 | some i => i

set_option maxHeartbeats 1000000 in
theorem indexFunc_whole (v : Value) (l : List Int) (q : Int → Bool) (E : List Nat) (w : World) (h : ReadRow w 1 v (l.map iv) E)
    (hq : ∀ x, Calls Try.prog 59 #[.int .i64 x] w fun e w' => e = .returned (.bool (q x)) ∧ w' = w) :
    Calls Try.prog 60 #[v, .func (.func 59) #[] #[]] w fun e w' => e = .returned (.int .i64 (idxQ q l)) ∧ w' = w := by
  obtain ⟨a, n, c, rfl, -⟩ := id h
  obtain ⟨hn, hnc, hcm, hcell⟩ := row_cell h
  rw [List.length_map] at hn
  subst hn
  unfold maxLen at hcm
  have HC := Lib.hid hcell
  have HQ := Lib.hid hq
  clear hcell h hq
  go_enter Try.func60, Try.ntmps60
  go_wp2_with fail
  go_loop [8] (fun i => ∃ (p : Nat), p ≤ l.length ∧ i = .int .i64 p ∧ findF q l = (findF q (l.drop p)).map (· + p)) (fun i => l.length - (intOf i).toNat)
  case atStart => exact ⟨0, Nat.zero_le _, rfl, by simp⟩
  case round =>
    obtain ⟨p, hp, rfl, hr⟩ := hrel
    by_cases hlt : p < l.length
    · obtain ⟨x, rfl, hs, hc⟩ := HC.out (by omega)
      have hx := hc p (iv l[p]) (by rw [List.getElem?_map, List.getElem?_eq_getElem hlt]; rfl)
      have hd : l.drop p = l[p] :: l.drop (p + 1) := (List.getElem_cons_drop hlt).symm
      obtain ⟨y, hy⟩ : ∃ y, y = l[p] := ⟨_, rfl⟩
      rw [hd, ← hy] at hr
      rw [← hy] at hx
      rw [findF_cons] at hr
      unfold iv at hx
      have HR := Lib.hid hr
      obtain ⟨b, hb⟩ : ∃ b, q y = b := ⟨_, rfl⟩
      have HB := Lib.hid hb
      have hqy := HQ.out y
      rw [hb] at hqy
      have HQY := Lib.hid hqy
      clear hc hd hy hr hb hqy
      cases b with
      | true =>
        go_wp2_with (go_at_call 59; refine HQY.out.mono ?_; rintro e w1 ⟨rfl, rfl⟩)
        go_ret
        have := HR.out
        rw [HB.out, if_pos rfl] at this
        unfold idxQ
        rw [this]
        exact ⟨by simp, rfl⟩
      | false =>
        go_wp2_with (go_at_call 59; refine HQY.out.mono ?_; rintro e w1 ⟨rfl, rfl⟩)
        go_round
        case rel =>
          have := HR.out
          rw [HB.out, if_neg (by simp)] at this
          refine ⟨p + 1, by omega, by go_num, ?_⟩
          rw [this, Option.map_map]
          congr 1
          funext z
          simp
          omega
        case measure => simp [intOf]; omega
    · have HR := Lib.hid hr
      clear hr
      go_wp2_with fail
      go_ret
      have := HR.out
      rw [List.drop_eq_nil_of_le (by omega)] at this
      unfold idxQ
      rw [this]
      exact ⟨rfl, rfl⟩

set_option maxHeartbeats 1000000 in
theorem indexFunc_good (v : Value) (l : List Int) (cp : Addr) (q : Int → Bool) (E : List Nat) (w : World) (h : ReadRow w 1 v (l.map iv) E)
    (hq : ∀ x, Calls Try.prog 65 #[.int .i64 x, .pointer (some cp)] w fun e w' => e = .returned (.bool (q x)) ∧ w' = w) :
    Calls Try.prog 60 #[v, .func (.func 65) #[] #[.pointer (some cp)]] w fun e w' => e = .returned (.int .i64 (idxQ q l)) ∧ w' = w := by
  obtain ⟨a, n, c, rfl, -⟩ := id h
  obtain ⟨hn, hnc, hcm, hcell⟩ := row_cell h
  rw [List.length_map] at hn
  subst hn
  unfold maxLen at hcm
  have HC := Lib.hid hcell
  have HQ := Lib.hid hq
  clear hcell h hq
  go_enter Try.func60, Try.ntmps60
  go_wp2_with fail
  go_loop [8] (fun i => ∃ (p : Nat), p ≤ l.length ∧ i = .int .i64 p ∧ findF q l = (findF q (l.drop p)).map (· + p)) (fun i => l.length - (intOf i).toNat)
  case atStart => exact ⟨0, Nat.zero_le _, rfl, by simp⟩
  case round =>
    obtain ⟨p, hp, rfl, hr⟩ := hrel
    by_cases hlt : p < l.length
    · obtain ⟨x, rfl, hs, hc⟩ := HC.out (by omega)
      have hx := hc p (iv l[p]) (by rw [List.getElem?_map, List.getElem?_eq_getElem hlt]; rfl)
      have hd : l.drop p = l[p] :: l.drop (p + 1) := (List.getElem_cons_drop hlt).symm
      obtain ⟨y, hy⟩ : ∃ y, y = l[p] := ⟨_, rfl⟩
      rw [hd, ← hy] at hr
      rw [← hy] at hx
      rw [findF_cons] at hr
      unfold iv at hx
      have HR := Lib.hid hr
      obtain ⟨b, hb⟩ : ∃ b, q y = b := ⟨_, rfl⟩
      have HB := Lib.hid hb
      have hqy := HQ.out y
      rw [hb] at hqy
      have HQY := Lib.hid hqy
      clear hc hd hy hr hb hqy
      cases b with
      | true =>
        go_wp2_with (go_at_call 65; refine HQY.out.mono ?_; rintro e w1 ⟨rfl, rfl⟩)
        go_ret
        have := HR.out
        rw [HB.out, if_pos rfl] at this
        unfold idxQ
        rw [this]
        exact ⟨by simp, rfl⟩
      | false =>
        go_wp2_with (go_at_call 65; refine HQY.out.mono ?_; rintro e w1 ⟨rfl, rfl⟩)
        go_round
        case rel =>
          have := HR.out
          rw [HB.out, if_neg (by simp)] at this
          refine ⟨p + 1, by omega, by go_num, ?_⟩
          rw [this, Option.map_map]
          congr 1
          funext z
          simp
          omega
        case measure => simp [intOf]; omega
    · have HR := Lib.hid hr
      clear hr
      go_wp2_with fail
      go_ret
      have := HR.out
      rw [List.drop_eq_nil_of_le (by omega)] at this
      unfold idxQ
      rw [this]
      exact ⟨rfl, rfl⟩

set_option maxHeartbeats 1000000 in
theorem indexFunc_done (v : Value) (l : List Int) (cp : Addr) (q : Int → Bool) (E : List Nat) (w : World) (h : ReadRow w 1 v (l.map iv) E)
    (hq : ∀ x, Calls Try.prog 38 #[.int .i64 x, .pointer (some cp)] w fun e w' => e = .returned (.bool (q x)) ∧ w' = w) :
    Calls Try.prog 60 #[v, .func (.func 38) #[] #[.pointer (some cp)]] w fun e w' => e = .returned (.int .i64 (idxQ q l)) ∧ w' = w := by
  obtain ⟨a, n, c, rfl, -⟩ := id h
  obtain ⟨hn, hnc, hcm, hcell⟩ := row_cell h
  rw [List.length_map] at hn
  subst hn
  unfold maxLen at hcm
  have HC := Lib.hid hcell
  have HQ := Lib.hid hq
  clear hcell h hq
  go_enter Try.func60, Try.ntmps60
  go_wp2_with fail
  go_loop [8] (fun i => ∃ (p : Nat), p ≤ l.length ∧ i = .int .i64 p ∧ findF q l = (findF q (l.drop p)).map (· + p)) (fun i => l.length - (intOf i).toNat)
  case atStart => exact ⟨0, Nat.zero_le _, rfl, by simp⟩
  case round =>
    obtain ⟨p, hp, rfl, hr⟩ := hrel
    by_cases hlt : p < l.length
    · obtain ⟨x, rfl, hs, hc⟩ := HC.out (by omega)
      have hx := hc p (iv l[p]) (by rw [List.getElem?_map, List.getElem?_eq_getElem hlt]; rfl)
      have hd : l.drop p = l[p] :: l.drop (p + 1) := (List.getElem_cons_drop hlt).symm
      obtain ⟨y, hy⟩ : ∃ y, y = l[p] := ⟨_, rfl⟩
      rw [hd, ← hy] at hr
      rw [← hy] at hx
      rw [findF_cons] at hr
      unfold iv at hx
      have HR := Lib.hid hr
      obtain ⟨b, hb⟩ : ∃ b, q y = b := ⟨_, rfl⟩
      have HB := Lib.hid hb
      have hqy := HQ.out y
      rw [hb] at hqy
      have HQY := Lib.hid hqy
      clear hc hd hy hr hb hqy
      cases b with
      | true =>
        go_wp2_with (go_at_call 38; refine HQY.out.mono ?_; rintro e w1 ⟨rfl, rfl⟩)
        go_ret
        have := HR.out
        rw [HB.out, if_pos rfl] at this
        unfold idxQ
        rw [this]
        exact ⟨by simp, rfl⟩
      | false =>
        go_wp2_with (go_at_call 38; refine HQY.out.mono ?_; rintro e w1 ⟨rfl, rfl⟩)
        go_round
        case rel =>
          have := HR.out
          rw [HB.out, if_neg (by simp)] at this
          refine ⟨p + 1, by omega, by go_num, ?_⟩
          rw [this, Option.map_map]
          congr 1
          funext z
          simp
          omega
        case measure => simp [intOf]; omega
    · have HR := Lib.hid hr
      clear hr
      go_wp2_with fail
      go_ret
      have := HR.out
      rw [List.drop_eq_nil_of_le (by omega)] at this
      unfold idxQ
      rw [this]
      exact ⟨rfl, rfl⟩
end Go.Proofs.Ytebmmbommkpjaaa
