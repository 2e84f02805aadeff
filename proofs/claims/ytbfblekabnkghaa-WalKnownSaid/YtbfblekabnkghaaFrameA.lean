/-
  Sums and frames in plain words.
-/
import Derived.Test.YtbfblekabnkghaaDiskA
namespace Go.Av
open Go.RowKit

theorem xor_right {x y p : Nat} (h : x ^^^ p = y ^^^ p) : x = y := by
  have := congrArg (· ^^^ p) h
  simpa [Nat.xor_assoc] using this
theorem xor_left {x y p : Nat} (h : p ^^^ x = p ^^^ y) : x = y := xor_right (p := p) (by rw [Nat.xor_comm x, Nat.xor_comm y]; exact h)

/-! ### the sum of bytes -/
def crcBit (c : Nat) : Nat := if c % 2 = 1 then (c / 2) ^^^ 3988292384 else c / 2
def crcBits : Nat → Nat → Nat
  | 0, c => c
  | k + 1, c => crcBits k (crcBit c)
def crcByte (c : Nat) (x : UInt8) : Nat := crcBits 8 (c ^^^ x.toNat)
def crcFold (c : Nat) (l : Bs) : Nat := l.foldl crcByte c
def crcS (l : Bs) : Nat := 4294967295 - crcFold 4294967295 l

theorem crcBit_lt {c : Nat} (h : c < 4294967296) : crcBit c < 4294967296 := by
  unfold crcBit
  split
  · exact Nat.xor_lt_two_pow (n := 32) (by omega) (by omega)
  · omega
theorem crcBits_lt : ∀ (k : Nat) {c : Nat}, c < 4294967296 → crcBits k c < 4294967296
  | 0, _, h => h
  | k + 1, _, h => crcBits_lt k (crcBit_lt h)
theorem crcByte_lt {c : Nat} (h : c < 4294967296) (x : UInt8) : crcByte c x < 4294967296 := crcBits_lt 8 (Nat.xor_lt_two_pow (n := 32) (by omega) (by have := x.toNat_lt; omega))
theorem crcFold_lt : ∀ (l : Bs) {c : Nat}, c < 4294967296 → crcFold c l < 4294967296
  | [], _, h => h
  | x :: r, _, h => crcFold_lt r (crcByte_lt h x)
theorem crcS_lt (l : Bs) : crcS l < 4294967296 := by unfold crcS; omega
theorem crcFold_append (c : Nat) (a b : Bs) : crcFold c (a ++ b) = crcFold (crcFold c a) b := by simp [crcFold, List.foldl_append]
theorem crcBits_succ : ∀ (k c : Nat), crcBits (k + 1) c = crcBit (crcBits k c)
  | 0, _ => rfl
  | k + 1, c => by rw [crcBits, crcBits_succ k, crcBits]

/-- A bit's step tells two sums apart. -/
theorem crcBit_inj {a b : Nat} (ha : a < 4294967296) (hb : b < 4294967296) (h : crcBit a = crcBit b) : a = b := by
  have top : ∀ x : Nat, x < 2147483648 → 2147483648 ≤ x ^^^ 3988292384 := by
    intro x hx
    have h1 : (x ^^^ 3988292384).testBit 31 = true := by
      rw [Nat.testBit_xor, Nat.testBit_lt_two_pow (i := 31) (by omega)]
      decide
    exact Nat.ge_two_pow_of_testBit h1
  have hx : ∀ x y : Nat, x ^^^ 3988292384 = y ^^^ 3988292384 → x = y := fun x y h => xor_right h
  unfold crcBit at h
  split at h <;> split at h
  · have := hx _ _ h; omega
  · have := top (a / 2) (by omega); omega
  · have := top (b / 2) (by omega); omega
  · omega
theorem crcBits_inj : ∀ (k : Nat) {a b : Nat}, a < 4294967296 → b < 4294967296 → crcBits k a = crcBits k b → a = b
  | 0, _, _, _, _, h => h
  | k + 1, _, _, ha, hb, h => crcBit_inj ha hb (crcBits_inj k (crcBit_lt ha) (crcBit_lt hb) h)
theorem crcByte_inj {a b : Nat} {x : UInt8} (ha : a < 4294967296) (hb : b < 4294967296) (h : crcByte a x = crcByte b x) : a = b :=
  xor_right (crcBits_inj 8 (Nat.xor_lt_two_pow (n := 32) (by omega) (by have := x.toNat_lt; omega)) (Nat.xor_lt_two_pow (n := 32) (by omega) (by have := x.toNat_lt; omega)) h)
theorem crcByte_inj' {a : Nat} {x y : UInt8} (ha : a < 4294967296) (h : crcByte a x = crcByte a y) : x = y := by
  have h1 : x.toNat = y.toNat := xor_left (crcBits_inj 8 (Nat.xor_lt_two_pow (n := 32) (by omega) (by have := x.toNat_lt; omega)) (Nat.xor_lt_two_pow (n := 32) (by omega) (by have := y.toNat_lt; omega)) h)
  exact UInt8.toNat_inj.1 h1
theorem crcFold_inj : ∀ (l : Bs) {a b : Nat}, a < 4294967296 → b < 4294967296 → crcFold a l = crcFold b l → a = b
  | [], _, _, _, _, h => h
  | x :: r, _, _, ha, hb, h => crcByte_inj ha hb (crcFold_inj r (crcByte_lt ha x) (crcByte_lt hb x) h)
/-- ONE BYTE TURNED: another sum. -/
theorem crcS_one (a b : Bs) {x y : UInt8} (h : crcS (a ++ x :: b) = crcS (a ++ y :: b)) : x = y := by
  have h0 := crcFold_lt a (c := 4294967295) (by omega)
  have h1 := crcFold_lt (a ++ x :: b) (c := 4294967295) (by omega)
  have h2 := crcFold_lt (a ++ y :: b) (c := 4294967295) (by omega)
  unfold crcS at h
  have h3 : crcFold 4294967295 (a ++ x :: b) = crcFold 4294967295 (a ++ y :: b) := by omega
  rw [crcFold_append, crcFold_append] at h3
  exact crcByte_inj' h0 (crcFold_inj b (crcByte_lt h0 x) (crcByte_lt h0 y) h3)

/-! ### numbers of four bytes -/
def be4 (v : Nat) : Bs := [UInt8.ofNat (v / 16777216), UInt8.ofNat (v / 65536), UInt8.ofNat (v / 256), UInt8.ofNat v]
def at4 (b : Bs) (i : Nat) : Nat := (b.getD i 0).toNat * 16777216 + (b.getD (i + 1) 0).toNat * 65536 + (b.getD (i + 2) 0).toNat * 256 + (b.getD (i + 3) 0).toNat
theorem at4_lt (b : Bs) (i : Nat) : at4 b i < 4294967296 := by
  unfold at4
  have h0 := (b.getD i 0).toNat_lt
  have h1 := (b.getD (i + 1) 0).toNat_lt
  have h2 := (b.getD (i + 2) 0).toNat_lt
  have h3 := (b.getD (i + 3) 0).toNat_lt
  omega
theorem of_nat (n : Nat) : (UInt8.ofNat n).toNat = n % 256 := by simp

/-! ### frames -/
def headS (n : Nat) : Bs := be4 n ++ be4 (4294967295 - n)
def frameS (r : Bs) : Bs := headS r.length ++ be4 (crcS (headS r.length ++ r)) ++ r
theorem headS_length (n : Nat) : (headS n).length = 8 := rfl
theorem frameS_length (r : Bs) : (frameS r).length = 12 + r.length := by simp [frameS, headS_length, be4]; omega

def nextS (b : Bs) : Nat × Int :=
  if b.length < 12 then (0, 1)
  else if at4 b 4 ≠ 4294967295 - at4 b 0 ∨ 20000 < at4 b 0 then (0, 2)
  else if b.length < 12 + at4 b 0 then (0, 1)
  else if crcS (b.take 8 ++ (b.drop 12).take (at4 b 0)) ≠ at4 b 8 then (0, 2)
  else (12 + at4 b 0, 0)

theorem at4_head (n : Nat) (hn : n < 4294967296) (c : Nat) (hc : c < 4294967296) (x : Bs) : at4 (headS n ++ be4 c ++ x) 0 = n ∧ at4 (headS n ++ be4 c ++ x) 4 = 4294967295 - n ∧ at4 (headS n ++ be4 c ++ x) 8 = c := by
  simp only [headS, be4, at4, List.cons_append, List.nil_append, List.getD_cons_zero, List.getD_cons_succ, of_nat]
  refine ⟨?_, ?_, ?_⟩ <;> omega

/-- A frame is read, whatever is behind it. -/
theorem nextS_frame (r x : Bs) (h : r.length ≤ 20000) : nextS (frameS r ++ x) = (12 + r.length, 0) := by
  have e : frameS r ++ x = headS r.length ++ be4 (crcS (headS r.length ++ r)) ++ (r ++ x) := by simp [frameS]
  obtain ⟨h1, h2, h3⟩ := at4_head r.length (by omega) (crcS (headS r.length ++ r)) (crcS_lt _) (r ++ x)
  rw [← e] at h1 h2 h3
  have hl : (frameS r ++ x).length = 12 + r.length + x.length := by rw [List.length_append, frameS_length]
  have t8 : (frameS r ++ x).take 8 = headS r.length := by
    rw [e, List.append_assoc, List.take_append_of_le_length (by rw [headS_length]; omega), List.take_of_length_le (by rw [headS_length]; omega)]
  have d12 : ((frameS r ++ x).drop 12).take r.length = r := by
    rw [e, show (12 : Nat) = (headS r.length ++ be4 (crcS (headS r.length ++ r))).length from rfl, List.drop_left, List.take_left]
  unfold nextS
  rw [h1, h2, h3, hl, t8, d12, if_neg (by omega), if_neg (by omega), if_neg (by omega), if_neg (by simp)]

/-- A frame that is cut short is torn. -/
theorem nextS_torn (r : Bs) (k : Nat) (h : r.length ≤ 20000) (hk : k < 12 + r.length) : nextS ((frameS r).take k) = (0, 1) := by
  have hl : ((frameS r).take k).length = k := by rw [List.length_take, frameS_length]; omega
  unfold nextS
  rw [hl]
  by_cases h12 : k < 12
  · rw [if_pos h12]
  · rw [if_neg h12]
    have hg : ∀ i, i < 12 → ((frameS r).take k).getD i 0 = (frameS r).getD i 0 := by
      intro i hi
      simp only [List.getD_eq_getElem?_getD, List.getElem?_take]
      rw [if_pos (by omega)]
    have e : frameS r = headS r.length ++ be4 (crcS (headS r.length ++ r)) ++ r := rfl
    obtain ⟨h1, h2, h3⟩ := at4_head r.length (by omega) (crcS (headS r.length ++ r)) (crcS_lt _) r
    rw [← e] at h1 h2 h3
    have e0 : at4 ((frameS r).take k) 0 = r.length := by
      rw [← h1]; unfold at4
      rw [hg 0 (by omega), hg (0 + 1) (by omega), hg (0 + 2) (by omega), hg (0 + 3) (by omega)]
    have e4 : at4 ((frameS r).take k) 4 = 4294967295 - r.length := by
      rw [← h2]; unfold at4
      rw [hg 4 (by omega), hg (4 + 1) (by omega), hg (4 + 2) (by omega), hg (4 + 3) (by omega)]
    rw [e0, e4, if_neg (by omega), if_pos (by omega)]

/-! ### a scan -/
theorem nextS_size (b : Bs) (h : (nextS b).2 = 0) : 12 ≤ (nextS b).1 ∧ (nextS b).1 ≤ b.length := by
  unfold nextS at h ⊢
  split at h
  · cases h
  · split at h
    · cases h
    · split at h
      · cases h
      · split at h
        · cases h
        · rename_i h1 h2 h3 h4
          rw [if_neg h1, if_neg h2, if_neg h3, if_neg h4]
          simp only
          omega
def scanF : Nat → Bs → List Bs × Nat × Int
  | 0, _ => ([], 0, 0)
  | f + 1, b => if b.length = 0 then ([], 0, 0) else if (nextS b).2 = 0 then
      (((b.take (nextS b).1).drop 12) :: (scanF f (b.drop (nextS b).1)).1, (nextS b).1 + (scanF f (b.drop (nextS b).1)).2.1, (scanF f (b.drop (nextS b).1)).2.2)
    else ([], 0, (nextS b).2)
def scanS (b : Bs) : List Bs × Nat × Int := scanF b.length b
theorem scanF_more : ∀ (f g : Nat) (b : Bs), b.length ≤ f → b.length ≤ g → scanF f b = scanF g b
  | 0, g, b, hf, _ => by
    have : b.length = 0 := by omega
    cases g with
    | zero => rfl
    | succ g => simp [scanF, this]
  | f + 1, 0, b, _, hg => by
    have : b.length = 0 := by omega
    simp [scanF, this]
  | f + 1, g + 1, b, hf, hg => by
    unfold scanF
    by_cases h0 : b.length = 0
    · rw [if_pos h0, if_pos h0]
    · rw [if_neg h0, if_neg h0]
      by_cases h : (nextS b).2 = 0
      · obtain ⟨h1, h2⟩ := nextS_size b h
        have hd : (b.drop (nextS b).1).length ≤ b.length - 1 := by rw [List.length_drop]; omega
        rw [if_pos h, if_pos h, scanF_more f g (b.drop (nextS b).1) (by omega) (by omega)]
      · rw [if_neg h, if_neg h]
theorem scanS_nil : scanS [] = ([], 0, 0) := rfl
theorem scanS_step {b : Bs} (h0 : b.length ≠ 0) (h : (nextS b).2 = 0) :
    scanS b = (((b.take (nextS b).1).drop 12) :: (scanS (b.drop (nextS b).1)).1, (nextS b).1 + (scanS (b.drop (nextS b).1)).2.1, (scanS (b.drop (nextS b).1)).2.2) := by
  obtain ⟨h1, h2⟩ := nextS_size b h
  unfold scanS
  obtain ⟨n, hn⟩ : ∃ n, b.length = n + 1 := ⟨b.length - 1, by omega⟩
  conv => lhs; rw [hn, scanF]
  rw [if_neg h0, if_pos h, scanF_more n (b.drop (nextS b).1).length (b.drop (nextS b).1) (by rw [List.length_drop]; omega) (Nat.le_refl _)]
theorem scanS_stop {b : Bs} (h0 : b.length ≠ 0) (h : (nextS b).2 ≠ 0) : scanS b = ([], 0, (nextS b).2) := by
  unfold scanS
  obtain ⟨n, hn⟩ : ∃ n, b.length = n + 1 := ⟨b.length - 1, by omega⟩
  rw [hn, scanF, if_neg h0, if_neg h]

def frames (l : List Bs) : Bs := l.flatMap frameS
theorem scanS_frame (r x : Bs) (h : r.length ≤ 20000) : scanS (frameS r ++ x) = (r :: (scanS x).1, 12 + r.length + (scanS x).2.1, (scanS x).2.2) := by
  have hn := nextS_frame r x h
  have hl := frameS_length r
  rw [scanS_step (by rw [List.length_append]; omega) (by rw [hn]), hn]
  simp only
  have hd : (frameS r ++ x).drop (12 + r.length) = x := by rw [← hl, List.drop_left]
  have ht : ((frameS r ++ x).take (12 + r.length)).drop 12 = r := by
    rw [← hl, List.take_left]
    have e : frameS r = (headS r.length ++ be4 (crcS (headS r.length ++ r))) ++ r := rfl
    rw [e, show (12 : Nat) = (headS r.length ++ be4 (crcS (headS r.length ++ r))).length by simp [headS_length, be4], List.drop_left]
  rw [hd, ht]
theorem scanS_frames : ∀ (l : List Bs) (x : Bs), (∀ r ∈ l, r.length ≤ 20000) → scanS (frames l ++ x) = (l ++ (scanS x).1, (frames l).length + (scanS x).2.1, (scanS x).2.2)
  | [], x, _ => by simp [frames]
  | r :: l, x, h => by
    have ih := scanS_frames l x (fun y hy => h y (by simp [hy]))
    have e : frames (r :: l) ++ x = frameS r ++ (frames l ++ x) := by simp [frames]
    rw [e, scanS_frame r _ (h r (by simp)), ih]
    have : (frames (r :: l)).length = 12 + r.length + (frames l).length := by simp [frames, frameS_length]
    rw [this]
    simp [Nat.add_assoc]
/-- The bytes that are left of frames, cut anywhere: the frames that are whole, and how it ends. -/
theorem scanS_cut : ∀ (l : List Bs) (k : Nat), (∀ r ∈ l, r.length ≤ 20000) → k ≤ (frames l).length →
    ∃ j, j ≤ l.length ∧ (frames (l.take j)).length ≤ k ∧ (∀ i, (frames (l.take i)).length ≤ k → i ≤ l.length → i ≤ j) ∧
      (scanS ((frames l).take k)).1 = l.take j ∧ (scanS ((frames l).take k)).2.1 = (frames (l.take j)).length ∧ ((scanS ((frames l).take k)).2.2 = 0 ∨ (scanS ((frames l).take k)).2.2 = 1)
  | [], k, _, hk => ⟨0, by simp, by simp [frames], by simp, by simp [frames, scanS_nil], by simp [frames, scanS_nil], by simp [frames, scanS_nil]⟩
  | r :: l, k, h, hk => by
    have hr := h r (by simp)
    have e : frames (r :: l) = frameS r ++ frames l := by simp [frames]
    have hl := frameS_length r
    by_cases hlt : k < 12 + r.length
    · have et : (frames (r :: l)).take k = (frameS r).take k := by rw [e, List.take_append_of_le_length (by omega)]
      refine ⟨0, by simp, by simp [frames], ?_, ?_⟩
      · intro i hi _
        cases i with
        | zero => exact Nat.le_refl _
        | succ i =>
          simp [frames, hl] at hi
          omega
      · by_cases h0 : k = 0
        · subst h0; simp [frames, scanS_nil]
        · have hn := nextS_torn r k hr hlt
          rw [et, scanS_stop (by rw [List.length_take, hl]; omega) (by rw [hn]; simp), hn]
          simp [frames]
    · have hk' : k - (12 + r.length) ≤ (frames l).length := by rw [e, List.length_append] at hk; omega
      obtain ⟨j, h1, h2, h3, h4, h5, h6⟩ := scanS_cut l (k - (12 + r.length)) (fun y hy => h y (by simp [hy])) hk'
      have et : (frames (r :: l)).take k = frameS r ++ (frames l).take (k - (12 + r.length)) := by
        rw [e, List.take_append, List.take_of_length_le (by omega), hl]
      have ef : ∀ i, (frames (r :: l.take i)).length = 12 + r.length + (frames (l.take i)).length := fun i => by simp [frames, hl]
      refine ⟨j + 1, by simp; omega, by rw [List.take_succ_cons, ef]; omega, ?_, ?_⟩
      · intro i hi hil
        cases i with
        | zero => omega
        | succ i =>
          rw [List.take_succ_cons, ef] at hi
          have := h3 i (by omega) (by simp at hil; omega)
          omega
      · rw [et, scanS_frame r _ hr, List.take_succ_cons, ef]
        refine ⟨by rw [h4], by simp only [h5], h6⟩
end Go.Av
