/-
  DiskMoves: a file that is renamed has what it had, safe what was; the one that it stands in the place of is gone.
-/
import Derived.Test.YthphinlibhafcaaHeld2
namespace Go.Proofs.Ythphinlibhafcaa
open Go.RowKit Go.Av

def xN : ByteArray := ⟨#[120]⟩
def yN : ByteArray := ⟨#[121]⟩
def dk (off : Bool) (lives : Int) (fs : List FileS) : DiskS := { room := 1000, off := off, lives := lives, fs := fs }
theorem xy : ¬ (⟨#[120]⟩ : ByteArray) = ⟨#[121]⟩ := by decide
theorem yx : ¬ (⟨#[121]⟩ : ByteArray) = ⟨#[120]⟩ := by decide
theorem gx : goodN ⟨#[120]⟩ = true := by rfl
theorem gy : goodN ⟨#[121]⟩ = true := by rfl
theorem may_x (fs : List FileS) (l : Int) : (dk false l fs).may [⟨#[120]⟩] = 0 := by simp [DiskS.may, dk, gx]
theorem may_y (fs : List FileS) (l : Int) : (dk false l fs).may [⟨#[121]⟩] = 0 := by simp [DiskS.may, dk, gy]
theorem m1 (a : Bs) (h : a.length ≤ 200) : (DiskS.new 1000).append ⟨#[120]⟩ a = (0, dk false 1 [⟨⟨#[120]⟩, a, 0⟩]) := by
  have h1 : (DiskS.new 1000).may [⟨#[120]⟩] = 0 := may_x [] 1
  have h2 : ¬ ((DiskS.new 1000).room - (total (DiskS.new 1000).fs : Int) < (a.length : Int)) := by simp [DiskS.new, total]; omega
  unfold DiskS.append
  rw [if_neg (by simp [h1]), if_neg h2]
  rfl
theorem ask_hit (n : ByteArray) (l : Int) (fs : List FileS) (hg : goodN n = true) (h : hasN n fs = true) : (dk false l fs).ask n = 0 := by
  unfold DiskS.ask
  rw [if_neg (by simp [DiskS.may, dk, hg])]
  simp [dk, h]
theorem m2 (a : Bs) : (dk false 1 [⟨⟨#[120]⟩, a, 0⟩]).sync ⟨#[120]⟩ = (0, dk false 1 [⟨⟨#[120]⟩, a, a.length⟩]) := by
  unfold DiskS.sync
  rw [ask_hit _ _ _ gx (by simp [hasN]), if_pos rfl]
  simp [dk, updN, FileS.sync]
theorem m3 (a b : Bs) (h : a.length ≤ 200) (hb : b.length ≤ 200) : (dk false 1 [⟨⟨#[120]⟩, a, a.length⟩]).append ⟨#[120]⟩ b = (0, dk false 1 [⟨⟨#[120]⟩, a ++ b, a.length⟩]) := by
  unfold DiskS.append
  rw [if_neg (by simp [may_x]), if_neg (by simp [dk, total]; omega)]
  simp [dk, putApp]
theorem m4 (a b c : Bs) (h : a.length ≤ 200) (hb : b.length ≤ 200) (hc : c.length ≤ 200) : (dk false 1 [⟨⟨#[120]⟩, a ++ b, a.length⟩]).append ⟨#[121]⟩ c = (0, dk false 1 [⟨⟨#[120]⟩, a ++ b, a.length⟩, ⟨⟨#[121]⟩, c, 0⟩]) := by
  unfold DiskS.append
  rw [if_neg (by simp [may_y]), if_neg (by simp [dk, total]; omega)]
  simp [dk, putApp]
theorem m5 (f : Bs) (s : Nat) (c : Bs) : (dk false 1 [⟨⟨#[120]⟩, f, s⟩, ⟨⟨#[121]⟩, c, 0⟩]).sync ⟨#[121]⟩ = (0, dk false 1 [⟨⟨#[120]⟩, f, s⟩, ⟨⟨#[121]⟩, c, c.length⟩]) := by
  unfold DiskS.sync
  rw [ask_hit _ _ _ gy (by simp [hasN]), if_pos rfl]
  simp [dk, updN, FileS.sync]
theorem m6 (f : Bs) (s : Nat) (c : Bs) (t : Nat) : (dk false 1 [⟨⟨#[120]⟩, f, s⟩, ⟨⟨#[121]⟩, c, t⟩]).rename ⟨#[120]⟩ ⟨#[121]⟩ = (0, dk false 1 [⟨⟨#[121]⟩, f, s⟩]) := by
  unfold DiskS.rename
  rw [if_neg (by simp [DiskS.may, dk, gx, gy]), if_pos (by simp [dk, hasN])]
  simp [dk, renN, hasN, delN, updN]
theorem m7 (f : Bs) (s : Nat) : (dk false 1 [⟨⟨#[121]⟩, f, s⟩]).ask ⟨#[120]⟩ = 4 := by
  unfold DiskS.ask
  rw [if_neg (by simp [may_x])]
  simp [dk, hasN]
theorem m8 (l : Int) (f : Bs) (s : Nat) : (dk false l [⟨⟨#[121]⟩, f, s⟩]).ask ⟨#[121]⟩ = 0 := ask_hit _ _ _ gy (by simp [hasN])
theorem m9 (l : Int) (f : Bs) (s : Nat) : DiskS.read (dk false l [⟨⟨#[121]⟩, f, s⟩]) ⟨#[121]⟩ = f := by
  unfold DiskS.read
  rw [m8, if_pos rfl]
  simp [getN, dk]
theorem m10 (a b : Bs) : (dk false 1 [⟨⟨#[121]⟩, a ++ b, a.length⟩]).crash 0 = dk true 1 [⟨⟨#[121]⟩, a, a.length⟩] := by
  simp [DiskS.crash, dk, FileS.crash]
theorem m11 (f : Bs) (s : Nat) : (dk true 1 [⟨⟨#[121]⟩, f, s⟩]).on = dk false 2 [⟨⟨#[121]⟩, f, s⟩] := by
  have : wrap64 (1 + 1) = 2 := by kernel_rfl
  simp only [DiskS.on, dk, this]

set_option maxRecDepth 100000 in
set_option maxHeartbeats 1000000 in
theorem moves_walk (a0 : Option Addr) (len0 cap0 : Nat) (z0 : List Int) (a1 : Option Addr) (len1 cap1 : Nat) (z1 : List Int) (a2 : Option Addr) (len2 cap2 : Nat) (z2 : List Int) (w : World) (w0 : IsBytes w a0 len0 cap0 z0) (w1 : IsBytes w a1 len1 cap1 z1) (w2 : IsBytes w a2 len2 cap2 z2) :
    Calls Try.prog 6 #[.slice a0 len0 cap0, .slice a1 len1 cap1, .slice a2 len2 cap2] w fun e w' => e = .returned (.bool true) ∧ Below w.heap.size w w' := by
  obtain ⟨la, Ea, hla, hra⟩ := w0.read
  obtain ⟨lb, Eb, hlb, hrb⟩ := w1.read
  obtain ⟨lc, Ec, hlc, hrc⟩ := w2.read
  clear w0 w1 w2
  subst hla; subst hlb; subst hlc
  by_cases h1 : la.length ≤ 200 ∧ lb.length ≤ 200 ∧ lc.length ≤ 200
  · obtain ⟨h1, h2, h3⟩ := h1
    go_enter Try.func6, Try.ntmps6
    go_wp2_with fail
    refine (awake_any _).mono ?_
    rintro e w1 ⟨rfl, hu1⟩
    go_wp2_with fail
    refine (Held.new (rows := [(.slice a0 la.length cap0, la), (.slice a1 lb.length cap1, lb), (.slice a2 lc.length cap2, lc)]) 1000 (by decide) (by decide) hu1 (by
      intro r hr
      simp only [List.mem_cons, List.not_mem_nil, or_false] at hr
      rcases hr with rfl | rfl | rfl
      · exact ⟨Ea, hra⟩
      · exact ⟨Eb, hrb⟩
      · exact ⟨Ec, hrc⟩)).mono ?_
    rintro e w2 ⟨d, rfl, H⟩
    clear hra hrb hrc hu1
    go_wp2_with fail
    refine (H.append ⟨#[120]⟩ (by decide) (b := la) (by simp) (m1 la h1)).mono ?_
    clear H
    rintro e w3 ⟨rfl, H⟩
    go_wp2_with fail
    refine (H.sync ⟨#[120]⟩ (by decide) (m2 _)).mono ?_
    clear H
    rintro e w4 ⟨rfl, H⟩
    go_wp2_with fail
    refine (H.append ⟨#[120]⟩ (by decide) (b := lb) (by simp) (m3 _ _ h1 h2)).mono ?_
    clear H
    rintro e w5 ⟨rfl, H⟩
    go_wp2_with fail
    refine (H.append ⟨#[121]⟩ (by decide) (b := lc) (by simp) (m4 _ _ _ h1 h2 h3)).mono ?_
    clear H
    rintro e w6 ⟨rfl, H⟩
    go_wp2_with fail
    refine (H.sync ⟨#[121]⟩ (by decide) (m5 _ _ _)).mono ?_
    clear H
    rintro e w7 ⟨rfl, H⟩
    go_wp2_with fail
    refine (H.rename ⟨#[120]⟩ ⟨#[121]⟩ (by decide) (by decide) (m6 _ _ _ _)).mono ?_
    clear H
    rintro e w8 ⟨rfl, H⟩
    go_wp2_with fail
    refine (H.read ⟨#[120]⟩ (by decide) (m7 _ _) rfl).mono ?_
    clear H
    rintro e w9 ⟨v9, rfl, H⟩
    go_wp2_with fail
    refine (H.read ⟨#[121]⟩ (by decide) (m8 _ _ _) (m9 _ _ _)).mono ?_
    clear H
    rintro e w10 ⟨v10, rfl, H⟩
    go_wp2_with fail
    refine (H.crash 0 (m10 _ _)).mono ?_
    clear H
    rintro e w11 ⟨rfl, H⟩
    go_wp2_with fail
    refine (H.on (m11 _ _)).mono ?_
    clear H
    rintro e w12 ⟨rfl, H⟩
    go_wp2_with fail
    refine (H.read ⟨#[121]⟩ (by decide) (m8 _ _ _) (m9 _ _ _)).mono ?_
    clear H
    rintro e w13 ⟨v13, rfl, H⟩
    have c1 := fun W hW => H.str (v := v10) (b := la ++ lb) (by simp) W hW
    have c2 := fun W hW => H.str (v := v13) (b := la) (by simp) W hW
    have c3 := fun W hW => H.str (v := .slice a0 la.length cap0) (b := la) (by simp) W hW
    have c4 := fun W hW => H.str (v := .slice a1 lb.length cap1) (b := lb) (by simp) W hW
    have hcat : ¬ 9223372036854775807 < la.length + lb.length := by omega
    have heq := bytes_list la lb _ rfl
    have heq2 := bytes_eq la lb _ rfl
    have HH := Lib.hid H
    clear H
    have hnm : (DiskS.names (dk false 2 [⟨⟨#[121]⟩, la, la.length⟩])).length = 1 := by simp [DiskS.names, dk]
    go_wp2_with (first | (go_at_call 19; go_must (refine (HH.out.names (by simp [dk]) (by simp [dk]; decide)).mono ?_); rw [hnm]; rintro e w15 ⟨an, cn, rfl, H15⟩))
    go_ret
    exact ⟨rfl, H15.below⟩
  · have hh : 200 < la.length ∨ 200 < lb.length ∨ 200 < lc.length := by omega
    clear h1
    by_cases h1 : 200 < la.length
    · clear hh
      go_enter Try.func6, Try.ntmps6
      go_wp2_with fail
      refine (awake_any _).mono ?_
      rintro e w1 ⟨rfl, hu1⟩
      go_wp2_with fail
      go_ret
      exact ⟨rfl, hu1.below⟩
    by_cases h2 : 200 < lb.length
    · clear hh
      go_enter Try.func6, Try.ntmps6
      go_wp2_with fail
      refine (awake_any _).mono ?_
      rintro e w1 ⟨rfl, hu1⟩
      go_wp2_with fail
      go_ret
      exact ⟨rfl, hu1.below⟩
    · have h3 : 200 < lc.length := by omega
      clear hh
      go_enter Try.func6, Try.ntmps6
      go_wp2_with fail
      refine (awake_any _).mono ?_
      rintro e w1 ⟨rfl, hu1⟩
      go_wp2_with fail
      go_ret
      exact ⟨rfl, hu1.below⟩
end Go.Proofs.Ythphinlibhafcaa
