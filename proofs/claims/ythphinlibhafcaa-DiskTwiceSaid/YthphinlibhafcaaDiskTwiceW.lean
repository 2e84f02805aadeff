/-
  DiskTwice: a crash behind a crash keeps what the first one kept.
-/
import Derived.Test.YthphinlibhafcaaHeld
namespace Go.Proofs.Ythphinlibhafcaa
open Go.RowKit Go.Av

theorem cra0 (room l : Int) (a : Bs) (one : Int) : (dsk room false l a 0).crash one = dsk room true l (a.take one.toNat) (a.take one.toNat).length := by
  rw [cra1]
  have : a.take (0 + min one.toNat (a.length - 0)) = a.take one.toNat := by
    rw [Nat.zero_add, Nat.sub_zero]
    by_cases h : one.toNat ≤ a.length
    · rw [Nat.min_eq_left h]
    · rw [Nat.min_eq_right (by omega), List.take_length, List.take_of_length_le (by omega)]
  rw [this]
  congr 1
  simp
theorem craS (room l : Int) (x : Bs) (k : Int) : (dsk room false l x x.length).crash k = dsk room true l x x.length := by
  rw [cra1]
  simp
theorem on_at (room l : Int) (x : Bs) (s : Nat) (k : Int) (h : wrap64 (l + 1) = k) : (dsk room true l x s).on = dsk room false k x s := by rw [on1, h]
theorem app2 (l : Int) (a b : Bs) (h : a.length ≤ 300) (hb : b.length ≤ 300) : (dsk 1000 false l a a.length).append ⟨#[102]⟩ b = (0, dsk 1000 false l (a ++ b) a.length) := app1 l a b _ (by omega)

set_option maxRecDepth 100000 in
set_option maxHeartbeats 1000000 in
theorem twice_walk (a0 : Option Addr) (len0 cap0 : Nat) (z0 : List Int) (a1 : Option Addr) (len1 cap1 : Nat) (z1 : List Int) (one two : Int) (w : World) (w0 : IsBytes w a0 len0 cap0 z0) (w1 : IsBytes w a1 len1 cap1 z1) :
    Calls Try.prog 5 #[.slice a0 len0 cap0, .slice a1 len1 cap1, .int .i64 one, .int .i64 two] w fun e w' => e = .returned (.bool true) ∧ Below w.heap.size w w' := by
  obtain ⟨la, Ea, hla, hra⟩ := w0.read
  obtain ⟨lb, Eb, hlb, hrb⟩ := w1.read
  clear w0 w1
  subst hla; subst hlb
  by_cases h1 : la.length ≤ 200 ∧ lb.length ≤ 200
  · obtain ⟨h1, h2⟩ := h1
    have hx : (la.take one.toNat).length ≤ 300 := by simp; omega
    go_enter Try.func5, Try.ntmps5
    go_wp2_with fail
    refine (awake_any _).mono ?_
    rintro e w1 ⟨rfl, hu1⟩
    go_wp2_with fail
    refine (Held.new (rows := [(.slice a0 la.length cap0, la), (.slice a1 lb.length cap1, lb)]) 1000 (by decide) (by decide) hu1 (by
      intro r hr
      simp only [List.mem_cons, List.not_mem_nil, or_false] at hr
      rcases hr with rfl | rfl
      · exact ⟨Ea, hra⟩
      · exact ⟨Eb, hrb⟩)).mono ?_
    rintro e w2 ⟨d, rfl, H⟩
    clear hra hrb hu1
    go_wp2_with fail
    refine (H.append ⟨#[102]⟩ (by decide) (by simp) (app0 la (by omega))).mono ?_
    clear H
    rintro e w3 ⟨rfl, H⟩
    go_wp2_with fail
    refine (H.crash one (cra0 _ _ _ _)).mono ?_
    clear H
    rintro e w4 ⟨rfl, H⟩
    go_wp2_with fail
    refine (H.on (on_at _ _ _ _ 2 (by kernel_rfl))).mono ?_
    clear H
    rintro e w5 ⟨rfl, H⟩
    go_wp2_with fail
    refine (H.read ⟨#[102]⟩ (by decide) (ask_f _ _ _ _) (get1 _ _ _ _)).mono ?_
    clear H
    rintro e w6 ⟨v6, rfl, H⟩
    go_wp2_with fail
    refine (H.crash two (craS _ _ _ _)).mono ?_
    clear H
    rintro e w7 ⟨rfl, H⟩
    go_wp2_with fail
    refine (H.on (on_at _ _ _ _ 3 (by kernel_rfl))).mono ?_
    clear H
    rintro e w8 ⟨rfl, H⟩
    go_wp2_with fail
    refine (H.read ⟨#[102]⟩ (by decide) (ask_f _ _ _ _) (get1 _ _ _ _)).mono ?_
    clear H
    rintro e w9 ⟨v9, rfl, H⟩
    go_wp2_with fail
    refine (H.append ⟨#[102]⟩ (by decide) (vb := .slice a1 lb.length cap1) (b := lb) (by simp) (app2 _ _ _ hx (by omega))).mono ?_
    clear H
    rintro e w10 ⟨rfl, H⟩
    go_wp2_with fail
    refine (H.sync ⟨#[102]⟩ (by decide) (syn1 _ _ _ _)).mono ?_
    clear H
    rintro e w11 ⟨rfl, H⟩
    go_wp2_with fail
    refine (H.crash 0 (craS _ _ _ _)).mono ?_
    clear H
    rintro e w12 ⟨rfl, H⟩
    go_wp2_with fail
    refine (H.on (on_at _ _ _ _ 4 (by kernel_rfl))).mono ?_
    clear H
    rintro e w13 ⟨rfl, H⟩
    go_wp2_with fail
    refine (H.read ⟨#[102]⟩ (by decide) (ask_f _ _ _ _) (get1 _ _ _ _)).mono ?_
    clear H
    rintro e w14 ⟨v14, rfl, H⟩
    have c1 := fun W hW => H.str (v := v6) (b := la.take one.toNat) (by simp) W hW
    have c2 := fun W hW => H.str (v := v9) (b := la.take one.toNat) (by simp) W hW
    have c3 := fun W hW => H.str (v := v14) (b := la.take one.toNat ++ lb) (by simp) W hW
    have c4 := fun W hW => H.str (v := .slice a1 lb.length cap1) (b := lb) (by simp) W hW
    have hcat : ¬ 9223372036854775807 < (la.take one.toNat).length + lb.length := by omega
    have hcat2 : ¬ 9223372036854775807 < min one.toNat la.length + lb.length := by simp at hx; omega
    have heq := bytes_list (la.take one.toNat) lb _ rfl
    have heq2 := bytes_eq (la.take one.toNat) lb _ rfl
    have HH := Lib.hid H
    clear H
    go_wp2_with (first | (go_at_call 17; go_must (refine (HH.out.lives).mono ?_); rintro e w15 ⟨rfl, rfl⟩))
    go_ret
    exact ⟨rfl, HH.out.below⟩
  · have hh : 200 < la.length ∨ 200 < lb.length := by omega
    clear h1
    by_cases h1 : 200 < la.length
    · clear hh
      go_enter Try.func5, Try.ntmps5
      go_wp2_with fail
      refine (awake_any _).mono ?_
      rintro e w1 ⟨rfl, hu1⟩
      go_wp2_with fail
      go_ret
      exact ⟨rfl, hu1.below⟩
    · have h2 : 200 < lb.length := by omega
      clear hh
      go_enter Try.func5, Try.ntmps5
      go_wp2_with fail
      refine (awake_any _).mono ?_
      rintro e w1 ⟨rfl, hu1⟩
      go_wp2_with fail
      go_ret
      exact ⟨rfl, hu1.below⟩
end Go.Proofs.Ythphinlibhafcaa
