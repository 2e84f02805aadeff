/-
  The walks through package disk.
-/
import Derived.Test.YthphinlibhafcaaDiskA
import Derived.Test.YthphinlibhafcaaRows
import Derived.Deep.LoopGhost
namespace Go.Proofs.Ythphinlibhafcaa
open Go.RowKit Go.Av

set_option maxHeartbeats 400000 in
theorem good_any (s : ByteArray) (w : World) (hs : s.size ≤ maxLen) :
    Calls Try.prog 45 #[.string s] w fun e w' => e = .returned (.bool (goodN s)) ∧ w = w' := by
  unfold maxLen at hs
  go_enter Try.func45, Try.ntmps45
  go_wp2
  go_loop [3, 6] (fun _ i => ∃ k : Nat, k ≤ s.size ∧ i = .int .i64 k ∧ (s.data.toList.take k).all okc = true) (fun _ i => s.size - (intOf i).toNat)
  case atStart => exact ⟨0, Nat.zero_le _, rfl, rfl⟩
  case round =>
    obtain ⟨k, hk, rfl, hall⟩ := hrel
    have H := Lib.hid hall
    clear hall
    have hsz := size_list s
    have Hsz := Lib.hid hsz
    clear hsz
    by_cases hlt : k < s.size
    · have hin : s[k] ∈ s.data.toList := by
        have : s[k] = s.data.toList[k]'(by rw [Hsz.out]; exact hlt) := rfl
        rw [this]; exact List.getElem_mem _
      have Hin := Lib.hid hin
      clear hin
      go_wp2
      · go_ret
        refine ⟨?_, rfl⟩
        have hno : okc s[k] = false := by simp [okc]; omega
        have : s.data.toList.all okc = false := by
          rw [Bool.eq_false_iff]; intro hh
          rw [List.all_eq_true] at hh
          rw [hh _ Hin.out] at hno; cases hno
        simp [goodN, this]
      · go_round
        case rel =>
          refine ⟨k + 1, by omega, by go_num, ?_⟩
          rw [List.take_succ_eq_append_getElem (by rw [Hsz.out]; exact hlt), List.all_append, H.out]
          have : s.data.toList[k]'(by rw [Hsz.out]; exact hlt) = s[k] := rfl
          simp [this, okc]; omega
        case measure => simp [intOf]; omega
      · go_ret
        refine ⟨?_, rfl⟩
        have hno : okc s[k] = false := by simp [okc]; omega
        have : s.data.toList.all okc = false := by
          rw [Bool.eq_false_iff]; intro hh
          rw [List.all_eq_true] at hh
          rw [hh _ Hin.out] at hno; cases hno
        simp [goodN, this]
    · have ha : s.data.toList.all okc = true := by
        rw [← H.out, List.take_of_length_le (by rw [Hsz.out]; omega)]
      have Ha := Lib.hid ha
      clear ha
      go_wp2
      all_goals
        go_ret
        refine ⟨?_, rfl⟩
        simp [goodN, Ha.out]
        try omega


theorem may_step (S : DiskS) (l : List ByteArray) (k : Nat) (hk : k ≤ l.length) (hoff : S.off = false) (hall : (l.take k).all goodN = true) (h : k < l.length → goodN l[k]! = false) :
    S.may l = if k < l.length then 1 else 0 := by
  by_cases hlt : k < l.length
  · have hno := h hlt
    rw [getElem!_pos l k hlt] at hno
    have : l.all goodN = false := by
      rw [Bool.eq_false_iff]; intro hh
      rw [List.all_eq_true] at hh
      rw [hh _ (List.getElem_mem hlt)] at hno; cases hno
    simp [DiskS.may, hoff, this, hlt]
  · rw [List.take_of_length_le (by omega)] at hall
    simp [DiskS.may, hoff, hall, hlt]

set_option maxHeartbeats 400000 in
theorem may_any {d m : Nat} {S : DiskS} {gs : List FileG} (g n c : Nat) (l : List ByteArray) (w : World) (hI : DiskI w d S m gs) (hn : l.length = n) (hm : n ≤ maxLen)
    (hc : ∀ i (h : i < l.length), w.cell? ⟨g, i, none⟩ = some (.string l[i])) (hl : ∀ s ∈ l, s.size ≤ maxLen) :
    Calls Try.prog 31 #[.pointer (some ⟨d, 0, none⟩), .slice (some ⟨g, 0, none⟩) n c] w fun e w' => e = .returned (.int .i64 (S.may l)) ∧ w = w' := by
  subst hn
  unfold maxLen at hm
  obtain ⟨T, hd⟩ := hI.hd
  have c1 : w.cell? ⟨d, 1, none⟩ = some (.bool S.off) := cell_of hd 1 rfl
  clear hd
  have Hc := Lib.hid hc
  clear hc
  by_cases hoff : S.off = true
  · go_enter Try.func31, Try.ntmps31
    go_wp2
    go_ret
    exact ⟨by simp [DiskS.may, hoff], rfl⟩
  · simp only [Bool.not_eq_true] at hoff
    rw [hoff] at c1
    have Hoff := Lib.hid hoff
    clear hoff
    go_enter Try.func31, Try.ntmps31
    go_wp2
    go_loop [6, 13] (fun _ i => ∃ k : Nat, k ≤ l.length ∧ i = .int .i64 k ∧ (l.take k).all goodN = true) (fun _ i => l.length - (intOf i).toNat)
    case atStart => exact ⟨0, Nat.zero_le _, rfl, rfl⟩
    case round =>
      obtain ⟨k, hk, rfl, hall⟩ := hrel
      have H := Lib.hid hall
      clear hall
      by_cases hlt : k < l.length
      · have ck := Hc.out k hlt
        have hsz := hl l[k] (List.getElem_mem hlt)
        cases hg : goodN l[k] with
        | false =>
          have HG := Lib.hid hg
          clear hg
          go_wp2_with (go_at_call 45; refine (good_any _ _ hsz).mono ?_; rintro e w' ⟨rfl, rfl⟩; rw [HG.out])
          go_ret
          refine ⟨?_, rfl⟩
          rw [may_step S l k hk Hoff.out H.out (fun _ => by rw [getElem!_pos l k hlt]; exact HG.out), if_pos hlt]; rfl
        | true =>
          have HG := Lib.hid hg
          clear hg
          go_wp2_with (go_at_call 45; refine (good_any _ _ hsz).mono ?_; rintro e w' ⟨rfl, rfl⟩; rw [HG.out])
          go_round
          case rel =>
            refine ⟨k + 1, by omega, by go_num, ?_⟩
            rw [List.take_succ_eq_append_getElem hlt, List.all_append, H.out]
            simp [HG.out]
          case measure => simp [intOf]; omega
      · go_wp2
        go_ret
        refine ⟨?_, rfl⟩
        rw [may_step S l k hk Hoff.out H.out (fun h => absurd h hlt), if_neg hlt]; rfl


theorem look (gs : List FileG) (name : ByteArray) : (∃ l1 g l2, gs = l1 ++ g :: l2 ∧ g.name = name) ∨ ∀ g ∈ gs, g.name ≠ name := by
  by_cases h : ∃ g ∈ gs, g.name = name
  · obtain ⟨g, hg, he⟩ := h
    obtain ⟨l1, l2, rfl⟩ := List.append_of_mem hg
    exact .inl ⟨l1, g, l2, rfl, he⟩
  · exact .inr fun g hg he => h ⟨g, hg, he⟩

theorem zero58 (w : World) : (zeroValue 58).run Try.prog w = .ok (.pointer none) w := by kernel_rfl

theorem look_there {w : World} {d m : Nat} {S : DiskS} {gs : List FileG} (hI : DiskI w d S m gs) {g : FileG} (hg : g ∈ gs) :
    (Instr.lookup 54 (.map (some m)) (.string g.name) false).run Try.prog w = .ok (.pointer (some ⟨g.f, 0, none⟩)) w :=
  mp_look hI.hm Try.underlying54 Try.underlying9 (key := .string g.name) trivial (List.mem_map.2 ⟨g, hg, rfl⟩) false
theorem look_not {w : World} {d m : Nat} {S : DiskS} {gs : List FileG} (hI : DiskI w d S m gs) {name : ByteArray} (hg : ∀ g ∈ gs, g.name ≠ name) :
    (Instr.lookup 54 (.map (some m)) (.string name) false).run Try.prog w = .ok (.pointer none) w :=
  mp_lookN hI.hm Try.underlying54 Try.underlying9 (key := .string name) trivial (fun p hp => by
    obtain ⟨g, hg', rfl⟩ := List.mem_map.1 hp
    intro he
    exact hg g hg' (by simpa [FileG.ent] using he)) (zero58 w) false

/-- What find answers. -/
def Found (S : DiskS) (gs : List FileG) (name : ByteArray) (e : Ending) : Prop :=
  (S.may [name] ≠ 0 ∧ e = .returned (.tuple #[.pointer none, .int .i64 (S.may [name])])) ∨
  (S.may [name] = 0 ∧ (∀ g ∈ gs, g.name ≠ name) ∧ e = .returned (.tuple #[.pointer none, .int .i64 4])) ∨
  (S.may [name] = 0 ∧ ∃ l1 g l2, gs = l1 ++ g :: l2 ∧ g.name = name ∧ e = .returned (.tuple #[.pointer (some ⟨g.f, 0, none⟩), .int .i64 0]))

set_option maxHeartbeats 400000 in
theorem find_any {d m : Nat} {S : DiskS} {gs : List FileG} (name : ByteArray) (w : World) (hI : DiskI w d S m gs) (hs : name.size ≤ maxLen) :
    Calls Try.prog 33 #[.pointer (some ⟨d, 0, none⟩), .string name] w fun e w' => Found S gs name e ∧ Upd w w' [] [] := by
  have hmay : ∀ (W : World), Upd w W [] [] → W.cell? ⟨w.heap.size, 0, none⟩ = some (.string name) → Calls Try.prog 31 #[.pointer (some ⟨d, 0, none⟩), .slice (some ⟨w.heap.size, 0, none⟩) 1 1] W fun e w' => e = .returned (.int .i64 (S.may [name])) ∧ W = w' := fun W hu hc =>
    may_any w.heap.size 1 1 [name] W (hI.upd0 hu) rfl (by decide) (fun i h => by obtain rfl : i = 0 := by simpa using h
                                                                                 exact hc) (by simpa using hs)
  have Hmay := Lib.hid hmay
  clear hmay
  by_cases h0 : S.may [name] = 0
  · have hne : (S.may [name] != 0) = false := by simp [h0]
    have H0 := Lib.hid h0
    clear h0
    go_enter Try.func33, Try.ntmps33
    go_wp2_with fail
    refine (Hmay.out _ (Upd.alloc0 _ _ _) (by simp)).mono ?_
    rintro e w1 ⟨rfl, hw⟩
    have hu : Upd w w1 [] [] := by rw [← hw]; exact Upd.alloc0 _ _ _
    clear hw
    have hI1 := hI.upd0 hu
    obtain ⟨T, hd⟩ := hI1.hd
    have c3 : w1.cell? ⟨d, 3, none⟩ = some (.map (some m)) := cell_of hd 3 rfl
    clear hd
    rcases look gs name with ⟨l1, g, l2, rfl, rfl⟩ | hno
    · have hl := look_there hI1 (g := g) (by simp)
      go_wp2_with fail
      go_ret2
      exact ⟨.inr (.inr ⟨H0.out, l1, g, l2, rfl, rfl, rfl⟩), hu⟩
    · have hl := look_not hI1 hno
      have Hno := Lib.hid hno
      clear hno
      go_wp2_with fail
      go_ret2
      exact ⟨.inr (.inl ⟨H0.out, Hno.out, rfl⟩), hu⟩
  · have hne : (S.may [name] != 0) = true := by simpa using h0
    have H0 := Lib.hid h0
    clear h0
    go_enter Try.func33, Try.ntmps33
    go_wp2_with fail
    refine (Hmay.out _ (Upd.alloc0 _ _ _) (by simp)).mono ?_
    rintro e w1 ⟨rfl, hw⟩
    have hu : Upd w w1 [] [] := by rw [← hw]; exact Upd.alloc0 _ _ _
    clear hw
    go_wp2_with fail
    go_ret2
    exact ⟨.inl ⟨H0.out, rfl⟩, hu⟩


def sumG (gs : List FileG) : Nat := (gs.map fun g => g.b.length).sum
theorem sumG_mid (l1 : List FileG) (g : FileG) (l2 : List FileG) : sumG (l1 ++ g :: l2) = sumG (l1 ++ l2) + g.b.length := by simp [sumG]; omega
theorem sumG_total {gs : List FileG} {fs : List FileS} (h : gs.map FileG.toFileS = fs) : sumG gs = total fs := by
  subst h; simp [sumG, total, Function.comp_def]

theorem own_slice {w : World} {v : Value} {b : Bs} {D : List Nat} (h : OwnRow w 1 v (b.map bv) D) : ∃ a c, v = .slice a b.length c := by
  obtain ⟨a, n, c, hv, hl, _⟩ := h
  simp at hl
  exact ⟨a, c, by rw [hv, hl]⟩

set_option maxHeartbeats 400000 in
theorem total_any {d m : Nat} {S : DiskS} {gs : List FileG} (w : World) (hI : DiskI w d S m gs) :
    Calls Try.prog 32 #[.pointer (some ⟨d, 0, none⟩)] w fun e w' => e = .returned (.int .i64 (total S.fs)) ∧ Upd w w' [] [] := by
  have hsum : sumG gs = total S.fs := sumG_total hI.hS
  have hbd : total S.fs ≤ 1048576 := by have := hI.fits; have := hI.hi; omega
  obtain ⟨T, hd⟩ := hI.hd
  have c3 : w.cell? ⟨d, 3, none⟩ = some (.map (some m)) := cell_of hd 3 rfl
  clear hd
  obtain ⟨o, hr, hR⟩ := mp_range (P := Try.prog) hI.hm Try.underlying54
  have hu0 := Upd.alloc1 w o []
  have hlm := hI.hm.lt
  have A : Aside (RangeIs (w.alloc o) .string m w.heap.size (gs.map FileG.ent) (gs.map FileG.ent) ∧ sumG gs = total S.fs) := ⟨hR, hsum⟩
  clear hR hsum
  go_enter Try.func32, Try.ntmps32
  go_wp2_with fail
  generalize w.alloc o = w0 at *
  go_loopg [3, 5] gs.length (fun k n _ wr => ∃ left : List FileG, left.length = k ∧ RangeIs wr .string m w.heap.size (gs.map FileG.ent) (left.map FileG.ent) ∧ Upd w wr [] [w.heap.size] ∧ (∀ g ∈ left, g ∈ gs) ∧ sumG left ≤ total S.fs ∧ n = .int .i64 ((total S.fs : Int) - (sumG left : Nat)))
  case atStart =>
    obtain ⟨hR, hsum⟩ := A.out
    exact ⟨gs, rfl, hR, hu0, fun _ h => h, by omega, by simp [hsum]⟩
  case round =>
    obtain ⟨left, hk, hR, hu, hin, hle, rfl⟩ := hrel
    rcases mp_next (P := Try.prog) FileG.ent hR (by omega) with ⟨rfl, hn⟩ | ⟨l1, g, l2, w1, rfl, hn, hR1, hu1, hen⟩
    · clear hR hk
      go_wp2_with fail
      go_ret
      exact ⟨by simp [sumG], hu.mono (fun _ h => h) (by simp)⟩
    · have hu' := hu.trans hu1
      obtain ⟨⟨T, hf⟩, hown, _⟩ := (hI.upd0 hu').hf g (hin g (by simp))
      obtain ⟨a, c, hv⟩ := own_slice hown
      have f0 : w1.cell? ⟨g.f, 0, none⟩ = some (.slice a g.b.length c) := by rw [← hv]; exact cell_of hf 0 rfl
      have hmid := sumG_mid l1 g l2
      have B : Aside (RangeIs w1 .string m w.heap.size (gs.map FileG.ent) ((l1 ++ l2).map FileG.ent) ∧ Upd w w1 [] [w.heap.size] ∧ (l1 ++ g :: l2).length = gk ∧ sumG (l1 ++ g :: l2) = sumG (l1 ++ l2) + g.b.length) := ⟨hR1, hu', hk, hmid⟩
      have b1 : 0 ≤ (total S.fs : Int) - (sumG (l1 ++ g :: l2) : Nat) := by omega
      have b2 : (total S.fs : Int) - (sumG (l1 ++ g :: l2) : Nat) ≤ 1048576 := by omega
      have b3 : (g.b.length : Int) ≤ 1048576 := by omega
      clear hf hown hv hR1 hR hu hu1 hk hmid hu' hr
      simp only [FileG.ent] at hn hen
      go_wp2_with fail
      obtain ⟨hR1, hu', hk, hmid⟩ := B.out
      go_roundg (l1 ++ l2).length
      case rel =>
        refine ⟨l1 ++ l2, rfl, hR1, hu', fun x hx => hin x (by simp at hx ⊢; rcases hx with h | h <;> simp [h]), by omega, ?_⟩
        congr 1
        omega
      case measure => simp at hk ⊢; omega
end Go.Proofs.Ythphinlibhafcaa
