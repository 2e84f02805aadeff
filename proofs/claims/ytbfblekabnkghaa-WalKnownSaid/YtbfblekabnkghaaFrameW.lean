/-
  The walk of the sum of bytes.
-/
import Derived.Test.YtbfblekabnkghaaGenA
import Derived.Test.YtbfblekabnkghaaFrameA
import Derived.Test.YtbfblekabnkghaaDiskW
import Derived.Deep.LoopGhost
namespace Go.Proofs.Ytbfblekabnkghaa
open Go.RowKit Go.Av

/-- Rows of bytes that one slice holds. -/
def RowsAt (w : World) (v : Value) (rows : List (Value × Bs)) : Prop :=
  (∃ E, ReadRow w 1 v (rows.map (·.1)) E) ∧ ∀ r ∈ rows, (∃ E, ReadRow w 1 r.1 (r.2.map bv) E) ∧ ∃ a c, r.1 = .slice a r.2.length c

theorem even_sum {c : Nat} (h : c % 2 = 0) : crcBit c = c / 2 := by unfold crcBit; rw [if_neg (by omega)]
theorem odd_sum {c : Nat} (h : c % 2 = 1) : crcBit c = (c / 2) ^^^ 3988292384 := by unfold crcBit; rw [if_pos h]
theorem and_bit {c : Nat} (h : c < 4294967296) : bits .and .u32 (c : Int) 1 = ((c % 2 : Nat) : Int) := by
  have := u32_and_nat c 1 h (by omega)
  rw [Nat.and_one_is_mod] at this
  exact this

theorem sum_even {c : Nat} (h : c < 4294967296) (hp : c % 2 = 0) : bits .xor .u32 ((c : Int) / 2) (bits .and .u32 3988292384 0) = ((crcBit c : Nat) : Int) := by
  have e1 : bits .and .u32 3988292384 0 = 0 := by decide
  have := u32_xor_nat (c / 2) 0 (by omega) (by omega)
  rw [e1, even_sum hp]
  simpa using this
theorem sum_odd {c : Nat} (h : c < 4294967296) (hp : c % 2 = 1) : bits .xor .u32 ((c : Int) / 2) (bits .and .u32 3988292384 4294967295) = ((crcBit c : Nat) : Int) := by
  have e1 : bits .and .u32 3988292384 4294967295 = 3988292384 := by decide
  have := u32_xor_nat (c / 2) 3988292384 (by omega) (by omega)
  rw [e1, odd_sum hp]
  simpa using this
theorem xor_max {c : Nat} (h : c < 4294967296) : 4294967295 ^^^ c = 4294967295 - c := by
  refine Nat.eq_of_testBit_eq fun i => ?_
  have h1 : (4294967295 - c).testBit i = (decide (i < 32) && !c.testBit i) := by
    have := Nat.testBit_two_pow_sub_succ (n := 32) (x := c) (by omega) i
    rwa [show 2 ^ 32 - (c + 1) = 4294967295 - c by omega] at this
  have h2 : (4294967295 : Nat).testBit i = decide (i < 32) := by
    have := Nat.testBit_two_pow_sub_one 32 i
    exact this
  rw [Nat.testBit_xor, h1, h2]
  by_cases hi : i < 32
  · simp [hi]
  · have : c.testBit i = false := Nat.testBit_lt_two_pow (Nat.lt_of_lt_of_le h (Nat.pow_le_pow_right (n := 2) (by omega) (show 32 ≤ i by omega)))
    simp [hi, this]
theorem not_u32 {c : Nat} (h : c < 4294967296) : bits .xor .u32 IntKind.u32.max (c : Int) = ((4294967295 - c : Nat) : Int) := by
  have := u32_xor_nat 4294967295 c (by omega) h
  rw [xor_max h] at this
  exact this
theorem rows_step {rows : List (Value × Bs)} {n : Nat} (h : n < rows.length) (c : Nat) : crcFold c ((rows.take (n + 1)).flatMap (·.2)) = crcFold (crcFold c ((rows.take n).flatMap (·.2))) rows[n].2 := by
  rw [List.take_succ_eq_append_getElem h, List.flatMap_append, crcFold_append]
  simp
theorem bytes_step {l : Bs} {n : Nat} (h : n < l.length) (c : Nat) : crcFold c (l.take (n + 1)) = crcByte (crcFold c (l.take n)) l[n] := by
  rw [List.take_succ_eq_append_getElem h, crcFold_append]
  rfl

set_option maxRecDepth 100000 in
set_option maxHeartbeats 1000000 in
theorem crc_any (v : Value) (rows : List (Value × Bs)) (w : World) (h : RowsAt w v rows) :
    Calls Try.prog 55 #[v] w fun e w' => e = .returned (.int .u32 (crcS (rows.flatMap (·.2)))) ∧ w' = w := by
  obtain ⟨⟨E, hE⟩, hrows⟩ := h
  obtain ⟨a, n, c, rfl, -⟩ := id hE
  obtain ⟨hn, hnc, hcm, hcell⟩ := row_cell hE
  rw [List.length_map] at hn
  subst hn
  unfold maxLen at hcm
  have HC := Lib.hid hcell
  have HR := Lib.hid hrows
  clear hE hcell hrows
  go_enter Try.func55, Try.ntmps55
  go_wp2_with fail
  go_loopg [3, 10] rows.length (fun k c i wr => wr = w ∧ ∃ n : Nat, n ≤ rows.length ∧ k = rows.length - n ∧ i = .int .i64 n ∧ c = .int .u32 (crcFold 4294967295 ((rows.take n).flatMap (·.2))))
  case atStart => exact ⟨rfl, 0, Nat.zero_le _, rfl, rfl, rfl⟩
  case round =>
    obtain ⟨hW, n, hn, hk, rfl, rfl⟩ := hrel
    subst wr
    by_cases hlt : n < rows.length
    · obtain ⟨x, rfl, -, hx⟩ := HC.out (by omega)
      have hm : rows[n] ∈ rows := List.getElem_mem hlt
      obtain ⟨⟨E1, hE1⟩, ar, cr, hv⟩ := HR.out _ hm
      have hcl : w.cell? (x.add n) = some rows[n].1 := hx n _ (by rw [List.getElem?_map, List.getElem?_eq_getElem hlt]; rfl)
      rw [hv] at hcl hE1
      obtain ⟨-, hnc1, hcm1, hcell1⟩ := row_cell hE1
      unfold maxLen at hcm1
      have HC1 := Lib.hid hcell1
      clear hE1 hcell1 hx
      obtain ⟨c0, hc0⟩ : ∃ c0, c0 = crcFold 4294967295 ((rows.take n).flatMap (·.2)) := ⟨_, rfl⟩
      have hlt0 : c0 < 4294967296 := by rw [hc0]; exact crcFold_lt _ (by omega)
      rw [← hc0]
      have HD := Lib.hid hc0
      clear hc0
      go_wp2_with fail
      go_loopg [3, 16] (rows[n].2.length) (fun k c i wr2 => wr2 = w ∧ ∃ m : Nat, m ≤ rows[n].2.length ∧ k = rows[n].2.length - m ∧ i = .int .i64 m ∧ c = .int .u32 (crcFold c0 (rows[n].2.take m)))
      case atStart => exact ⟨rfl, 0, Nat.zero_le _, rfl, rfl, rfl⟩
      case round =>
        obtain ⟨hW, m, hm2, hk2, rfl, rfl⟩ := hrel
        subst wr
        by_cases hlt2 : m < rows[n].2.length
        · obtain ⟨x1, rfl, -, hx1⟩ := HC1.out (by omega)
          have hcl1 : w.cell? (x1.add m) = some (bv rows[n].2[m]) := hx1 m _ (by rw [List.getElem?_map, List.getElem?_eq_getElem hlt2]; rfl)
          unfold bv at hcl1
          obtain ⟨c1, hc1⟩ : ∃ c1, c1 = crcFold c0 (rows[n].2.take m) := ⟨_, rfl⟩
          have hlt1 : c1 < 4294967296 := by rw [hc1]; exact crcFold_lt _ hlt0
          rw [← hc1]
          have HD1 := Lib.hid hc1
          clear hc1 hx1
          obtain ⟨xv, hxv⟩ : ∃ xv : Nat, xv = rows[n].2[m].toNat := ⟨_, rfl⟩
          have hxl : xv < 256 := by rw [hxv]; exact UInt8.toNat_lt _
          rw [← hxv] at hcl1
          have hxor := u32_xor_nat c1 xv hlt1 (by omega)
          have hlt3 : c1 ^^^ xv < 4294967296 := Nat.xor_lt_two_pow (n := 32) (by omega) (by omega)
          obtain ⟨c3, hc3⟩ : ∃ c3, c3 = c1 ^^^ xv := ⟨_, rfl⟩
          rw [← hc3] at hxor hlt3
          have HX := Lib.hid (show crcByte c1 rows[n].2[m] = crcBits 8 c3 by rw [hc3, hxv]; rfl)
          clear hxv hc3
          go_wp2_with fail
          go_loopg [3, 24] 8 (fun k c i wr3 => wr3 = w ∧ ∃ j : Nat, j ≤ 8 ∧ k = 8 - j ∧ i = .int .i64 j ∧ c = .int .u32 (crcBits j c3))
          case atStart => exact ⟨rfl, 0, by omega, rfl, rfl, rfl⟩
          case round =>
            obtain ⟨hW, j, hj, hk3, rfl, rfl⟩ := hrel
            subst wr
            obtain ⟨c4, hc4⟩ : ∃ c4, c4 = crcBits j c3 := ⟨_, rfl⟩
            have hlt4 : c4 < 4294967296 := by rw [hc4]; exact crcBits_lt _ hlt3
            rw [← hc4]
            have HD3 := Lib.hid hc4
            clear hc4
            by_cases hj8 : j < 8
            · have hand := and_bit hlt4
              rcases Nat.mod_two_eq_zero_or_one c4 with hp | hp
              · rw [hp] at hand
                go_wp2_with fail
                go_roundg (8 - (j + 1))
                case rel => exact ⟨rfl, j + 1, by omega, rfl, by go_num, by rw [sum_even hlt4 hp, HD3.out, ← crcBits_succ]⟩
                case measure => omega
              · rw [hp] at hand
                go_wp2_with fail
                go_roundg (8 - (j + 1))
                case rel => exact ⟨rfl, j + 1, by omega, rfl, by go_num, by rw [sum_odd hlt4 hp, HD3.out, ← crcBits_succ]⟩
                case measure => omega
            · obtain rfl : j = 8 := by omega
              go_wp2_with fail
              go_roundg (rows[n].2.length - (m + 1))
              case rel => exact ⟨rfl, m + 1, by omega, rfl, by go_num, by rw [HD3.out, ← HX.out, HD1.out, bytes_step hlt2]⟩
              case measure => omega
        · obtain rfl : m = rows[n].2.length := by omega
          go_wp2_with fail
          go_roundg (rows.length - (n + 1))
          case rel => exact ⟨rfl, n + 1, by omega, rfl, by go_num, by rw [rows_step hlt, ← HD.out, List.take_length]⟩
          case measure => omega
    · obtain rfl : n = rows.length := by omega
      go_wp2_with fail
      go_ret
      refine ⟨?_, rfl⟩
      have := not_u32 (crcFold_lt (rows.flatMap (·.2)) (c := 4294967295) (by omega))
      unfold crcS
      rw [← this]
      rfl
end Go.Proofs.Ytbfblekabnkghaa
