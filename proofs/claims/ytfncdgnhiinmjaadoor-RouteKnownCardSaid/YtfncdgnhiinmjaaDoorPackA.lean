/-
  Numbers and texts in bytes, in plain words.
-/
import Derived.Test.YtfncdgnhiinmjaaDoorDiskA
namespace Go.Av
open Go.RowKit

def be8 (n : Nat) : Bs := [UInt8.ofNat (n / 72057594037927936), UInt8.ofNat (n / 281474976710656), UInt8.ofNat (n / 1099511627776), UInt8.ofNat (n / 4294967296), UInt8.ofNat (n / 16777216), UInt8.ofNat (n / 65536), UInt8.ofNat (n / 256), UInt8.ofNat n]
/-- A number's eight bytes. -/
def packI (v : Int) : Bs := be8 (v % 18446744073709551616).toNat
def rdStep (v : Nat) (x : UInt8) : Nat := v * 256 % 18446744073709551616 + x.toNat
def rdFold (l : Bs) : Nat := l.foldl rdStep 0
/-- The number that eight bytes are. -/
def rdI (l : Bs) : Int := IntKind.i64.wrap (rdFold (l.take 8) : Int)

theorem be8_length (n : Nat) : (be8 n).length = 8 := rfl
theorem packI_length (v : Int) : (packI v).length = 8 := rfl
theorem rdFold_be8 (n : Nat) (h : n < 18446744073709551616) : rdFold (be8 n) = n := by
  simp only [rdFold, be8, List.foldl_cons, List.foldl_nil, rdStep, UInt8.toNat_ofNat']
  omega
theorem rdI_pack (v : Int) (x : Bs) (h1 : -9223372036854775808 ≤ v) (h2 : v ≤ 9223372036854775807) : rdI (packI v ++ x) = v := by
  have ht : (packI v ++ x).take 8 = packI v := by rw [List.take_append_of_le_length (by rw [packI_length]; omega), List.take_of_length_le (by rw [packI_length]; omega)]
  unfold rdI
  rw [ht]
  unfold packI
  rw [rdFold_be8 _ (by omega), IntKind.wrap_i64]
  omega
theorem rdStep_lt {v : Nat} (x : UInt8) : rdStep v x < 18446744073709551616 := by
  have := x.toNat_lt
  unfold rdStep
  omega
end Go.Av
