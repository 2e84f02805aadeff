/-
  The types' sizes and first values, as the walk by things asks them.
-/
import Derived.Test.YtjeaoopamebgjaaDoorSxA
import Derived.Test.YtjeaoopamebgjaaDoorProg
namespace Go.Proofs.YtjeaoopamebgjaaDoor
open Go.RowKit Go.Av
theorem sn_op : StructN Tryd.prog 25 5 := ⟨by kernel_rfl⟩
theorem sn_res : StructN Tryd.prog 42 11 := ⟨by kernel_rfl⟩
theorem sn_stat : StructN Tryd.prog 40 7 := ⟨by kernel_rfl⟩
theorem sn_node : StructN Tryd.prog 51 10 := ⟨by kernel_rfl⟩
theorem sn_reply : StructN Tryd.prog 33 5 := ⟨by kernel_rfl⟩
theorem sn_tree : StructN Tryd.prog 45 2 := ⟨by kernel_rfl⟩
theorem z_op : zeroB Tryd.prog 25 #[.int .i64 0, .string ⟨#[]⟩, .string ⟨#[]⟩, .int .i64 0, .int .i64 0] := by unfold zeroB; kernel_rfl
theorem z_res : zeroB Tryd.prog 42 #[.int .i64 0, .string ⟨#[]⟩, .string ⟨#[]⟩, .slice none 0 0, .int .i64 0, .int .i64 0, .int .i64 0, .int .i64 0, .int .i64 0, .int .i64 0, .int .i64 0] := by unfold zeroB; kernel_rfl
theorem z_node : zeroB Tryd.prog 51 #[.int .i64 0, .int .i64 0, .int .i64 0, .int .i64 0, .int .i64 0, .int .i64 0, .int .i64 0, .string ⟨#[]⟩, .int .i64 0, .slice none 0 0] := by unfold zeroB; kernel_rfl
theorem z_reply : zeroB Tryd.prog 33 #[.int .i64 0, .int .i64 0, .int .i64 0, .int .i64 0, .slice none 0 0] := by unfold zeroB; kernel_rfl
theorem sl_str : SliceN Tryd.prog 38 9 1 16 := .of Tryd.underlying38 (by kernel_rfl)
theorem sl_res : SliceN Tryd.prog 31 42 11 120 := .of Tryd.underlying31 (by kernel_rfl)
theorem sl_op : SliceN Tryd.prog 23 25 5 56 := .of Tryd.underlying23 (by kernel_rfl)
end Go.Proofs.YtjeaoopamebgjaaDoor
