/-
  Sizes of types.
-/
import Derived.Test.YtjeaoopamebgjaaDoorRows
import Derived.Test.YtjeaoopamebgjaaDoorBase
namespace Go.Proofs.YtjeaoopamebgjaaDoor
open Go.RowKit
theorem info5 : (Tryd.prog.info? 5).map (fun i => (i.zero, i.size, i.bytes)) = some (some (.int .u8 0), 1, 1) := by kernel_rfl
theorem infoB : (Tryd.prog.info? 89).map (fun i => (i.zero, i.size, i.bytes)) = some (some (.slice none 0 0), 1, 24) := by kernel_rfl
theorem infoI : (Tryd.prog.info? 3).map (fun i => (i.zero, i.size, i.bytes)) = some (some (.int .i64 0), 1, 8) := by kernel_rfl
end Go.Proofs.YtjeaoopamebgjaaDoor
