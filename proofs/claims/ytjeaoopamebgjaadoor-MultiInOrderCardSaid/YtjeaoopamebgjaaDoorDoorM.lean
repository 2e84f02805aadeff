/-
  A row whose world bears the library's tables and has its shape: what the walks ask of the door.
-/
import Derived.Test.YtjeaoopamebgjaaDoorDoorX
import Derived.Test.YtjeaoopamebgjaaDoorPathN
import Derived.Lib.LaidTab
namespace Go.Av
theorem laid_tail {P : Program} {w : World} {x : String × DataW Unit} {rest : List (String × DataW Unit)} (h : ∃ ps, DataW.LaidVars P w (x :: rest) ps) : ∃ ps, DataW.LaidVars P w rest ps := by
  obtain ⟨ps, g, t, cs, fuel, p, q, -, -, -, -, h1, h2⟩ := h
  exact ⟨q, by assumption⟩
theorem tab_head {P : Program} {W : World} {name : String} {k : IntKind} {zs : List Int} {rest : List (String × DataW Unit)} {g : Nat} {t e : TypeId} {n : Nat}
    (hg : P.globalNamed name = some g) (hty : (P.globals[g]?).map (·.type) = some t) (ht : P.underlying t = some (.array n e)) (he : P.underlying e = some (.int k)) (hce : P.cellsOf e = 1) (hct : P.cellsOf t = n)
    (h : ∃ ps, DataW.LaidVars P W ((name, Lib.tabData k zs) :: rest) ps) : Lib.TabIs P W name k zs := by
  obtain ⟨ps, g', t', cs, fuel, p, q, hg', ht', hvar, hd, _, _⟩ := h
  obtain rfl := Option.some.inj (hg.symm.trans hg')
  obtain rfl := Option.some.inj (hty.symm.trans ht')
  unfold Lib.TabIs
  rw [hvar, ← Lib.cells_of_tab ht he hce hct hd]
end Go.Av
namespace Go.Proofs.YtjeaoopamebgjaaDoor
open Go.Av
theorem doorN_of {W : World} {a b c : String × DataW Unit} {r : List (String × DataW Unit)} (h : W.ShapedOpen Tryd.prog) (hc : c = ("internal/strconv.uint64pow10", Lib.tabData .u64 Lib.pow10Tab)) (hl : laidMet Tryd.prog (a :: b :: c :: r) W) : DoorN W := by
  subst hc
  obtain ⟨ps, h1, -⟩ := hl
  refine ⟨door_of h, ?_⟩
  exact tab_head (g := 1) (by kernel_rfl) (by kernel_rfl) Tryd.underlying124 Tryd.underlying106 (by kernel_rfl) (by kernel_rfl) (laid_tail (laid_tail ⟨ps, h1⟩))
end Go.Proofs.YtjeaoopamebgjaaDoor
