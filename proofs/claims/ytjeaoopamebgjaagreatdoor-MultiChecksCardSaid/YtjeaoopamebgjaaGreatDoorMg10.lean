/-
  Texts of this claim, laid together.
-/
import Derived.Test.YtjeaoopamebgjaaGreatDoorMg9
import Derived.HandedShaped
import Derived.Handed
import Derived.Lib.LaidTab
set_option linter.unusedVariables false
set_option linter.unusedSimpArgs false

/-
  A row whose world bears variables that are laid, and has its shape: both are kept for the walk.
-/
namespace Go.Av
variable {H : Type} {enc : TypeId × Value → H}
theorem handed_both {a : Assume} {C : Checked} {os : Os} {f : FuncId} {fn : Func} {s : ChangeSpec} {conds : List PathCond} {apart fresh handsOn again : Bool} {X : World → Array Value → Prop}
    (hX : ∀ (w w' : World) (args : Array Value), w.heap = w'.heap → X w args → X w' args)
    (own : ownKnob C.prog.godebug = none) (started : os.Started) (noInit : C.prog.inits.idxOf? f = none) (hfn : C.prog.funcs[f]? = some fn)
    (witness : ∃ (w : World) (tape : Tape) (i : Input), w.os = os ∧ (w.forCall tape i).Shaped C.prog ∧ i.vars = [] ∧ Input.okWide C.prog (w.forCall tape i) .any w.heap.size f i ∧
      ((s.pre enc C.prog fn conds apart (w.forCall tape i).memory i.args ∧ X (w.forCall tape i).memory i.args) ∧ sizedMet enc C.prog fn (OpenSpec.ofChange s) apart (w.forCall tape i).memory i.args) ∧ a.holds C.prog (lone (Frame.enter C.prog f i.args .normal) [] (w.forCall tape i)))
    (contract : ∀ (W : World) (base : Nat) (args : Array Value) (ds gs : List (DataW H)) (before : List MemPlace),
      (∀ (j : Nat) t v, fn.params[j]? = some t → args[j]? = some v → Value.okWide C.prog W .any base t v) →
      DataW.Whole enc C.prog fn.params.toList s.vars apart W args.toList ds gs before →
      W.ShapedOpen C.prog → X W args →
      Calls C.prog f args W fun e W' => ∃ v, e = .returned v ∧ s.post enc C.prog fn apart fresh handsOn again W args v W') :
    ReturnsInHanded a C os f .any (fun w args => (s.pre enc C.prog fn conds apart w args ∧ X w args) ∧ sizedMet enc C.prog fn (OpenSpec.ofChange s) apart w args) (s.post enc C.prog fn apart fresh handsOn again) := by
  refine returnsInHanded_of_calls own started noInit witness ?_
  intro w tape i _ hsh _ hok hpre hholds
  obtain ⟨_, _, _, fn', hfn', _, _, _, _, hval⟩ := hok
  have e : fn' = fn := Option.some.inj (hfn'.symm.trans hfn)
  subst e
  obtain ⟨⟨⟨ds, gs, before, hw, hc⟩, hx⟩, hz⟩ := hpre
  have hw' := DataW.Whole.of_heap (w' := w.forCall tape i) (by rfl) hw
  refine (contract (w.forCall tape i) w.heap.size i.args ds gs before hval hw' hsh (hX _ _ _ (by rfl) hx)).mono fun e W' ⟨v, he, hp⟩ => ?_
  subst he
  exact ChangeSpec.post_blind hp
end Go.Av
namespace Go.Proofs.YtjeaoopamebgjaaGreatDoor
open Go.Av
theorem door_of {W : World} (h : W.ShapedOpen Tryz.prog) : Door W := Tryz.laysM146.s1_3 W h
end Go.Proofs.YtjeaoopamebgjaaGreatDoor

/-
  A row whose world bears the library's tables and has its shape: what the walks ask of the door.
-/
namespace Go.Av
theorem laid_tail {P : Program} {w : World} {x : String × DataW Unit} {rest : List (String × DataW Unit)} (h : ∃ ps, DataW.LaidVars P w (x :: rest) ps) : ∃ ps, DataW.LaidVars P w rest ps := by
  obtain ⟨ps, g, t, cs, fuel, p, q, -, -, -, -, h1, h2⟩ := h
  exact ⟨q, by assumption⟩
theorem tab_head {P : Program} {W : World} {name : String} {k : IntKind} {zs : List Int} {rest : List (String × DataW Unit)} {g : Nat} {t e : TypeId} {n : Nat}
    (hg : P.globalNamed name = some g) (hty : (P.globals[g]?).map (·.type) = some t) (ht : P.underlying t = some (.array n e)) (he : P.underlying e = some (.int k)) (hce : P.cellsOf e = 1) (hct : P.cellsOf t = n)
    (h : ∃ ps, DataW.LaidVars P W ((name, Lib.tabData k zs) :: rest) ps) : Lib.TabIs P W name k zs := by
  obtain ⟨ps, g', t', cs, fuel, p, q, hg', ht', hvar, hd, _, _⟩ := h
  obtain rfl := Option.some.inj (hg.symm.trans hg')
  obtain rfl := Option.some.inj (hty.symm.trans ht')
  unfold Lib.TabIs
  rw [hvar, ← Lib.cells_of_tab ht he hce hct hd]
end Go.Av
namespace Go.Proofs.YtjeaoopamebgjaaGreatDoor
open Go.Av
theorem doorN_of {W : World} {a b c : String × DataW Unit} {r : List (String × DataW Unit)} (h : W.ShapedOpen Tryz.prog) (hc : c = ("internal/strconv.uint64pow10", Lib.tabData .u64 Lib.pow10Tab)) (hl : laidMet Tryz.prog (a :: b :: c :: r) W) : DoorN W := by
  subst hc
  obtain ⟨ps, h1, -⟩ := hl
  refine ⟨door_of h, ?_⟩
  exact tab_head (g := 3) (by kernel_rfl) (by kernel_rfl) Tryz.underlying213 Tryz.underlying163 (by kernel_rfl) (by kernel_rfl) (laid_tail (laid_tail ⟨ps, h1⟩))
end Go.Proofs.YtjeaoopamebgjaaGreatDoor
