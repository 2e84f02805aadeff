/-
  A disk beside other objects: its calls, one line each.
-/
import Derived.Test.YthphinlibhafcaaSep
import Derived.Test.YthphinlibhafcaaDiskG
namespace Go.Proofs.Ythphinlibhafcaa
open Go.RowKit Go.Av

section
variable {w0 w : World} {d : Nat} {S S' : DiskS} {R : List Thing} {rows : List (Value × Bs)}

theorem dcall {f : FuncId} {args : Array Value} {r : Ending} {S1 : DiskS} (h : Sep w0 w (ThDisk d S :: R) rows)
    (hc : ∀ D, DiskAt w d S D → Calls Try.prog f args w (DiskPost w d D r S1)) : Calls Try.prog f args w fun e w' => e = r ∧ Sep w0 w' (ThDisk d S1 :: R) rows := by
  obtain ⟨D, hD, _, back⟩ := h.use
  exact (hc D hD).mono fun e w' ⟨he, D', h1, h2⟩ => ⟨he, back _ _ (ThDisk d S1) h2 h1⟩

theorem SD.append (h : Sep w0 w (ThDisk d S :: R) rows) (name : ByteArray) (hn : name.size ≤ maxLen) {vb : Value} {b : Bs} (hb : (vb, b) ∈ rows) {k : Int} (e : S.append name b = (k, S')) :
    Calls Try.prog 11 #[.pointer (some ⟨d, 0, none⟩), .string name, vb] w (fun e w' => e = .returned (.int .i64 k) ∧ Sep w0 w' (ThDisk d S' :: R) rows) := by
  obtain ⟨D, hD, hr, back⟩ := h.use
  obtain ⟨E, h1, h2⟩ := hr _ hb
  obtain ⟨m, gs, hI, rfl⟩ := hD
  refine (append_any name vb b E w hI hn h1 h2).mono fun e' w' hp => ?_
  obtain ⟨he, gs', h3, h4⟩ := hp
  rw [e] at he h3
  exact ⟨he, back _ _ (ThDisk d S') h4 ⟨m, gs', h3, rfl⟩⟩
theorem SD.sync (h : Sep w0 w (ThDisk d S :: R) rows) (name : ByteArray) (hn : name.size ≤ maxLen) {k : Int} (e : S.sync name = (k, S')) :
    Calls Try.prog 13 #[.pointer (some ⟨d, 0, none⟩), .string name] w (fun e w' => e = .returned (.int .i64 k) ∧ Sep w0 w' (ThDisk d S' :: R) rows) := by
  have := dcall h (fun D hD => sync_any name w hD hn)
  rw [e] at this
  exact this
theorem SD.cut (h : Sep w0 w (ThDisk d S :: R) rows) (name : ByteArray) (n : Int) (hn : name.size ≤ maxLen) {k : Int} (e : S.cut name n = (k, S')) :
    Calls Try.prog 20 #[.pointer (some ⟨d, 0, none⟩), .string name, .int .i64 n] w (fun e w' => e = .returned (.int .i64 k) ∧ Sep w0 w' (ThDisk d S' :: R) rows) := by
  have := dcall h (fun D hD => cut_any name n w hD hn)
  rw [e] at this
  exact this
theorem SD.drop (h : Sep w0 w (ThDisk d S :: R) rows) (name : ByteArray) (hn : name.size ≤ maxLen) {k : Int} (e : S.drop name = (k, S')) :
    Calls Try.prog 21 #[.pointer (some ⟨d, 0, none⟩), .string name] w (fun e w' => e = .returned (.int .i64 k) ∧ Sep w0 w' (ThDisk d S' :: R) rows) := by
  have := dcall h (fun D hD => drop_any name w hD hn)
  rw [e] at this
  exact this
theorem SD.rename (h : Sep w0 w (ThDisk d S :: R) rows) (o n : ByteArray) (ho : o.size ≤ maxLen) (hn : n.size ≤ maxLen) {k : Int} (e : S.rename o n = (k, S')) :
    Calls Try.prog 18 #[.pointer (some ⟨d, 0, none⟩), .string o, .string n] w (fun e w' => e = .returned (.int .i64 k) ∧ Sep w0 w' (ThDisk d S' :: R) rows) := by
  have := dcall h (fun D hD => rename_any o n w hD ho hn)
  rw [e] at this
  exact this
theorem SD.crash (h : Sep w0 w (ThDisk d S :: R) rows) (keep : Int) (e : S.crash keep = S') :
    Calls Try.prog 14 #[.pointer (some ⟨d, 0, none⟩), .int .i64 keep] w (fun e w' => e = .returned (.tuple #[]) ∧ Sep w0 w' (ThDisk d S' :: R) rows) := by
  subst e
  exact dcall h (fun D hD => crash_any keep w hD)
theorem SD.on (h : Sep w0 w (ThDisk d S :: R) rows) (e : S.on = S') :
    Calls Try.prog 15 #[.pointer (some ⟨d, 0, none⟩)] w (fun e w' => e = .returned (.tuple #[]) ∧ Sep w0 w' (ThDisk d S' :: R) rows) := by
  subst e
  exact dcall h (fun D hD => on_any w hD)
theorem SD.read (h : Sep w0 w (ThDisk d S :: R) rows) (name : ByteArray) (hn : name.size ≤ maxLen) {k : Int} {b : Bs} (e1 : S.ask name = k) (e2 : DiskS.read S name = b) :
    Calls Try.prog 16 #[.pointer (some ⟨d, 0, none⟩), .string name] w (fun e w' => ∃ v, e = .returned (.tuple #[v, .int .i64 k]) ∧ Sep w0 w' (ThDisk d S :: R) ((v, b) :: rows)) := by
  obtain ⟨D, hD, hr, back⟩ := h.use
  subst e1; subst e2
  refine (read_any name w hD hn).mono fun e w' hp => ?_
  obtain ⟨v, D', he, ho, hu⟩ := hp
  obtain ⟨E, h1, h2⟩ := ho.read
  exact ⟨v, he, h.row hu h1 h2⟩
theorem SD.lives (h : Sep w0 w (ThDisk d S :: R) rows) :
    Calls Try.prog 17 #[.pointer (some ⟨d, 0, none⟩)] w (fun e w' => e = .returned (.int .i64 S.lives) ∧ w' = w) := by
  obtain ⟨D, hD, hr, back⟩ := h.use
  exact (lives_any w hD).mono fun e w' h => ⟨h.1, h.2.symm⟩
theorem SD.power (h : Sep w0 w (ThDisk d S :: R) rows) :
    Calls Try.prog 30 #[.pointer (some ⟨d, 0, none⟩)] w (fun e w' => e = .returned (.bool !S.off) ∧ w' = w) := by
  obtain ⟨D, hD, hr, back⟩ := h.use
  exact (power_any w hD).mono fun e w' h => ⟨h.1, h.2.symm⟩
theorem SD.new {R : List Thing} (h : Sep w0 w R rows) (room : Int) (h1 : 64 ≤ room) (h2 : room ≤ 1048576) :
    Calls Try.prog 10 #[.int .i64 room] w (fun e w' => ∃ d, e = .returned (.tuple #[.pointer (some ⟨d, 0, none⟩), .int .i64 0]) ∧ Sep w0 w' (ThDisk d (DiskS.new room) :: R) rows) := by
  refine (new_any room w).mono fun e w' hp => ?_
  rcases hp with ⟨hno, _⟩ | ⟨_, _, d, D, rfl, hD, hu⟩
  · omega
  exact ⟨d, rfl, h.add hu hD⟩
end
end Go.Proofs.Ythphinlibhafcaa
