/-
  A disk held by a law, beside rows of bytes that are read: the steps of a law in one line each.
-/
import Derived.Test.YthphinlibhafcaaLaws7
import Derived.Lib.SlicesS
namespace Go.Proofs.Ythphinlibhafcaa
open Go.RowKit Go.Av

/-- Since w0 nothing old has turned; the disk d is S; the rows can be read and are none of the disk's. -/
def Held (w0 w : World) (d : Nat) (S : DiskS) (rows : List (Value × Bs)) : Prop :=
  ∃ D, DiskAt w d S D ∧ Upd w0 w [] D ∧ ∀ r ∈ rows, ∃ E, ReadRow w 1 r.1 (r.2.map bv) E ∧ ∀ x ∈ E, x ∉ D

theorem rows_frame {w w' : World} {D D' : List Nat} {rows : List (Value × Bs)} (hr : ∀ r ∈ rows, ∃ E, ReadRow w 1 r.1 (r.2.map bv) E ∧ ∀ x ∈ E, x ∉ D) (hu : Upd w w' D D') :
    ∀ r ∈ rows, ∃ E, ReadRow w' 1 r.1 (r.2.map bv) E ∧ ∀ x ∈ E, x ∉ D' := by
  intro r h
  obtain ⟨E, h1, h2⟩ := hr r h
  refine ⟨E, h1.frame (hu.same h1.lt h2), fun x hx hd => ?_⟩
  rcases hu.new x hd with h | h
  · exact h2 x hx h
  · have := h1.lt x hx; omega

theorem Held.post {w0 w w' : World} {d : Nat} {D : List Nat} {S' : DiskS} {rows : List (Value × Bs)} {r e : Ending} (hr : ∀ r ∈ rows, ∃ E, ReadRow w 1 r.1 (r.2.map bv) E ∧ ∀ x ∈ E, x ∉ D) (hu0 : Upd w0 w [] D) (h : DiskPost w d D r S' e w') :
    e = r ∧ Held w0 w' d S' rows := by
  obtain ⟨he, D', hD, hu⟩ := h
  exact ⟨he, D', hD, hu0.trans hu, rows_frame hr hu⟩

theorem Held.append {w0 w : World} {d : Nat} {S : DiskS} {rows : List (Value × Bs)} (h : Held w0 w d S rows) (name : ByteArray) (hn : name.size ≤ maxLen) {vb : Value} {b : Bs} (hb : (vb, b) ∈ rows) {k : Int} {S' : DiskS} (e : S.append name b = (k, S')) :
    Calls Try.prog 11 #[.pointer (some ⟨d, 0, none⟩), .string name, vb] w (fun e w' => e = .returned (.int .i64 k) ∧ Held w0 w' d S' rows) := by
  obtain ⟨D, hD, hu, hr⟩ := h
  obtain ⟨E, h1, h2⟩ := hr _ hb
  exact (call_as (append_at name vb b E w hD hn h1 h2) e).mono fun e w' hp => Held.post hr hu hp
theorem Held.sync {w0 w : World} {d : Nat} {S : DiskS} {rows : List (Value × Bs)} (h : Held w0 w d S rows) (name : ByteArray) (hn : name.size ≤ maxLen) {k : Int} {S' : DiskS} (e : S.sync name = (k, S')) :
    Calls Try.prog 13 #[.pointer (some ⟨d, 0, none⟩), .string name] w (fun e w' => e = .returned (.int .i64 k) ∧ Held w0 w' d S' rows) := by
  obtain ⟨D, hD, hu, hr⟩ := h
  exact (call_as (sync_any name w hD hn) e).mono fun e w' hp => Held.post hr hu hp
theorem Held.rename {w0 w : World} {d : Nat} {S : DiskS} {rows : List (Value × Bs)} (h : Held w0 w d S rows) (o n : ByteArray) (ho : o.size ≤ maxLen) (hn : n.size ≤ maxLen) {k : Int} {S' : DiskS} (e : S.rename o n = (k, S')) :
    Calls Try.prog 18 #[.pointer (some ⟨d, 0, none⟩), .string o, .string n] w (fun e w' => e = .returned (.int .i64 k) ∧ Held w0 w' d S' rows) := by
  obtain ⟨D, hD, hu, hr⟩ := h
  exact (call_as (rename_any o n w hD ho hn) e).mono fun e w' hp => Held.post hr hu hp
theorem Held.crash {w0 w : World} {d : Nat} {S : DiskS} {rows : List (Value × Bs)} (h : Held w0 w d S rows) (keep : Int) {S' : DiskS} (e : S.crash keep = S') :
    Calls Try.prog 14 #[.pointer (some ⟨d, 0, none⟩), .int .i64 keep] w (fun e w' => e = .returned (.tuple #[]) ∧ Held w0 w' d S' rows) := by
  obtain ⟨D, hD, hu, hr⟩ := h
  subst e
  exact (crash_any keep w hD).mono fun e w' hp => Held.post hr hu hp
theorem Held.on {w0 w : World} {d : Nat} {S : DiskS} {rows : List (Value × Bs)} (h : Held w0 w d S rows) {S' : DiskS} (e : S.on = S') :
    Calls Try.prog 15 #[.pointer (some ⟨d, 0, none⟩)] w (fun e w' => e = .returned (.tuple #[]) ∧ Held w0 w' d S' rows) := by
  obtain ⟨D, hD, hu, hr⟩ := h
  subst e
  exact (on_any w hD).mono fun e w' hp => Held.post hr hu hp
theorem Held.read {w0 w : World} {d : Nat} {S : DiskS} {rows : List (Value × Bs)} (h : Held w0 w d S rows) (name : ByteArray) (hn : name.size ≤ maxLen) {k : Int} {b : Bs} (e1 : S.ask name = k) (e2 : DiskS.read S name = b) :
    Calls Try.prog 16 #[.pointer (some ⟨d, 0, none⟩), .string name] w (fun e w' => ∃ v, e = .returned (.tuple #[v, .int .i64 k]) ∧ Held w0 w' d S ((v, b) :: rows)) := by
  obtain ⟨D, hD, hu, hr⟩ := h
  subst e1; subst e2
  refine (read_any name w hD hn).mono fun e w' hp => ?_
  obtain ⟨v, D', he, ho, hu'⟩ := hp
  obtain ⟨E, h1, h2⟩ := ho.read
  have hu2 : Upd w w' D D := hu'.mono (by simp) (fun b hb => .inr hb)
  refine ⟨v, he, D, hD.frame (hu'.same hD.lt (by simp)), hu.trans hu2, fun r h => ?_⟩
  rcases List.mem_cons.1 h with rfl | h
  · refine ⟨E, h1, fun x hx hd => ?_⟩
    have := hD.lt x hd
    rcases hu'.new x (h2 x hx) with h | h
    · simp at h
    · omega
  · exact rows_frame hr hu2 r h
theorem Held.lives {w0 w : World} {d : Nat} {S : DiskS} {rows : List (Value × Bs)} (h : Held w0 w d S rows) :
    Calls Try.prog 17 #[.pointer (some ⟨d, 0, none⟩)] w (fun e w' => e = .returned (.int .i64 S.lives) ∧ w' = w) := by
  obtain ⟨D, hD, hu, hr⟩ := h
  exact (lives_any w hD).mono fun e w' h => ⟨h.1, h.2.symm⟩
theorem Held.size {w0 w : World} {d : Nat} {S : DiskS} {rows : List (Value × Bs)} (h : Held w0 w d S rows) :
    Calls Try.prog 12 #[.pointer (some ⟨d, 0, none⟩)] w (fun e w' => e = .returned (.int .i64 (DiskS.size S)) ∧ Held w0 w' d S rows) := by
  obtain ⟨D, hD, hu, hr⟩ := h
  refine (size_any w hD).mono fun e w' hp => ?_
  obtain ⟨he, hu'⟩ := hp
  have hu2 : Upd w w' D D := hu'.mono (by simp) (fun b hb => .inr hb)
  exact ⟨he, D, hD.frame (hu'.same hD.lt (by simp)), hu.trans hu2, rows_frame hr hu2⟩
theorem Held.below {w0 w : World} {d : Nat} {S : DiskS} {rows : List (Value × Bs)} (h : Held w0 w d S rows) : Below w0.heap.size w0 w := by
  obtain ⟨D, _, hu, _⟩ := h
  exact hu.below
theorem Held.drew {w0 w : World} {d : Nat} {S : DiskS} {rows : List (Value × Bs)} (h : Held w0 w d S rows) : Held w0 w.drew d S rows := by
  obtain ⟨D, hD, hu, hr⟩ := h
  exact ⟨D, hD.frame (fun _ _ => rfl), hu.drew, rows_frame hr ((Upd.refl w D).drew)⟩
theorem Held.str {w0 w : World} {d : Nat} {S : DiskS} {rows : List (Value × Bs)} (h : Held w0 w d S rows) {v : Value} {b : Bs} (hb : (v, b) ∈ rows) (W : World) (hW : W.heap = w.heap) : (convert 28 9 v).run Try.prog W = .ok (.string ⟨b.toArray⟩) W := by
  obtain ⟨D, hD, hu, hr⟩ := h
  obtain ⟨E, h1, _⟩ := hr _ hb
  exact conv_str Try.underlying28 Try.underlying5 Try.underlying9 h1 W (fun b _ => by rw [hW])
theorem Held.start {w0 w w' : World} {d : Nat} {S : DiskS} {D : List Nat} {rows : List (Value × Bs)} (h1 : Upd w0 w [] []) (h2 : DiskAt w' d S D) (h3 : Upd w w' [] D) (hr : ∀ r ∈ rows, ∃ E, ReadRow w0 1 r.1 (r.2.map bv) E) : Held w0 w' d S rows := by
  have hu := h1.trans h3
  refine ⟨D, h2, hu, fun r h => ?_⟩
  obtain ⟨E, hE⟩ := hr r h
  exact rows_frame (D := []) (rows := [r]) (fun r' h' => by rw [List.mem_singleton.1 h']; exact ⟨E, hE, by simp⟩) hu r (by simp)
/-- A new disk of a room that is allowed. -/
theorem Held.new {w0 w : World} {rows : List (Value × Bs)} (room : Int) (hr1 : 64 ≤ room) (hr2 : room ≤ 1048576) (h1 : Upd w0 w [] []) (hr : ∀ r ∈ rows, ∃ E, ReadRow w0 1 r.1 (r.2.map bv) E) :
    Calls Try.prog 10 #[.int .i64 room] w (fun e w' => ∃ d, e = .returned (.tuple #[.pointer (some ⟨d, 0, none⟩), .int .i64 0]) ∧ Held w0 w' d (DiskS.new room) rows) := by
  refine (new_any room _).mono ?_
  rintro e w2 hN
  rcases hN with ⟨hno, _⟩ | ⟨_, _, d, D, he, hD, hu⟩
  · exact absurd ⟨hr1, hr2⟩ hno
  exact ⟨d, he, Held.start h1 hD hu hr⟩

theorem bytes_eq (a b c : Bs) (h : c = a ++ b) : ((⟨c.toArray⟩ : ByteArray) == (⟨a.toArray⟩ : ByteArray) ++ ⟨b.toArray⟩) = true := by
  rw [bytes_cat, h]
  exact (MapKept.bytes_beq _ _).2 rfl
theorem bytes_list (a b c : Bs) (h : c = a ++ b) : (c == ((⟨a.toArray⟩ : ByteArray) ++ ⟨b.toArray⟩).toList) = true := by
  rw [bytes_cat, ByteArray.toList_eq, h]
  simp
end Go.Proofs.Ythphinlibhafcaa
