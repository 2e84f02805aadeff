/-
  A log and its disk: each call in one line.
-/
import Derived.Test.YtbfblekabnkghaaWalP
namespace Go.Proofs.Ytbfblekabnkghaa
open Go.RowKit Go.Av

/-- A log on its disk: x: is there a file; s: how many bytes are safe. -/
def Wl (w0 w : World) (g d : Nat) (room lv n : Int) (x : Bool) (ls : List Bs) (s : Nat) (O : List FileS) (R : List Thing) (rows : List (Value × Bs)) : Prop :=
  ∃ S, Dk room lv false x (frames ls) s O S ∧ (∀ r ∈ ls, r.length ≤ 20000) ∧ 1 ≤ n ∧ n ≤ 1099511627776 ∧ Sep w0 w (ThLog g d (lg lv n ls) :: ThDisk d S :: R) rows
/-- A disk alone. -/
def Dl (w0 w : World) (d : Nat) (room lv : Int) (off x : Bool) (b : Bs) (s : Nat) (O : List FileS) (R : List Thing) (rows : List (Value × Bs)) : Prop :=
  ∃ S, Dk room lv off x b s O S ∧ Sep w0 w (ThDisk d S :: R) rows

section
variable {w0 w : World} {g d : Nat} {room lv n : Int} {x off : Bool} {ls : List Bs} {b : Bs} {s : Nat} {O : List FileS} {R : List Thing} {rows : List (Value × Bs)}

theorem disk_small {S : DiskS} (h : Sep w0 w (ThDisk d S :: R) rows) : total S.fs ≤ 1048576 := by
  obtain ⟨D, ⟨m, gs, hI, rfl⟩, -⟩ := h.use
  have h1 := hI.fits
  have h2 := hI.hi
  omega
theorem Wl.small (h : Wl w0 w g d room lv n x ls s O R rows) : (frames ls).length ≤ 1048576 := by
  obtain ⟨S, hD, _, _, _, hS⟩ := h
  have := disk_small hS.drop
  rw [hD.total] at this
  omega
theorem Wl.below (h : Wl w0 w g d room lv n x ls s O R rows) : Below w0.heap.size w0 w := by
  obtain ⟨S, _, _, _, _, hS⟩ := h
  exact hS.below
theorem Wl.cell (h : Wl w0 w g d room lv n x ls s O R rows) {a : Addr} {v : Value} (hc : w0.cell? a = some v) : w.cell? a = some v := by
  obtain ⟨S, _, _, _, _, hS⟩ := h
  exact hS.cell hc
theorem Wl.get (h : Wl w0 w g d room lv n x ls s O R rows) {v : Value} {b : Bs} (hm : (v, b) ∈ rows) : ∃ E, ReadRow w 1 v (b.map bv) E := by
  obtain ⟨S, _, _, _, _, hS⟩ := h
  exact hS.get hm
theorem Wl.drew (h : Wl w0 w g d room lv n x ls s O R rows) : Wl w0 w.drew g d room lv n x ls s O R rows := by
  obtain ⟨S, h1, h2, h3, h4, hS⟩ := h
  exact ⟨S, h1, h2, h3, h4, hS.drew⟩
theorem Wl.row (h : Wl w0 w g d room lv n x ls s O R rows) {w' : World} {v : Value} {b : Bs} {E D' : List Nat} (hu : Upd w w' [] D') (hr : ReadRow w' 1 v (b.map bv) E) (hE : ∀ x ∈ E, x ∈ D') : Wl w0 w' g d room lv n x ls s O R ((v, b) :: rows) := by
  obtain ⟨S, h1, h2, h3, h4, hS⟩ := h
  exact ⟨S, h1, h2, h3, h4, hS.row hu hr hE⟩
theorem Wl.drop_row {r : Value × Bs} (h : Wl w0 w g d room lv n x ls s O R (r :: rows)) : Wl w0 w g d room lv n x ls s O R rows := by
  obtain ⟨S, h1, h2, h3, h4, hS⟩ := h
  exact ⟨S, h1, h2, h3, h4, hS.drop_row⟩
theorem Wl.nil (h : Wl w0 w g d room lv n x ls s O R rows) : Wl w0 w g d room lv n x ls s O R ((.slice none 0 0, []) :: rows) := by
  obtain ⟨S, h1, h2, h3, h4, hS⟩ := h
  exact ⟨S, h1, h2, h3, h4, hS.nil⟩
theorem Dl.row (h : Dl w0 w d room lv off x b s O R rows) {w' : World} {v : Value} {c : Bs} {E D' : List Nat} (hu : Upd w w' [] D') (hr : ReadRow w' 1 v (c.map bv) E) (hE : ∀ x ∈ E, x ∈ D') : Dl w0 w' d room lv off x b s O R ((v, c) :: rows) := by
  obtain ⟨S, h1, hS⟩ := h
  exact ⟨S, h1, hS.row hu hr hE⟩
theorem Dl.below (h : Dl w0 w d room lv off x b s O R rows) : Below w0.heap.size w0 w := by
  obtain ⟨S, _, hS⟩ := h
  exact hS.below
theorem Dl.cell (h : Dl w0 w d room lv off x b s O R rows) {a : Addr} {v : Value} (hc : w0.cell? a = some v) : w.cell? a = some v := by
  obtain ⟨S, _, hS⟩ := h
  exact hS.cell hc

theorem Dl.new {R : List Thing} (h : Sep w0 w R rows) (room : Int) (h1 : 64 ≤ room) (h2 : room ≤ 1048576) :
    Calls Try.prog 11 #[.int .i64 room] w (fun e w' => ∃ d, e = .returned (.tuple #[.pointer (some ⟨d, 0, none⟩), .int .i64 0]) ∧ Dl w0 w' d room 1 false false [] 0 [] R rows) :=
  (SD.new h room h1 h2).mono fun e w' ⟨d, he, hS⟩ => ⟨d, he, _, Dk.new room, hS⟩

theorem Dl.open (h : Dl w0 w d room lv false x b s O R rows) (hb : ∀ S, Dk room lv false x b s O S → baseS S = (n, 0)) (hn1 : 1 ≤ n) (hn2 : n ≤ 1099511627776) {how : Int} {used : Nat} (hsc : scanS b = (ls, used, how)) (hw : how ≠ 2)
    (hbt : b.take used = frames ls) (hs : s ≤ b.length) :
    Calls Try.prog 12 #[.pointer (some ⟨d, 0, none⟩)] w (fun e w' => ∃ g, e = .returned (.tuple #[.pointer (some ⟨g, 0, none⟩), .int .i64 0]) ∧ Wl w0 w' g d room lv n x ls (min s used) O R rows) := by
  obtain ⟨S, hD, hS⟩ := h
  have hsm := scanS_small b
  rw [hsc] at hsm
  obtain ⟨S', e1, hD'⟩ := open_torn hD (hb S hD) hsc hw hbt hs
  refine (open_any hS).mono fun e w' hp => ?_
  rw [e1] at hp
  rcases hp with ⟨hno, _⟩ | ⟨_, g, he, hS'⟩
  · exact absurd rfl hno
  · exact ⟨g, he, S', hD', hsm, hn1, hn2, hS'⟩
/-- It is not opened. -/
theorem Dl.openNo (h : Dl w0 w d room lv false x b s O R rows) {k : Int} (hk : k ≠ 0) (e : ∀ S, Dk room lv false x b s O S → ∃ L, openS S = (k, L, S)) :
    Calls Try.prog 12 #[.pointer (some ⟨d, 0, none⟩)] w (fun e w' => e = .returned (.tuple #[.pointer none, .int .i64 k]) ∧ Dl w0 w' d room lv false x b s O R rows) := by
  obtain ⟨S, hD, hS⟩ := h
  obtain ⟨L, e1⟩ := e S hD
  refine (open_any hS).mono fun e w' hp => ?_
  rw [e1] at hp
  rcases hp with ⟨_, he, hS'⟩ | ⟨h0, _⟩
  · exact ⟨he, S, hD, hS'⟩
  · exact absurd h0 hk

theorem Wl.add (h : Wl w0 w g d room lv n x ls s O R rows) {v : Value} {r : Bs} (hv : (v, r) ∈ rows) (hr : r.length ≤ 20000) (hfit : (((frames ls).length + total O + (12 + r.length) : Nat) : Int) ≤ room) :
    Calls Try.prog 13 #[.pointer (some ⟨g, 0, none⟩), v] w (fun e w' => e = .returned (.int .i64 0) ∧ Wl w0 w' g d room lv n true (ls ++ [r]) s O R rows) := by
  have hsm := h.small
  obtain ⟨S, hD, h1, h2, h3, hS⟩ := h
  obtain ⟨S', e1, hD'⟩ := add_ok (n := n) hD hr hfit
  refine (add_any hv (by show (frames ls).length + 20012 ≤ _; omega) hS).mono fun e w' hp => ?_
  rw [e1] at hp
  exact ⟨hp.1, S', hD', fun q hq => by rcases List.mem_append.1 hq with hq | hq; exact h1 q hq; rw [List.mem_singleton.1 hq]; exact hr, h2, h3, hp.2⟩
theorem Wl.addBig (h : Wl w0 w g d room lv n x ls s O R rows) {v : Value} {r : Bs} (hv : (v, r) ∈ rows) (hr : 20000 < r.length) :
    Calls Try.prog 13 #[.pointer (some ⟨g, 0, none⟩), v] w (fun e w' => e = .returned (.int .i64 2) ∧ Wl w0 w' g d room lv n x ls s O R rows) := by
  have hsm := h.small
  obtain ⟨S, hD, h1, h2, h3, hS⟩ := h
  have e1 := add_big (n := n) hD hr
  refine (add_any hv (by show (frames ls).length + 20012 ≤ _; omega) hS).mono fun e w' hp => ?_
  rw [e1] at hp
  exact ⟨hp.1, S, hD, h1, h2, h3, hp.2⟩
theorem Wl.sync (h : Wl w0 w g d room lv n x ls s O R rows) :
    Calls Try.prog 14 #[.pointer (some ⟨g, 0, none⟩)] w (fun e w' => e = .returned (.int .i64 0) ∧ Wl w0 w' g d room lv n x ls (frames ls).length O R rows) := by
  obtain ⟨S, hD, h1, h2, h3, hS⟩ := h
  obtain ⟨S', e1, hD'⟩ := hD.sync (ls := ls) (n := n)
  refine (logSync_any hS).mono fun e w' hp => ?_
  rw [e1] at hp
  exact ⟨hp.1, S', hD', h1, h2, h3, hp.2⟩
theorem Wl.next (h : Wl w0 w g d room lv n x ls s O R rows) :
    Calls Try.prog 17 #[.pointer (some ⟨g, 0, none⟩)] w (fun e w' => e = .returned (.int .i64 (n + (ls.length : Int))) ∧ Wl w0 w' g d room lv n x ls s O R rows) := by
  have hsm := h.small
  have hfm := frames_many ls
  obtain ⟨S, hD, h1, h2, h3, hS⟩ := h
  refine (logNext_any hS).mono fun e w' hp => ?_
  have : IntKind.i64.wrap ((lg lv n ls).first + ((lg lv n ls).recs.length : Int)) = n + (ls.length : Int) := by
    show IntKind.i64.wrap (n + (ls.length : Int)) = _
    exact IntWalk.i64_in _ (by omega)
  rw [this] at hp
  exact ⟨hp.1, S, hD, h1, h2, h3, hp.2⟩
theorem Wl.first (h : Wl w0 w g d room lv n x ls s O R rows) :
    Calls Try.prog 18 #[.pointer (some ⟨g, 0, none⟩)] w (fun e w' => e = .returned (.int .i64 n) ∧ Wl w0 w' g d room lv n x ls s O R rows) := by
  obtain ⟨S, hD, h1, h2, h3, hS⟩ := h
  refine (first_any hS).mono fun e w' hp => ?_
  exact ⟨hp.1, S, hD, h1, h2, h3, hp.2⟩
theorem Wl.at_ (h : Wl w0 w g d room lv n x ls s O R rows) {k : Int} (i : Nat) (hk : k = n + (i : Int)) (hi : i < ls.length) :
    Calls Try.prog 19 #[.pointer (some ⟨g, 0, none⟩), .int .i64 k] w (fun e w' => ∃ v, e = .returned (.tuple #[v, .int .i64 0]) ∧ Wl w0 w' g d room lv n x ls s O R ((v, ls[i]) :: rows)) := by
  have hsm := h.small
  have hfm := frames_many ls
  obtain ⟨S, hD, h1, h2, h3, hS⟩ := h
  subst hk
  have e1 := at_in (n := n) hD hi
  refine (at_log _ h2 h3 (by show ls.length ≤ _; omega) h1 hS).mono fun e w' hp => ?_
  rw [e1] at hp
  obtain ⟨v, he, hS'⟩ := hp
  exact ⟨v, he, S, hD, h1, h2, h3, hS'⟩
theorem Wl.atNo (h : Wl w0 w g d room lv n x ls s O R rows) {k : Int} (hk : k < n ∨ n + (ls.length : Int) ≤ k) :
    Calls Try.prog 19 #[.pointer (some ⟨g, 0, none⟩), .int .i64 k] w (fun e w' => ∃ v, e = .returned (.tuple #[v, .int .i64 4]) ∧ Wl w0 w' g d room lv n x ls s O R rows) := by
  have hsm := h.small
  have hfm := frames_many ls
  obtain ⟨S, hD, h1, h2, h3, hS⟩ := h
  have e1 := at_out (n := n) (ls := ls) hD hk
  refine (at_log _ h2 h3 (by show ls.length ≤ _; omega) h1 hS).mono fun e w' hp => ?_
  rw [e1] at hp
  obtain ⟨v, he, hS'⟩ := hp
  exact ⟨v, he, S, hD, h1, h2, h3, hS'.drop_row⟩
/-- The power goes: the log is a thing beside the disk. -/
theorem Wl.crash (h : Wl w0 w g d room lv n x ls s O R rows) (keep : Int) :
    Calls Try.prog 15 #[.pointer (some ⟨d, 0, none⟩), .int .i64 keep] w (fun e w' => e = .returned (.tuple #[]) ∧
      Dl w0 w' d room lv true x ((frames ls).take (s + min keep.toNat ((frames ls).length - s))) (if x then s + min keep.toNat ((frames ls).length - s) else 0) (O.map (FileS.crash keep)) (ThLog g d (lg lv n ls) :: R) rows) := by
  obtain ⟨S, hD, h1, h2, h3, hS⟩ := h
  exact (SD.crash hS.swap keep rfl).mono fun e w' ⟨he, hS'⟩ => ⟨he, _, hD.crash keep, hS'⟩
theorem Dl.on (h : Dl w0 w d room lv true x b s O R rows) {lv' : Int} (hl : wrap64 (lv + 1) = lv') :
    Calls Try.prog 16 #[.pointer (some ⟨d, 0, none⟩)] w (fun e w' => e = .returned (.tuple #[]) ∧ Dl w0 w' d room lv' false x b s O R rows) := by
  obtain ⟨S, hD, hS⟩ := h
  subst hl
  exact (SD.on hS rfl).mono fun e w' ⟨he, hS'⟩ => ⟨he, _, hD.on, hS'⟩
end

theorem base_none {room lv : Int} {x : Bool} {b : Bs} {s : Nat} {S : DiskS} (h : Dk room lv false x b s [] S) : baseS S = (1, 0) := by
  unfold baseS
  have : S.ask nmBase = 4 := by
    unfold DiskS.ask
    rw [if_neg (by simp [h.may nmBase good_base])]
    obtain ⟨-, -, -, A, B, hf, hO, -⟩ := h
    have hA : A = [] := by cases A; rfl; cases hO
    have hB : B = [] := by cases B; rfl; rw [hA] at hO; cases hO
    rw [hf, hA, hB]
    cases x <;> simp [lfs, hasN, ne_bl.symm]
  rw [if_pos this]
theorem scan_whole (ls : List Bs) (h : ∀ r ∈ ls, r.length ≤ 20000) : scanS (frames ls) = (ls, (frames ls).length, 0) := by
  have := scanS_frames ls [] h
  rw [List.append_nil, scanS_nil] at this
  simpa using this
end Go.Proofs.Ytbfblekabnkghaa
