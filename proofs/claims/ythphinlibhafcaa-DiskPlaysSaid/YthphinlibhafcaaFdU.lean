/-
  Two disks side by side: their calls, one after the other.
-/
import Derived.Test.YthphinlibhafcaaFdT
namespace Go.Proofs.Ythphinlibhafcaa
open Go.RowKit Go.Av
section
variable {w0 w : World} {d t : Nat} {S S' T : DiskS} {R R2 : List Thing} {rows : List (Value × Bs)} {n : Nat}
theorem Fd.permR (h : Fd w0 w t T R rows) (hp : R.Perm R2) : Fd w0 w t T R2 rows := by
  obtain ⟨v, gs, rows', h1, hX⟩ := h
  exact ⟨v, gs, rows', h1, ⟨hX.fs, hX.row, hX.few, hX.sep.perm ((hp.cons _).cons _)⟩⟩
structure FineS (S : DiskS) (n : Nat) : Prop where
  named : Named S.fs
  lo : 64 ≤ S.room
  hi : S.room ≤ 1048576
  fits : (total S.fs : Int) ≤ S.room
  safe : ∀ f ∈ S.fs, f.safe ≤ f.b.length
  few : S.fs.length ≤ n
  names : ∀ f ∈ S.fs, f.name.size ≤ 1000
/-- Both, alike. -/
def TwoD (w0 w : World) (d t : Nat) (S : DiskS) (n : Nat) (R : List Thing) (rows : List (Value × Bs)) : Prop := ∃ T, DRel S T ∧ FineS S n ∧ Fd w0 w t T (ThDisk d S :: R) rows
/-- One of both has gone on. -/
def MidD (w0 w : World) (d t : Nat) (S S' : DiskS) (n : Nat) (R : List Thing) (rows : List (Value × Bs)) : Prop := ∃ T, DRel S T ∧ FineS S n ∧ Fd w0 w t T (ThDisk d S' :: R) rows
theorem TwoD.below (h : TwoD w0 w d t S n R rows) : Below w0.heap.size w0 w := by obtain ⟨T, -, -, hF⟩ := h; exact hF.below
theorem TwoD.drew (h : TwoD w0 w d t S n R rows) : TwoD w0 w.drew d t S n R rows := by obtain ⟨T, h1, h2, hF⟩ := h; exact ⟨T, h1, h2, hF.drew⟩
theorem TwoD.cell {b : Nat} {o : Obj} (h : TwoD w0 w d t S n (ThCell b o :: R) rows) : w.heap[b]? = some o := by
  obtain ⟨T, -, -, hF⟩ := h
  exact (hF.permR (List.Perm.swap _ _ _)).blk
theorem MidD.cell {b : Nat} {o : Obj} (h : MidD w0 w d t S S' n (ThCell b o :: R) rows) : w.heap[b]? = some o := by
  obtain ⟨T, -, -, hF⟩ := h
  exact (hF.permR (List.Perm.swap _ _ _)).blk
theorem TwoD.newCell (h : TwoD w0 w d t S n R rows) (o : Obj) : TwoD w0 (w.alloc o) d t S n (ThCell w.heap.size o :: R) rows := by
  obtain ⟨T, h1, h2, hF⟩ := h
  exact ⟨T, h1, h2, (hF.newCell o).permR (List.Perm.swap _ _ _)⟩
theorem TwoD.dropCell {X : Thing} (h : TwoD w0 w d t S n (X :: R) rows) : TwoD w0 w d t S n R rows := by
  obtain ⟨T, h1, h2, hF⟩ := h
  exact ⟨T, h1, h2, (hF.permR (List.Perm.swap _ _ _)).dropR⟩
theorem TwoD.more (h : TwoD w0 w d t S n R rows) {m : Nat} (hm : n ≤ m) : TwoD w0 w d t S m R rows := by
  obtain ⟨T, h1, h2, hF⟩ := h
  exact ⟨T, h1, { h2 with few := Nat.le_trans h2.few hm }, hF⟩
theorem fd_fine (h : Fd w0 w t T (ThDisk d S :: R) rows) : Named S.fs ∧ 64 ≤ S.room ∧ S.room ≤ 1048576 ∧ (total S.fs : Int) ≤ S.room ∧ ∀ f ∈ S.fs, f.safe ≤ f.b.length := by
  obtain ⟨R', rows', h1, hS, -⟩ := h.out
  exact SD.fine hS
/-- Fine again. -/
theorem two_made {n' : Nat} (h : Fd w0 w t T (ThDisk d S :: R) rows) (hr : DRel S T) (h1 : S.fs.length ≤ n') (h2 : ∀ f ∈ S.fs, f.name.size ≤ 1000) : TwoD w0 w d t S n' R rows := by
  obtain ⟨a1, a2, a3, a4, a5⟩ := fd_fine h
  exact ⟨T, hr, ⟨a1, a2, a3, a4, a5, h1, h2⟩, h⟩
theorem Fd.dcall {f : FuncId} {args : Array Value} {r : Ending} (h : Fd w0 w t T (ThDisk d S :: R) rows)
    (hc : ∀ (R' : List Thing) (rows' : List (Value × Bs)), (∀ r ∈ rows, r ∈ rows') → Sep w0 w (ThDisk d S :: R') rows' → Calls Try.prog f args w fun e w' => e = r ∧ Sep w0 w' (ThDisk d S' :: R') rows') : Calls Try.prog f args w fun e w' => e = r ∧ Fd w0 w' t T (ThDisk d S' :: R) rows := by
  obtain ⟨R', rows', h1, hS, back⟩ := h.out
  exact (hc R' rows' h1 hS).mono fun e w' ⟨he, h'⟩ => ⟨he, back (fun _ h => h) h' h1⟩
theorem updN_len (s : ByteArray) (φ : FileS → FileS) (l : List FileS) : (updN s φ l).length = l.length := by unfold updN; rw [List.length_map]
theorem updN_names {s : ByteArray} {φ : FileS → FileS} (hφ : ∀ f, (φ f).name = f.name) {l : List FileS} {P : ByteArray → Prop} (h : ∀ f ∈ l, P f.name) : ∀ f ∈ updN s φ l, P f.name := by
  intro f hf
  unfold updN at hf
  obtain ⟨g, hg, rfl⟩ := List.mem_map.1 hf
  split
  · rw [hφ]; exact h g hg
  · exact h g hg
theorem putApp_len (s : ByteArray) (b : Bs) : ∀ l : List FileS, (putApp s b l).length ≤ l.length + 1
  | [] => by simp [putApp]
  | f :: l => by
    unfold putApp
    split
    · simp
    · have := putApp_len s b l
      simp only [List.length_cons]
      omega
theorem putApp_names (s : ByteArray) (b : Bs) {P : ByteArray → Prop} (hs : P s) : ∀ {l : List FileS}, (∀ f ∈ l, P f.name) → ∀ f ∈ putApp s b l, P f.name
  | [], _ => by simpa [putApp] using hs
  | g :: l, h => by
    intro f hf
    unfold putApp at hf
    split at hf
    · rcases List.mem_cons.1 hf with rfl | hf
      · exact h g (by simp)
      · exact h f (by simp [hf])
    · rcases List.mem_cons.1 hf with rfl | hf
      · exact h f (by simp)
      · exact putApp_names s b hs (fun f hf => h f (by simp [hf])) f hf

/-! ### the calls -/
theorem mid_append (h : TwoD w0 w d t S n R rows) (s : ByteArray) (hs : s.size ≤ maxLen) {vb : Value} {b : Bs} (hb : (vb, b) ∈ rows) :
    Calls Try.prog 11 #[.pointer (some ⟨d, 0, none⟩), .string s, vb] w fun e w' => e = .returned (.int .i64 (S.append s b).1) ∧ MidD w0 w' d t S (S.append s b).2 n R rows := by
  obtain ⟨T, hr, hf, hF⟩ := h
  exact (hF.dcall (fun R' rows' h1 hS => SD.append hS s hs (h1 _ hb) rfl)).mono fun e w' ⟨he, h'⟩ => ⟨he, T, hr, hf, h'⟩
theorem two_append {s : ByteArray} {b : Bs} (h : MidD w0 w d t S (S.append s b).2 n R rows) (hs : s.size ≤ 1000) (hn : n < 1000) {vb : Value} (hb : (vb, b) ∈ rows) (hbl : b.length ≤ 1048576) :
    Calls Try.prog 22 #[.pointer (some ⟨t, 0, none⟩), .string s, vb] w fun e w' => e = .returned (.int .i64 (S.append s b).1) ∧ TwoD w0 w' d t (S.append s b).2 (n + 1) R rows := by
  obtain ⟨T, hr, hf, hF⟩ := h
  obtain ⟨e1, e2⟩ := hr.append hf.named s b
  have hlen : T.fs.length = S.fs.length := hr.perm.length_eq
  have htot := total_perm hr.perm
  have hroom := hr.room
  have h1 := hf.few
  have h2 := hf.hi
  have h3 := hf.lo
  have h4 := hf.fits
  refine (fd_append hF (named_perm hr.perm hf.named) (by omega) (by omega) (by omega) (by omega) s (by unfold maxLen; omega) vb b hb hbl).mono fun e w' ⟨he, T', hA, hF'⟩ => ?_
  rw [e1] at he
  refine ⟨he, two_made hF' (e2 T' hA) ?_ ?_⟩
  · unfold DiskS.append
    split
    · exact Nat.le_succ_of_le h1
    · split
      · exact Nat.le_succ_of_le h1
      · have := putApp_len s b S.fs
        show (putApp s b S.fs).length ≤ n + 1
        omega
  · unfold DiskS.append
    split
    · exact hf.names
    · split
      · exact hf.names
      · exact putApp_names (P := fun a => a.size ≤ 1000) s b hs hf.names
theorem mid_sync (h : TwoD w0 w d t S n R rows) (s : ByteArray) (hs : s.size ≤ maxLen) :
    Calls Try.prog 13 #[.pointer (some ⟨d, 0, none⟩), .string s] w fun e w' => e = .returned (.int .i64 (S.sync s).1) ∧ MidD w0 w' d t S (S.sync s).2 n R rows := by
  obtain ⟨T, hr, hf, hF⟩ := h
  exact (hF.dcall (fun R' rows' h1 hS => SD.sync hS s hs rfl)).mono fun e w' ⟨he, h'⟩ => ⟨he, T, hr, hf, h'⟩
theorem two_sync {s : ByteArray} (h : MidD w0 w d t S (S.sync s).2 n R rows) (hs : s.size ≤ maxLen) :
    Calls Try.prog 23 #[.pointer (some ⟨t, 0, none⟩), .string s] w fun e w' => e = .returned (.int .i64 (S.sync s).1) ∧ TwoD w0 w' d t (S.sync s).2 n R rows := by
  obtain ⟨T, hr, hf, hF⟩ := h
  obtain ⟨e1, e2⟩ := hr.sync s
  refine (fd_sync hF (named_perm hr.perm hf.named) s hs).mono fun e w' ⟨he, hF'⟩ => ?_
  rw [e1] at he
  refine ⟨he, two_made hF' e2 ?_ ?_⟩
  · unfold DiskS.sync
    split
    · show (updN _ _ _).length ≤ n
      rw [updN_len]; exact hf.few
    · exact hf.few
  · unfold DiskS.sync
    split
    · exact updN_names (φ := FileS.sync) (P := fun a => a.size ≤ 1000) (fun _ => rfl) hf.names
    · exact hf.names
theorem mid_cut (h : TwoD w0 w d t S n R rows) (s : ByteArray) (hs : s.size ≤ maxLen) (k : Int) :
    Calls Try.prog 20 #[.pointer (some ⟨d, 0, none⟩), .string s, .int .i64 k] w fun e w' => e = .returned (.int .i64 (S.cut s k).1) ∧ MidD w0 w' d t S (S.cut s k).2 n R rows := by
  obtain ⟨T, hr, hf, hF⟩ := h
  exact (hF.dcall (fun R' rows' h1 hS => SD.cut hS s k hs rfl)).mono fun e w' ⟨he, h'⟩ => ⟨he, T, hr, hf, h'⟩
theorem two_cut {s : ByteArray} {k : Int} (h : MidD w0 w d t S (S.cut s k).2 n R rows) (hs : s.size ≤ maxLen) :
    Calls Try.prog 24 #[.pointer (some ⟨t, 0, none⟩), .string s, .int .i64 k] w fun e w' => e = .returned (.int .i64 (S.cut s k).1) ∧ TwoD w0 w' d t (S.cut s k).2 n R rows := by
  obtain ⟨T, hr, hf, hF⟩ := h
  obtain ⟨e1, e2⟩ := hr.cut hf.named s k
  have htot := total_perm hr.perm
  have h2 := hf.hi
  have h4 := hf.fits
  refine (fd_cut hF (named_perm hr.perm hf.named) (by omega) s hs k).mono fun e w' ⟨he, hF'⟩ => ?_
  rw [e1] at he
  refine ⟨he, two_made hF' e2 ?_ ?_⟩
  · unfold DiskS.cut
    split
    · exact hf.few
    · split
      · exact hf.few
      · show (updN _ _ _).length ≤ n
        rw [updN_len]; exact hf.few
  · unfold DiskS.cut
    split
    · exact hf.names
    · split
      · exact hf.names
      · exact updN_names (φ := FileS.cut k.toNat) (P := fun a => a.size ≤ 1000) (fun _ => rfl) hf.names
theorem mid_drop (h : TwoD w0 w d t S n R rows) (s : ByteArray) (hs : s.size ≤ maxLen) :
    Calls Try.prog 21 #[.pointer (some ⟨d, 0, none⟩), .string s] w fun e w' => e = .returned (.int .i64 (S.drop s).1) ∧ MidD w0 w' d t S (S.drop s).2 n R rows := by
  obtain ⟨T, hr, hf, hF⟩ := h
  exact (hF.dcall (fun R' rows' h1 hS => SD.drop hS s hs rfl)).mono fun e w' ⟨he, h'⟩ => ⟨he, T, hr, hf, h'⟩
theorem two_drop {s : ByteArray} (h : MidD w0 w d t S (S.drop s).2 n R rows) (hs : s.size ≤ maxLen) :
    Calls Try.prog 26 #[.pointer (some ⟨t, 0, none⟩), .string s] w fun e w' => e = .returned (.int .i64 (S.drop s).1) ∧ TwoD w0 w' d t (S.drop s).2 n R rows := by
  obtain ⟨T, hr, hf, hF⟩ := h
  obtain ⟨e1, e2⟩ := hr.drop s
  refine (fd_drop hF (named_perm hr.perm hf.named) s hs).mono fun e w' ⟨he, hF'⟩ => ?_
  rw [e1] at he
  refine ⟨he, two_made hF' e2 ?_ ?_⟩
  · unfold DiskS.drop
    split
    · have := (del_sub s S.fs).length_le
      have := hf.few
      show (delN s S.fs).length ≤ n
      omega
    · exact hf.few
  · unfold DiskS.drop
    split
    · exact fun f h => hf.names f ((del_sub s S.fs).subset h)
    · exact hf.names
theorem mid_rename (h : TwoD w0 w d t S n R rows) (s to : ByteArray) (hs : s.size ≤ maxLen) (ht : to.size ≤ maxLen) :
    Calls Try.prog 18 #[.pointer (some ⟨d, 0, none⟩), .string s, .string to] w fun e w' => e = .returned (.int .i64 (S.rename s to).1) ∧ MidD w0 w' d t S (S.rename s to).2 n R rows := by
  obtain ⟨T, hr, hf, hF⟩ := h
  exact (hF.dcall (fun R' rows' h1 hS => SD.rename hS s to hs ht rfl)).mono fun e w' ⟨he, h'⟩ => ⟨he, T, hr, hf, h'⟩
theorem two_rename {s to : ByteArray} (h : MidD w0 w d t S (S.rename s to).2 n R rows) (hs : s.size ≤ maxLen) (ht : to.size ≤ 1000) (hn : n < 1000) :
    Calls Try.prog 25 #[.pointer (some ⟨t, 0, none⟩), .string s, .string to] w fun e w' => e = .returned (.int .i64 (S.rename s to).1) ∧ TwoD w0 w' d t (S.rename s to).2 (n + 1) R rows := by
  obtain ⟨T, hr, hf, hF⟩ := h
  obtain ⟨e1, e2⟩ := hr.rename hf.named s to
  have hlen : T.fs.length = S.fs.length := hr.perm.length_eq
  have h1 := hf.few
  refine (fd_rename hF (named_perm hr.perm hf.named) (by omega) s to hs (by unfold maxLen; omega)).mono fun e w' ⟨he, T', hA, hF'⟩ => ?_
  rw [e1] at he
  refine ⟨he, two_made hF' (e2 T' hA) ?_ ?_⟩
  · unfold DiskS.rename
    split
    · exact Nat.le_succ_of_le h1
    · split
      · rename_i hh
        obtain ⟨f, hfm, hfn⟩ := hasN_iff.1 hh
        have := (renN_perm (to := to) hf.named hfm hfn).length_eq
        have h5 := ((del_sub to (delN s S.fs)).trans (del_sub s S.fs)).length_le
        show (renN s to S.fs).length ≤ n + 1
        rw [this, List.length_cons]
        omega
      · exact Nat.le_succ_of_le h1
  · unfold DiskS.rename
    split
    · exact hf.names
    · split
      · rename_i hh
        obtain ⟨f, hfm, hfn⟩ := hasN_iff.1 hh
        intro g hg
        have := (renN_perm (to := to) hf.named hfm hfn).mem_iff.1 hg
        rcases List.mem_cons.1 this with rfl | hg
        · exact ht
        · exact hf.names g (((del_sub to (delN s S.fs)).trans (del_sub s S.fs)).subset hg)
      · exact hf.names
theorem mid_crash (h : TwoD w0 w d t S n R rows) (k : Int) :
    Calls Try.prog 14 #[.pointer (some ⟨d, 0, none⟩), .int .i64 k] w fun e w' => e = .returned (.tuple #[]) ∧ MidD w0 w' d t S (S.crash k) n R rows := by
  obtain ⟨T, hr, hf, hF⟩ := h
  exact (hF.dcall (fun R' rows' h1 hS => SD.crash hS k rfl)).mono fun e w' ⟨he, h'⟩ => ⟨he, T, hr, hf, h'⟩
theorem two_crash {k : Int} (h : MidD w0 w d t S (S.crash k) n R rows) :
    Calls Try.prog 27 #[.pointer (some ⟨t, 0, none⟩), .int .i64 k] w fun e w' => e = .returned (.tuple #[]) ∧ TwoD w0 w' d t (S.crash k) n R rows := by
  obtain ⟨T, hr, hf, hF⟩ := h
  have htot := total_perm hr.perm
  have h2 := hf.hi
  have h4 := hf.fits
  refine (fd_crash hF (fun f h => hf.safe f (hr.perm.mem_iff.1 h)) (by omega) k).mono fun e w' ⟨he, hF'⟩ => ?_
  refine ⟨he, two_made hF' (hr.crash k) ?_ ?_⟩
  · show (List.map _ _).length ≤ n
    rw [List.length_map]; exact hf.few
  · intro f hfm
    obtain ⟨g, hg, rfl⟩ := List.mem_map.1 (show f ∈ S.fs.map (FileS.crash k) from hfm)
    exact hf.names g hg
theorem mid_on (h : TwoD w0 w d t S n R rows) :
    Calls Try.prog 15 #[.pointer (some ⟨d, 0, none⟩)] w fun e w' => e = .returned (.tuple #[]) ∧ MidD w0 w' d t S S.on n R rows := by
  obtain ⟨T, hr, hf, hF⟩ := h
  exact (hF.dcall (fun R' rows' h1 hS => SD.on hS rfl)).mono fun e w' ⟨he, h'⟩ => ⟨he, T, hr, hf, h'⟩
theorem two_on (h : MidD w0 w d t S S.on n R rows) :
    Calls Try.prog 28 #[.pointer (some ⟨t, 0, none⟩)] w fun e w' => e = .returned (.tuple #[]) ∧ TwoD w0 w' d t S.on n R rows := by
  obtain ⟨T, hr, hf, hF⟩ := h
  exact (fd_on hF).mono fun e w' ⟨he, hF'⟩ => ⟨he, two_made hF' hr.on hf.few hf.names⟩
theorem two_same (h : TwoD w0 w d t S n R rows) (hn : n ≤ 1000) (s : ByteArray) (hs : s.size ≤ maxLen) :
    Calls Try.prog 29 #[.pointer (some ⟨d, 0, none⟩), .pointer (some ⟨t, 0, none⟩), .string s] w fun e w' => e = .returned (.bool true) ∧ TwoD w0 w' d t S n R rows := by
  obtain ⟨T, hr, hf, hF⟩ := h
  have h1 := hf.few
  exact (dsame hF hr s hs (fun f h => by have := hf.names f h; unfold maxLen; omega) (by omega)).mono fun e w' ⟨he, hF'⟩ => ⟨he, T, hr, hf, hF'⟩
end
end Go.Proofs.Ythphinlibhafcaa
