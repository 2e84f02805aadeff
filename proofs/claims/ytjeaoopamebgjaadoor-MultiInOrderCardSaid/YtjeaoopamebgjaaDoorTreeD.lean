/-
  A tree: results; the walks of fail, wrong, create.
-/
import Derived.Test.YtjeaoopamebgjaaDoorTreeC
namespace Go.Av
open Go.RowKit
structure StatS where
  made : Int
  changed : Int
  ver : Int
  kids : Int
  owner : Int
  len : Int
  cnt : Int
def NodeS.st (n : NodeS) : StatS := ⟨n.made, n.changed, n.ver, n.kids, n.owner, (n.data.size : Nat), (n.names.length : Nat)⟩
def noSt : StatS := ⟨0, 0, 0, 0, 0, 0, 0⟩
/-- What one Op is answered. -/
structure ResS where
  err : Int
  path : ByteArray
  data : ByteArray
  names : List Bs
  st : StatS
def ResS.cells (r : ResS) (nv : Value) : Array Value := #[.int .i64 r.err, .string r.path, .string r.data, nv, .int .i64 r.st.made, .int .i64 r.st.changed, .int .i64 r.st.ver, .int .i64 r.st.kids, .int .i64 r.st.owner, .int .i64 r.st.len, .int .i64 r.st.cnt]
def failS (e : Int) : ResS := ⟨e, ⟨#[]⟩, ⟨#[]⟩, [], noSt⟩
def ephF (f : Int) : Bool := f == 1 || f == 3
def createN (o : OpS) (sess zxid : Int) : NodeS := newS zxid (if ephF o.flags then sess else 0) o.data
def createT (S : TreeS) (o : OpS) (sess zxid : Int) : ResS × TreeS :=
  if (placeT S o).1 ≠ 0 then (failS (placeT S o).1, S) else
    (⟨0, ⟨(placeT S o).2.toArray⟩, ⟨#[]⟩, [], (createN o sess zxid).st⟩, { S with l := layT (placeT S o).2 (createN o sess zxid) S.l })
def wrongS (o : OpS) (n : NodeS) : Bool := o.ver != -1 && o.ver != n.ver
theorem eph_bit {f : Int} (h0 : 0 ≤ f) (h3 : f ≤ 3) : (bits .and .i64 f 1 != 0) = ephF f := by
  rcases (show f = 0 ∨ f = 1 ∨ f = 2 ∨ f = 3 by omega) with rfl | rfl | rfl | rfl <;> decide
theorem place_zero {S : TreeS} {o : OpS} (h : (placeT S o).1 = 0) : lookT (placeT S o).2 S.l = none ∧ (placeT S o).2.length ≤ max 200 o.path.size := by
  have hend : ∀ p, (endT S p).1 = 0 → endT S p = (0, p) ∧ lookT p S.l = none := fun p h => by
    unfold endT at h ⊢
    split at h
    · cases h
    · rename_i h1
      split at h
      · cases h
      · rename_i h2
        rw [if_neg h1, if_neg h2]
        refine ⟨rfl, ?_⟩
        cases hl : lookT p S.l with
        | none => rfl
        | some _ => rw [hl] at h1; exact absurd rfl h1
  have hsz : o.p.length = o.path.size := by unfold OpS.p; simp
  unfold placeT at h ⊢
  cases hup : parentP o.p with
  | none =>
    simp only [hup] at h ⊢
    obtain ⟨e1, e2⟩ := hend _ h
    rw [e1]
    exact ⟨e2, by show o.p.length ≤ _; omega⟩
  | some up =>
    simp only [hup] at h ⊢
    cases hn : lookT up S.l with
    | none => simp only [hn] at h; exact absurd h (by decide)
    | some n =>
      simp only [hn] at h ⊢
      by_cases how : n.owner ≠ 0
      · rw [if_pos how] at h; exact absurd h (by decide)
      rw [if_neg how] at h ⊢
      by_cases hsq : seqF o.flags = true
      · rw [if_pos hsq] at h ⊢
        cases hq : numberP o.p n.next with
        | none => simp only [hq] at h; exact absurd h (by decide)
        | some q =>
          simp only [hq] at h ⊢
          obtain ⟨e1, e2⟩ := hend _ h
          rw [e1]
          exact ⟨e2, by have := number_len hq; show q.length ≤ _; omega⟩
      · rw [if_neg hsq] at h ⊢
        obtain ⟨e1, e2⟩ := hend _ h
        rw [e1]
        exact ⟨e2, by show o.p.length ≤ _; omega⟩
end Go.Av
namespace Go.Proofs.YtjeaoopamebgjaaDoor
open Go.RowKit Go.Av
set_option maxRecDepth 100000 in
theorem fail_any (x : Int) (w : World) : Calls Tryd.prog 16 #[.int .i64 x] w fun e w' => e = .returned (.agg ((failS x).cells (.slice none 0 0))) ∧ Upd w w' [] [] := by
  go_enter Tryd.func16, Tryd.ntmps16
  go_wp2_with fail
  refine bodyPost_ret (ret_cell rfl _ rfl (heap_alloc_new w _) Tryd.underlying42 (by kernel_rfl)) rfl ?_
  exact ⟨rfl, Upd.alloc0 _ _ _⟩
set_option maxRecDepth 100000 in
theorem wrong_any (o : OpS) (x : Nat) (n : NodeS) (nv : Value) (w : World) (h : w.heap[x]? = some (.cells (n.cells nv) 51 (0, 0))) :
    Calls Tryd.prog 26 #[o.val, .pointer (some ⟨x, 0, none⟩)] w fun e w' => e = .returned (.bool (wrongS o n)) ∧ Upd w w' [] [] := by
  have hu0 := Upd.alloc0 w (.cells #[.int .i64 o.kind, .string o.path, .string o.data, .int .i64 o.ver, .int .i64 o.flags] 25) []
  obtain ⟨o0, o1, o2, o3, o4⟩ := opAt_new w o (Upd.refl (w.alloc (.cells #[.int .i64 o.kind, .string o.path, .string o.data, .int .i64 o.ver, .int .i64 o.flags] 25)) [])
  have n2 := upd_cell hu0 (cell_of h 2 (v := .int .i64 n.ver) rfl)
  have HU := Lib.hid hu0
  obtain ⟨kind, path, data, ver, flags⟩ := o
  unfold OpS.val wrongS
  dsimp only at o0 o1 o2 o3 o4 n2 HU ⊢
  obtain ⟨z1, h1⟩ : ∃ z, (ver != -1) = z := ⟨_, rfl⟩
  obtain ⟨z2, h2⟩ : ∃ z, (ver != n.ver) = z := ⟨_, rfl⟩
  rw [h1, h2]
  clear h hu0
  obtain ⟨wb, hwb⟩ : ∃ z, z = w.alloc (.cells #[.int .i64 kind, .string path, .string data, .int .i64 ver, .int .i64 flags] 25) := ⟨_, rfl⟩
  rw [← hwb] at o0 o1 o2 o3 o4 n2 HU
  cases z1
  all_goals
    go_enter Tryd.func26, Tryd.ntmps26
    go_wp2_with fail
    rw [← hwb]
    refine wp_region_M (fun W => W.cell? ⟨w.heap.size, 3, none⟩ = some (.int .i64 ver) ∧ W.cell? ⟨x, 2, none⟩ = some (.int .i64 n.ver)) 14 (by kernel_rfl) ?_
    refine wpAnyM_take (by kernel_rfl) (by intro c a d v w h; cases d <;> exact h) [(0, false), (1, true), (2, false), (3, false), (4, false), (5, true), (6, false), (7, false), (8, false), (9, false), (10, true), (11, false), (12, false), (13, false)] (fuel := 0) (by kernel_rfl) ?_
    apply Exists.intro; refine ⟨?_, ⟨o3, n2⟩, ?_⟩
    · iterate 14 ((first | (apply yieldN; (· (simp only [List.getElem?_toArray, List.getElem?_cons_succ, List.getElem?_cons_zero]; try rfl)); (· rfl)) | ((first | apply yieldP | apply yieldL); (· (simp only [List.getElem?_toArray, List.getElem?_cons_succ, List.getElem?_cons_zero]; try rfl)); (· rfl); (· (intros; go_simp; try with_reducible rfl)))); (· (simp only [Act.put, List.setIfInBounds_toArray, List.set_cons_zero, List.set_cons_succ]; try rfl)))
      exact rfl
    refine wpAnyM_done (by kernel_rfl) ?_ _
    go_wp2_with fail
    go_ret
    exact ⟨rfl, HU.out.drew⟩
end Go.Proofs.YtjeaoopamebgjaaDoor
