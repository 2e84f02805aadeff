/-
  Two disks side by side: the law's own look at both.
-/
import Derived.Test.YthphinlibhafcaaFdP
namespace Go.Proofs.Ythphinlibhafcaa
open Go.RowKit Go.Av
theorem infoStr : (Try.prog.info? 9).map (fun i => (i.zero, i.size, i.bytes)) = some (some (.string ByteArray.empty), 1, 16) := by kernel_rfl
def stv (l : List UInt8) : Value := .string ⟨l.toArray⟩
section
variable {w0 w : World} {d t : Nat} {S T : DiskS} {R : List Thing} {rows : List (Value × Bs)}
theorem read_cell {w : World} {a : Option Addr} {n c : Nat} {xs : List Value} {E : List Nat} (h : ReadRow w 1 (.slice a n c) xs E) {i : Nat} {x : Value} (hx : xs[i]? = some x) : ∃ y : Addr, a = some y ∧ y.spot = none ∧ w.cell? (y.add i) = some x := by
  obtain ⟨a', n', c', hv, hl, hn, hc, ha, hr⟩ := h
  cases hv
  rcases hr with ⟨rfl, _⟩ | ⟨g, off, h1, h2, h3, h4⟩
  · simp at hx
  · refine ⟨⟨g, off, none⟩, h1, rfl, ?_⟩
    rw [Addr.add_lit]
    exact h4 i x hx
set_option maxRecDepth 100000 in
set_option maxHeartbeats 1000000 in
theorem same_any (va vb : Value) (l : List (List UInt8)) (w : World) {E F : List Nat} (ha : ReadRow w 1 va (l.map stv) E) (hb : ReadRow w 1 vb (l.map stv) F) :
    Calls Try.prog 44 #[va, vb] w fun e w' => e = .returned (.bool true) ∧ Upd w w' [] [] := by
  obtain ⟨a, n, c, rfl, hla, hna, hca, -⟩ := id ha
  obtain ⟨a2, n2, c2, rfl, hlb, hnb, hcb, -⟩ := id hb
  rw [List.length_map, Nat.mul_one] at hla hlb
  subst hla
  obtain rfl : l.length = n2 := hlb
  unfold maxLen at hca hcb
  have HA := Lib.hid (show _ ∧ _ from ⟨ha, hb⟩)
  clear ha hb
  go_enter Try.func44, Try.ntmps44
  go_wp2_with fail
  go_loopg [5] l.length (fun k vi wr => Upd w wr [] [] ∧ ∃ p : Nat, p ≤ l.length ∧ k = l.length - p ∧ vi = .int .i64 (p : Int))
  case atStart => exact ⟨Upd.refl _ _, 0, Nat.zero_le _, rfl, rfl⟩
  case round =>
    obtain ⟨hu, p, hp, hk, hvi⟩ := hrel
    subst hvi
    have HU := Lib.hid hu
    clear hu
    by_cases hlt : p < l.length
    · have hx : (l.map stv)[p]? = some (stv l[p]) := by rw [List.getElem?_map, List.getElem?_eq_getElem hlt]; rfl
      obtain ⟨y1, rfl, hy1, e1⟩ := read_cell (HA.out.1.frame (HU.out.same HA.out.1.lt (by simp))) hx
      obtain ⟨y2, rfl, hy2, e2⟩ := read_cell (HA.out.2.frame (HU.out.same HA.out.2.lt (by simp))) hx
      unfold stv at e1 e2
      obtain ⟨q, hq⟩ : ∃ q : ByteArray, (⟨l[p].toArray⟩ : ByteArray) = q := ⟨_, rfl⟩
      rw [hq] at e1 e2
      clear hq hx
      have hql : (q.toList != q.toList) = false := by simp
      go_wp2_with fail
      refine wp_region_M (fun W => W.cell? (y1.add p) = some (.string q) ∧ W.cell? (y2.add p) = some (.string q)) 9 (by kernel_rfl) ?_
      refine wpAnyM_take (by kernel_rfl) (by intro c a d v w h; cases d <;> exact h) [(0, false), (1, false), (2, false), (3, true), (4, false), (5, false), (6, false), (7, true), (8, false)] (fuel := 0) (by kernel_rfl) ?_
      apply Exists.intro; refine ⟨?_, ⟨e1, e2⟩, ?_⟩
      · iterate 9 ((first | (apply yieldN; (· (simp only [List.getElem?_toArray, List.getElem?_cons_succ, List.getElem?_cons_zero]; try rfl)); (· rfl)) | ((first | apply yieldP | apply yieldL); (· (simp only [List.getElem?_toArray, List.getElem?_cons_succ, List.getElem?_cons_zero]; try rfl)); (· rfl); (· (intros; go_simp; try with_reducible rfl)))); (· (simp only [Act.put, List.setIfInBounds_toArray, List.set_cons_zero, List.set_cons_succ]; try rfl)))
        exact rfl
      refine wpAnyM_done (by kernel_rfl) ?_ _
      go_wp2_with fail
      go_roundg (l.length - (p + 1))
      case rel => exact ⟨HU.out.drew, p + 1, by omega, rfl, by go_num⟩
      case measure => omega
    · go_wp2_with fail
      go_ret
      exact ⟨rfl, HU.out⟩
theorem SD.size (h : Sep w0 w (ThDisk d S :: R) rows) :
    Calls Try.prog 12 #[.pointer (some ⟨d, 0, none⟩)] w (fun e w' => e = .returned (.int .i64 (DiskS.size S)) ∧ Upd w w' [] []) := by
  obtain ⟨D, hD, hr, back⟩ := h.use
  exact size_any w hD
theorem SD.names (h : Sep w0 w (ThDisk d S :: R) rows) (hn : S.fs.length ≤ 1000000) (hs : ∀ f ∈ S.fs, f.name.size ≤ maxLen) :
    Calls Try.prog 19 #[.pointer (some ⟨d, 0, none⟩)] w (NamesPost w S) := by
  obtain ⟨D, hD, hr, back⟩ := h.use
  exact names_any w hD hn hs
/-- What a disk that is held is. -/
theorem SD.fine (h : Sep w0 w (ThDisk d S :: R) rows) : Named S.fs ∧ 64 ≤ S.room ∧ S.room ≤ 1048576 ∧ (total S.fs : Int) ≤ S.room ∧ ∀ f ∈ S.fs, f.safe ≤ f.b.length := by
  obtain ⟨D, hD, hr, back⟩ := h.use
  obtain ⟨m, gs, hI, -⟩ := hD
  refine ⟨hI.named, hI.lo, hI.hi, hI.fits, fun f hf => ?_⟩
  rw [← hI.hS] at hf
  obtain ⟨g, hg, rfl⟩ := List.mem_map.1 hf
  exact (hI.hf g hg).2.2
end
end Go.Proofs.Ythphinlibhafcaa
