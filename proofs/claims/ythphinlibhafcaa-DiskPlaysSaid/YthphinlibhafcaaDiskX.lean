/-
  The walks through package disk, its calls.
-/
import Derived.Test.YthphinlibhafcaaInfos
import Derived.Test.YthphinlibhafcaaDiskW
import Derived.Deep.RegionHeld3
namespace Go.Proofs.Ythphinlibhafcaa
open Go.RowKit Go.Av


/-- The world behind a call that names its texts. -/
theorem may_at {d m : Nat} {S : DiskS} {gs : List FileG} (name : ByteArray) (w : World) (hI : DiskI w d S m gs) (hs : name.size ≤ maxLen) :
    ∀ (W : World), Upd w W [] [] → W.cell? ⟨w.heap.size, 0, none⟩ = some (.string name) → Calls Try.prog 31 #[.pointer (some ⟨d, 0, none⟩), .slice (some ⟨w.heap.size, 0, none⟩) 1 1] W fun e w' => e = .returned (.int .i64 (S.may [name])) ∧ W = w' := fun W hu hc =>
    may_any w.heap.size 1 1 [name] W (hI.upd0 hu) rfl (by decide) (fun i h => by obtain rfl : i = 0 := by simpa using h
                                                                                 exact hc) (by simpa using hs)

/-- What a call of Append leaves. -/
def AppendPost (w : World) (d m : Nat) (S : DiskS) (gs : List FileG) (name : ByteArray) (b : Bs) (e : Ending) (w' : World) : Prop :=
  e = .returned (.int .i64 (S.append name b).1) ∧ ∃ gs', DiskI w' d (S.append name b).2 m gs' ∧ Upd w w' (DiskD d m gs) (DiskD d m gs')

theorem AppendPost.stays {w w' : World} {d m : Nat} {S : DiskS} {gs : List FileG} {name : ByteArray} {b : Bs} (hI : DiskI w d S m gs) (hu : Upd w w' [] []) (k : Int) (h : S.append name b = (k, S)) :
    AppendPost w d m S gs name b (.returned (.int .i64 k)) w' := by
  refine ⟨by rw [h], gs, ?_, hu.mono (by simp) (fun b hb => .inr hb)⟩
  rw [h]; exact hI.upd0 hu

theorem append_end {w w2 w4 : World} {d m : Nat} {S : DiskS} {l1 l2 : List FileG} {g : FileG} {b : Bs} {v' : Value} {D' : List Nat} (hI : DiskI w2 d S m (l1 ++ g :: l2)) (hu : Upd w w2 [] [])
    (hsp : S.append g.name b = (0, { S with fs := putApp g.name b S.fs })) (t1 : FileAt w4 { g with b := g.b ++ b, v := v', D := D' }) (t2 : Upd w2 w4 g.dom (g.f :: D')) (t3 : (g.f :: D').Nodup)
    (hfit : (b.length : Int) ≤ S.room - (total S.fs : Int)) : AppendPost w d m S (l1 ++ g :: l2) g.name b (.returned (.int .i64 0)) w4 := by
  have hS := hI.hS
  have hfs : putApp g.name b S.fs = (l1 ++ { g with b := g.b ++ b, v := v', D := D' } :: l2).map FileG.toFileS := by
    rw [← hS, List.map_append, List.map_cons, putApp_mid _ _ _ rfl _ _ (names_before hI)]
    simp
  obtain ⟨r1, r2⟩ := hI.replace (S' := { S with fs := putApp g.name b S.fs }) t2 t1 rfl rfl t3 (by rw [hfs]) (by simp only [total_putApp]; omega)
  exact ⟨by rw [hsp], _, by rw [hsp]; exact r1, (hu.mono (by simp) (fun b hb => .inr hb)).trans r2⟩

theorem append_new {w w2 w3 w4 : World} {d m : Nat} {S : DiskS} {gs : List FileG} {name : ByteArray} {b : Bs} {v' : Value} {D' : List Nat} {X : Obj} {T : TypeId} (hI : DiskI w2 d S m gs) (hu : Upd w w2 [] [])
    (hno : ∀ g ∈ gs, g.name ≠ name) (hsp : S.append name b = (0, { S with fs := putApp name b S.fs })) (hu3 : Upd (w2.alloc X) w3 [m] [m]) (hm3 : MapIs w3 .string m (gs.map FileG.ent ++ [(.string name, .pointer (some ⟨w2.heap.size, 0, none⟩))]))
    (h3 : w3.heap[w2.heap.size]? = some (.cells #[.slice none 0 0, .int .i64 0] T (0, 0))) (hu4 : Upd w3 w4 [] D') (hown : OwnRow w4 1 v' (b.map bv) D')
    (hfit : (b.length : Int) ≤ S.room - (total S.fs : Int)) : AppendPost w d m S gs name b (.returned (.int .i64 0)) (w4.setCell ⟨w2.heap.size, 0, none⟩ v') := by
  have hS := hI.hS
  have hml := hI.hm.lt
  obtain ⟨g, hg⟩ : ∃ g : FileG, g = { name := name, b := b, safe := 0, f := w2.heap.size, v := v', D := D' } := ⟨_, rfl⟩
  obtain ⟨t1, t2, t3⟩ := file_turned (g := { name := name, b := [], safe := 0, f := w2.heap.size, v := .slice none 0 0, D := [] }) (b' := b) (v' := v') h3 (by simp [FileG.dom]) hown hu4 (by simp)
  have hfs : putApp name b S.fs = (gs ++ [g]).map FileG.toFileS := by
    rw [← hS, putApp_new _ _ _ (fun x hx => by obtain ⟨y, hy, rfl⟩ := List.mem_map.1 hx; exact hno y hy)]
    simp [hg]
  have hall : Upd w2 (w4.setCell ⟨w2.heap.size, 0, none⟩ v') [m] (m :: w2.heap.size :: D') := by
    have u1 : Upd w2 (w2.alloc X) [m] (w2.heap.size :: [m]) := Upd.alloc1 w2 X [m]
    have u2 : Upd (w2.alloc X) w3 (w2.heap.size :: [m]) (w2.heap.size :: [m]) := hu3.mono (by simp) (by simp)
    refine (u1.trans u2).trans (t2.mono (by simp [FileG.dom]) (fun b hb => ?_))
    simp only [List.mem_cons] at hb ⊢
    rcases hb with rfl | hb
    · exact .inr (by simp)
    · exact .inl hb
  have hnew : ∀ x ∈ w2.heap.size :: D', w2.heap.size ≤ x := by
    intro x hx
    rcases List.mem_cons.1 hx with rfl | hx
    · exact Nat.le_refl _
    · rcases hu4.new x hx with h | h
      · cases h
      · have := hu3.size; simp at this; omega
  have hmm : MapIs (w4.setCell ⟨w2.heap.size, 0, none⟩ v') .string m ((gs ++ [g]).map FileG.ent) := by
    refine MapIs.frame (w := w3) (by simpa [hg, FileG.ent] using hm3) ?_
    rw [heap_setCell_other _ _ _ _ (by simp; omega)]
    exact hu4.keep m hm3.lt (by simp)
  obtain ⟨r1, r2⟩ := hI.more (g := g) (S' := { S with fs := putApp name b S.fs }) (by rw [hg]; exact hall) hmm (by rw [hg]; exact t1) (by rw [hg]; exact t3) (by rw [hg]; exact hnew) (by rw [hfs]) (by simp only [total_putApp]; omega)
  exact ⟨by rw [hsp], _, by rw [hsp]; exact r1, (hu.mono (by simp) (fun b hb => .inr hb)).trans r2⟩

set_option maxRecDepth 100000 in
set_option maxHeartbeats 1000000 in
theorem append_any {d m : Nat} {S : DiskS} {gs : List FileG} (name : ByteArray) (vb : Value) (b : Bs) (E : List Nat) (w : World) (hI : DiskI w d S m gs) (hs : name.size ≤ maxLen)
    (hb : ReadRow w 1 vb (b.map bv) E) (hE : ∀ x ∈ E, x ∉ DiskD d m gs) :
    Calls Try.prog 11 #[.pointer (some ⟨d, 0, none⟩), .string name, vb] w (AppendPost w d m S gs name b) := by
  have Hmay := Lib.hid (may_at name w hI hs)
  obtain ⟨i0, hi0, hz0, hz1, hz2⟩ := info_parts info5
  obtain ⟨ab, nb, cb, hvb, hnb⟩ : ∃ a n c, vb = .slice a n c ∧ n = b.length := by
    obtain ⟨a, n, c, hv, hl, _⟩ := hb
    exact ⟨a, n, c, hv, by simpa using hl.symm⟩
  subst hnb
  have HB := Lib.hid hb
  clear hb
  by_cases h0 : S.may [name] = 0
  · have hne : (S.may [name] != 0) = false := by simp [h0]
    have H0 := Lib.hid h0
    clear h0
    subst hvb
    go_enter Try.func11, Try.ntmps11
    go_wp2_with fail
    refine (Hmay.out _ (Upd.alloc0 _ _ _) (by simp)).mono ?_
    rintro e w1 ⟨rfl, hw⟩
    have hu : Upd w w1 [] [] := by rw [← hw]; exact Upd.alloc0 _ _ _
    clear hw
    have hI1 := hI.upd0 hu
    obtain ⟨T, hd⟩ := hI1.hd
    have c0 : w1.cell? ⟨d, 0, none⟩ = some (.int .i64 S.room) := cell_of hd 0 rfl
    clear hd
    have r1 : 0 ≤ S.room - (total S.fs : Int) := by have := hI.fits; omega
    have r2 : S.room - (total S.fs : Int) ≤ 1048576 := by have := hI.hi; omega
    have r3 : S.room ≤ 1048576 := hI.hi
    have r4 : 0 ≤ S.room := by have := hI.lo; omega
    have r5 : (total S.fs : Int) ≤ 1048576 := by omega
    go_wp2_with fail
    have KS := Lib.hid (show ∀ W, Upd w1 W [] [] → W.cell? ⟨d, 0, none⟩ = some (.int .i64 S.room) ∧ Upd w1 W [] [] from fun W hW => ⟨by obtain ⟨T, hd⟩ := (hI1.upd0 hW).hd; exact cell_of hd 0 rfl, hW⟩)
    have hwr : IntKind.i64.wrap (S.room - (total S.fs : Int)) = S.room - (total S.fs : Int) := IntWalk.i64_in _ (by omega)
    go_region_held3 (fun W => W.cell? ⟨d, 0, none⟩ = some (.int .i64 S.room) ∧ Upd w1 W [] []) (first | exact KS.out _ hu3 | exact KS.out _ (Upd.refl _ _).drew)
      (first | (go_at_call 32; refine (total_any _ (hI1.upd0 (‹_ ∧ Upd w1 _ [] []›).2)).mono ?_; rintro e w2 ⟨rfl, hu2⟩; have hu3 := Upd.trans (‹_ ∧ Upd w1 _ [] []›).2 hu2))
    clear hwr
    by_cases hfit : S.room - (total S.fs : Int) < (b.length : Int)
    · go_wp2_with fail
      go_ret
      exact AppendPost.stays hI (hu.trans hu3) 9 (by simp [DiskS.append, H0.out, hfit])
    · have hI2 := hI1.upd0 hu3
      have hu2w : Upd w w2 [] [] := hu.trans hu3
      clear hu3 hI1
      obtain ⟨T, hd⟩ := hI2.hd
      have c3 : w2.cell? ⟨d, 3, none⟩ = some (.map (some m)) := cell_of hd 3 rfl
      have hdl := lt_of_heap hd
      clear hd
      have Hspec := Lib.hid (show S.append name b = (0, { S with fs := putApp name b S.fs }) by simp [DiskS.append, H0.out, hfit])
      rcases look gs name with ⟨l1, g, l2, rfl, rfl⟩ | hno
      · have hl := look_there hI2 (g := g) (by simp)
        obtain ⟨⟨Tf, hf⟩, hown, hsafe⟩ := hI2.hf g (by simp)
        obtain ⟨a, c, hv⟩ := own_slice hown
        rw [hv] at hown hf
        have f0 : w2.cell? ⟨g.f, 0, none⟩ = some (.slice a g.b.length c) := cell_of hf 0 rfl
        have hlen : g.b.length + b.length ≤ 1048576 := by
          have h1 := sumG_total hI2.hS
          have h2 := sumG_mid l1 g l2
          omega
        have hbr : ReadRow w2 1 (.slice ab b.length cb) (b.map bv) E := HB.out.frame (hu2w.same HB.out.lt (by simp))
        obtain ⟨nb, hnb, hsrc⟩ := hbr.src (P := Try.prog) (tx := 28) Try.underlying28 bv_one
        obtain rfl : b.length = nb := by simpa using hnb
        have hgl := lt_of_heap hf
        have hgd := file_nd hI2
        have hgn : g.f ∉ g.D := (List.nodup_cons.1 hgd).1
        have HBD := Lib.hid (show ∀ n, (g.b.map bv).length = n * 1 → n + b.length ≤ 140737488355328 ∧ (n + b.length) * i0.bytes ≤ 140737488355328 from fun n hn => by simp at hn; rw [hz2]; omega)
        have Hf := Lib.hid hf
        have Hv := Lib.hid hv
        clear hf hv hnb
        go_wp2_with (at_builtin; go_must (refine wpList_app rfl _ _ 28 28 rfl 1 _ _ _ rfl hown _ i0 _ Try.underlying28 hi0 hz0 hz1 rfl _ _ _ rfl hsrc HBD.out ?_); intro a3 n3 c3' w3 D3 hown3 hu3; have h3 := (hu3.keep g.f hgl hgn).trans Hf.out; have f3 := cell_of h3 0 rfl; have z3 := frz_of h3 0; clear h3)
        go_ret
        have hfv := Hf.out
        rw [← Hv.out] at hfv
        obtain ⟨t1, t2, t3⟩ := file_turned (b' := g.b ++ b) hfv hgd (by simpa using hown3) hu3 (by simp; omega)
        exact append_end hI2 hu2w Hspec.out t1 t2 t3 (by omega)
      · have hl := look_not hI2 hno
        have Hno := Lib.hid hno
        clear hno
        have hI3 := hI2.upd0 (Upd.alloc0 w2 (.cells #[.slice none 0 0, .int .i64 0] 60) [])
        obtain ⟨w3, hrun, hm3, hu3⟩ := mp_new (P := Try.prog) hI3.hm Try.underlying54 Try.underlying9 (key := .string name) (v := .pointer (some ⟨w2.heap.size, 0, none⟩)) trivial
          (fun p hp => by obtain ⟨g, hg, rfl⟩ := List.mem_map.1 hp; intro he; exact Hno.out g hg (by simpa [FileG.ent] using he))
        have hml := hI2.hm.lt
        have h3 : w3.heap[w2.heap.size]? = some (.cells #[.slice none 0 0, .int .i64 0] 60 (0, 0)) := (hu3.keep _ (by simp) (by simp; omega)).trans (heap_alloc_new w2 _)
        have f3 := cell_of h3 0 rfl
        have z3 := frz_of h3 0
        have hlt3 := hu3.size
        have hbr : ReadRow w3 1 (.slice ab b.length cb) (b.map bv) E := by
          have hw2 := HB.out.frame (hu2w.same HB.out.lt (by simp))
          have hw3 := hw2.frame ((Upd.alloc0 w2 (.cells #[.slice none 0 0, .int .i64 0] 60) []).same hw2.lt (by simp))
          exact hw3.frame (hu3.same hw3.lt (fun x hx hm => hE x hx (by simp at hm; simp [DiskD, hm])))
        obtain ⟨nb, hnb, hsrc⟩ := hbr.src (P := Try.prog) (tx := 28) Try.underlying28 bv_one
        obtain rfl : b.length = nb := by simpa using hnb
        have HBD := Lib.hid (show ∀ n, ([] : List Value).length = n * 1 → n + b.length ≤ 140737488355328 ∧ (n + b.length) * i0.bytes ≤ 140737488355328 from fun n hn => by simp at hn; rw [hz2]; omega)
        have H3 := Lib.hid h3
        clear h3 hnb
        go_wp2_with (at_builtin; go_must (refine wpList_app rfl _ _ 28 28 rfl 1 _ _ _ rfl (OwnRow.nil _ _) _ i0 _ Try.underlying28 hi0 hz0 hz1 rfl _ _ _ rfl hsrc HBD.out ?_); intro a3 n3 c3' w4 D3 hown3 hu4; have h4 := (hu4.keep w2.heap.size (lt_of_heap H3.out) (by simp)).trans H3.out; have f4 := cell_of h4 0 rfl; have z4 := frz_of h4 0; clear h4)
        go_ret
        exact append_new hI2 hu2w Hno.out Hspec.out hu3 hm3 H3.out hu4 (by simpa using hown3) (by omega)
  · have hne : (S.may [name] != 0) = true := by simpa using h0
    have H0 := Lib.hid h0
    clear h0
    subst hvb
    go_enter Try.func11, Try.ntmps11
    go_wp2_with fail
    refine (Hmay.out _ (Upd.alloc0 _ _ _) (by simp)).mono ?_
    rintro e w1 ⟨rfl, hw⟩
    have hu : Upd w w1 [] [] := by rw [← hw]; exact Upd.alloc0 _ _ _
    clear hw
    go_wp2_with fail
    go_ret
    exact AppendPost.stays hI hu _ (by simp [DiskS.append, H0.out])
end Go.Proofs.Ythphinlibhafcaa
