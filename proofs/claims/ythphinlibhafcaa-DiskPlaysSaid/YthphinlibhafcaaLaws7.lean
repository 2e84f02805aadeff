/-
  The statements of layer 7: awake.
-/
import Derived.Test.YthphinlibhafcaaDiskG
import Derived.Lib.SlBytesConst
namespace Go.Proofs.Ythphinlibhafcaa
open Go.RowKit Go.Av

theorem append_at {d : Nat} {S : DiskS} {D : List Nat} (name : ByteArray) (vb : Value) (b : Bs) (E : List Nat) (w : World) (h : DiskAt w d S D) (hs : name.size ≤ maxLen) (hb : ReadRow w 1 vb (b.map bv) E) (hE : ∀ x ∈ E, x ∉ D) :
    Calls Try.prog 11 #[.pointer (some ⟨d, 0, none⟩), .string name, vb] w (DiskPost w d D (.returned (.int .i64 (S.append name b).1)) (S.append name b).2) := by
  obtain ⟨m, gs, hI, rfl⟩ := h
  exact (append_any name vb b E w hI hs hb hE).mono fun e w' ⟨he, gs', h1, h2⟩ => ⟨he, _, ⟨m, gs', h1, rfl⟩, h2⟩

def nmA : ByteArray := ⟨#[97]⟩
theorem two_bytes (w : World) (T : TypeId) (fr : Nat × Nat) : ReadRow (w.alloc (.cells #[.int .u8 120, .int .u8 121] T fr)) 1 (.slice (some ⟨w.heap.size, 0, none⟩) 2 2) (([120, 121] : Bs).map bv) [w.heap.size] :=
  ⟨_, 2, 2, rfl, rfl, Nat.le_refl _, by decide, by simp, .inr ⟨w.heap.size, 0, rfl, rfl, by simp, fun i x hx => by
    have hh : (w.alloc (.cells #[.int .u8 120, .int .u8 121] T fr)).heap[w.heap.size]? = some (.cells #[.int .u8 120, .int .u8 121] T fr) := heap_alloc_new w _
    rw [cell_of_row _ _ _ _ _ _ hh]
    match i, hx with
    | 0, hx => simpa [bv] using hx
    | 1, hx => simpa [bv] using hx
    | n + 2, hx => simp at hx⟩⟩

theorem call_as {d : Nat} {D : List Nat} {f : FuncId} {args : Array Value} {w : World} {r : Int × DiskS} {k : Int} {S' : DiskS} (h : Calls Try.prog f args w (DiskPost w d D (.returned (.int .i64 r.1)) r.2)) (e : r = (k, S')) :
    Calls Try.prog f args w (DiskPost w d D (.returned (.int .i64 k)) S') := by rw [e] at h; exact h

def aS1 : DiskS := { room := 64, off := false, lives := 1, fs := [⟨⟨#[97]⟩, [120, 121], 0⟩] }
def aS2 : DiskS := { room := 64, off := true, lives := 1, fs := [⟨⟨#[97]⟩, [120], 1⟩] }
def aS3 : DiskS := { room := 64, off := false, lives := 2, fs := [⟨⟨#[97]⟩, [120], 1⟩] }
theorem aw1 : (DiskS.new 64).append ⟨#[97]⟩ [120, 121] = (0, aS1) := by rfl
theorem aw2 : aS1.crash 1 = aS2 := by rfl
theorem aw3 : aS2.ask ⟨#[97]⟩ = 10 := by rfl
theorem aw4 : aS2.on = aS3 := by
  have : wrap64 2 = 2 := IntWalk.wrap64_in 2 ⟨by omega, by omega⟩
  simp [DiskS.on, aS2, aS3, this]
theorem aw5 : aS3.ask ⟨#[97]⟩ = 0 := by rfl
theorem aw6 : DiskS.read aS3 ⟨#[97]⟩ = [120] := by rfl

set_option maxRecDepth 100000 in
set_option maxHeartbeats 1000000 in
theorem awake_any (w : World) : Calls Try.prog 9 #[] w fun e w' => e = .returned (.bool true) ∧ Upd w w' [] [] := by
  have kc := fun (W : World) (C : Array Value) (n c : Nat) => Lib.run_convert_bytes_const (P := Try.prog) W 28 5 C n c Try.underlying28 Try.underlying5
  go_enter Try.func9, Try.ntmps9
  go_wp2_with fail
  refine (new_any 64 _).mono ?_
  rintro e w1 hN
  rcases hN with ⟨hno, _⟩ | ⟨_, _, d, D, rfl, hD, hu⟩
  · exact absurd (by decide) hno
  go_wp2_with fail
  have hD1 := hD.frame (w' := w1.alloc (.cells #[.int .u8 120, .int .u8 121] 5 (2, 3))) ((Upd.alloc0 w1 _ []).same hD.lt (by simp))
  have hlt := hD.lt
  refine (call_as (append_at ⟨#[97]⟩ _ _ _ _ hD1 (by decide) (two_bytes _ _ _) (fun x hx h => by simp at hx; subst hx; have := hlt _ h; omega)) aw1).mono ?_
  rintro e w2 ⟨rfl, D2, hD2, hu2⟩
  have hu2w : Upd w w2 [] D2 := (hu.trans ((Upd.alloc0 w1 _ D))).trans hu2
  clear hu2 hu hlt hD1 hD
  go_wp2_with fail
  refine (crash_any 1 _ hD2).mono ?_
  rintro e w3 ⟨rfl, D3, hD3, hu3⟩
  have hu3w := hu2w.trans hu3
  rw [aw2] at hD3
  clear hu3 hu2w hD2
  go_wp2_with fail
  refine (read_any ⟨#[97]⟩ _ hD3 (by decide)).mono ?_
  rintro e w4 ⟨v4, D4, rfl, ho4, hu4⟩
  rw [aw3]
  have hD4 := hD3.frame (hu4.same hD3.lt (by simp))
  have hu4w : Upd w w4 [] D3 := hu3w.trans (hu4.mono (by simp) (fun b hb => .inr hb))
  clear ho4 hu4 hu3w hD3
  go_wp2_with fail
  refine (on_any _ hD4).mono ?_
  rintro e w5 ⟨rfl, D5, hD5, hu5⟩
  rw [aw4] at hD5
  have hu5w := hu4w.trans hu5
  clear hu5 hu4w hD4
  go_wp2_with fail
  refine (read_any ⟨#[97]⟩ _ hD5 (by decide)).mono ?_
  rintro e w6 ⟨v6, D6, rfl, ho6, hu6⟩
  rw [aw5]
  rw [aw6] at ho6
  have hD6 := hD5.frame (hu6.same hD5.lt (by simp))
  have hu6w : Upd w w6 [] D5 := hu5w.trans (hu6.mono (by simp) (fun b hb => .inr hb))
  obtain ⟨E6, hr6, _⟩ := ho6.read
  have hc := conv_str (P := Try.prog) (src := 28) (dst := 9) Try.underlying28 Try.underlying5 Try.underlying9 (l := [120]) hr6 w6 (fun _ _ => rfl)
  clear ho6 hu6 hu5w hD5 hr6
  go_wp2_with (first | (go_at_call 30; go_must (refine (power_any _ hD6).mono ?_); rintro e w7 ⟨rfl, rfl⟩) | (go_at_call 17; go_must (refine (lives_any _ hD6).mono ?_); rintro e w7 ⟨rfl, rfl⟩))
  go_ret
  exact ⟨rfl, hu6w.mono (by simp) (by simp)⟩

/-! ### DiskSafe -/
def nmF : ByteArray := ⟨#[102]⟩
theorem good_f : goodN ⟨#[102]⟩ = true := by rfl
def dsk (room : Int) (off : Bool) (lives : Int) (b : Bs) (safe : Nat) : DiskS := { room := room, off := off, lives := lives, fs := [⟨⟨#[102]⟩, b, safe⟩] }

theorem may_f (S : DiskS) (h : S.off = false) : S.may [⟨#[102]⟩] = 0 := by simp [DiskS.may, h, good_f]
theorem ask_f (room : Int) (l : Int) (b : Bs) (s : Nat) : (dsk room false l b s).ask ⟨#[102]⟩ = 0 := by
  unfold DiskS.ask
  rw [if_neg (by simp [may_f (dsk room false l b s) rfl])]
  simp [dsk, hasN]
theorem app0 (a : Bs) (h : a.length ≤ 300) : (DiskS.new 1000).append ⟨#[102]⟩ a = (0, dsk 1000 false 1 a 0) := by
  have h1 := may_f (DiskS.new 1000) rfl
  have h2 : ¬ ((DiskS.new 1000).room - (total (DiskS.new 1000).fs : Int) < (a.length : Int)) := by
    simp [DiskS.new, total]; omega
  unfold DiskS.append
  rw [if_neg (by simp [h1]), if_neg h2]
  rfl
theorem app1 (l : Int) (a b : Bs) (s : Nat) (h : a.length + b.length ≤ 1000) : (dsk 1000 false l a s).append ⟨#[102]⟩ b = (0, dsk 1000 false l (a ++ b) s) := by
  have h1 := may_f (dsk 1000 false l a s) rfl
  have h2 : ¬ ((dsk 1000 false l a s).room - (total (dsk 1000 false l a s).fs : Int) < (b.length : Int)) := by
    simp [dsk, total]; omega
  unfold DiskS.append
  rw [if_neg (by simp [h1]), if_neg h2]
  simp [dsk, putApp]
theorem syn1 (room l : Int) (a : Bs) (s : Nat) : (dsk room false l a s).sync ⟨#[102]⟩ = (0, dsk room false l a a.length) := by
  unfold DiskS.sync
  rw [ask_f, if_pos rfl]
  simp [dsk, updN, FileS.sync]
theorem cra1 (room l : Int) (a : Bs) (s : Nat) (keep : Int) : (dsk room false l a s).crash keep = dsk room true l (a.take (s + min keep.toNat (a.length - s))) (s + min keep.toNat (a.length - s)) := by
  simp [DiskS.crash, dsk, FileS.crash]
theorem on1 (room l : Int) (a : Bs) (s : Nat) : (dsk room true l a s).on = dsk room false (wrap64 (l + 1)) a s := rfl
theorem get1 (room l : Int) (a : Bs) (s : Nat) : DiskS.read (dsk room false l a s) ⟨#[102]⟩ = a := by
  unfold DiskS.read
  rw [ask_f, if_pos rfl]
  simp [getN, dsk]

end Go.Proofs.Ythphinlibhafcaa
