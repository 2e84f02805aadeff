/-
  The statements of layer 8: awake.
-/
import Derived.Test.YtbfblekabnkghaaWalQ
import Derived.Lib.SlBytesConst
namespace Go.Proofs.Ytbfblekabnkghaa
open Go.RowKit Go.Av

theorem one_byte (w : World) (k : UInt8) (T : TypeId) (fr : Nat × Nat) : ReadRow (w.alloc (.cells #[.int .u8 (k.toNat : Int)] T fr)) 1 (.slice (some ⟨w.heap.size, 0, none⟩) 1 1) (([k] : Bs).map bv) [w.heap.size] :=
  cell_new w (.int .u8 (k.toNat : Int)) T fr

theorem Wl.str {w0 w : World} {g d : Nat} {room lv n : Int} {x : Bool} {ls : List Bs} {s : Nat} {O : List FileS} {R : List Thing} {rows : List (Value × Bs)} (h : Wl w0 w g d room lv n x ls s O R rows) {v : Value} {b : Bs} (hb : (v, b) ∈ rows) (W : World) (hW : W.heap = w.heap) :
    (convert 31 9 v).run Try.prog W = .ok (.string ⟨b.toArray⟩) W := by
  obtain ⟨E, hE⟩ := h.get hb
  exact conv_str (P := Try.prog) (src := 31) (dst := 9) Try.underlying31 Try.underlying5 Try.underlying9 (l := b) hE W (fun _ _ => by rw [hW])
theorem Wl.crashS {w0 w : World} {g d : Nat} {room lv n : Int} {ls : List Bs} {s : Nat} {R : List Thing} {rows : List (Value × Bs)} (h : Wl w0 w g d room lv n true ls s [] R rows) (hs : s = (frames ls).length) (keep : Int) :
    Calls Try.prog 15 #[.pointer (some ⟨d, 0, none⟩), .int .i64 keep] w (fun e w' => e = .returned (.tuple #[]) ∧ Dl w0 w' d room lv true true (frames ls) (frames ls).length [] (ThLog g d (lg lv n ls) :: R) rows) := by
  refine (h.crash keep).mono fun e w' ⟨he, h'⟩ => ⟨he, ?_⟩
  subst hs
  simpa using h'
theorem Wl.byte {w0 w : World} {g d : Nat} {room lv n : Int} {x : Bool} {ls : List Bs} {s : Nat} {O : List FileS} {R : List Thing} {rows : List (Value × Bs)} (h : Wl w0 w g d room lv n x ls s O R rows) (k : UInt8) (T : TypeId) (fr : Nat × Nat) :
    Wl w0 (w.alloc (.cells #[.int .u8 (k.toNat : Int)] T fr)) g d room lv n x ls s O R ((.slice (some ⟨w.heap.size, 0, none⟩) 1 1, [k]) :: rows) :=
  h.row (Upd.alloc1 w _ []) (one_byte w k T fr) (by simp)
theorem upd_of (w w' : World) (h : Below w.heap.size w w') : Upd w w' [] [] := Upd.of_below h

set_option maxRecDepth 100000 in
set_option maxHeartbeats 1000000 in
theorem awake8_any (w : World) : Calls Try.prog 10 #[] w fun e w' => e = .returned (.bool true) ∧ Upd w w' [] [] := by
  have kc := fun (W : World) (C : Array Value) (n c : Nat) => Lib.run_convert_bytes_const (P := Try.prog) W 31 5 C n c Try.underlying31 Try.underlying5
  go_enter Try.func10, Try.ntmps10
  go_wp2_with fail
  refine (Dl.new (Sep.start _) 1000 (by decide) (by decide)).mono ?_
  rintro e w1 ⟨d, rfl, H⟩
  go_wp2_with fail
  refine (Dl.open (n := 1) H (fun S hS => base_none hS) (by decide) (by decide) (scan_whole [] (by simp)) (by decide) rfl (by simp)).mono ?_
  clear H
  rintro e w2 ⟨g, rfl, H⟩
  go_wp2_with fail
  refine ((H.byte 120 _ _).add (List.mem_cons_self ..) (by simp) (by simp [frames, total])).mono ?_
  clear H
  rintro e w3 ⟨rfl, H⟩
  go_wp2_with fail
  refine ((H.byte 121 _ _).add (List.mem_cons_self ..) (by simp) (by simp [frames, total, frameS_length])).mono ?_
  clear H
  rintro e w4 ⟨rfl, H⟩
  go_wp2_with fail
  refine H.sync.mono ?_
  clear H
  rintro e w5 ⟨rfl, H⟩
  go_wp2_with fail
  refine (H.crashS rfl 0).mono ?_
  clear H
  rintro e w6 ⟨rfl, H⟩
  go_wp2_with fail
  refine (H.on (lv' := 2) (by kernel_rfl)).mono ?_
  clear H
  rintro e w7 ⟨rfl, H⟩
  go_wp2_with fail
  refine (Dl.open (n := 1) H (fun S hS => base_none hS) (by decide) (by decide) (scan_whole _ (by simp)) (by decide) (List.take_length ..) (Nat.le_refl _)).mono ?_
  clear H
  rintro e w8 ⟨g2, rfl, H⟩
  go_wp2_with fail
  refine (H.at_ 1 rfl (by simp)).mono ?_
  clear H
  rintro e w9 ⟨v9, rfl, H⟩
  have hc := fun W hW => H.str (v := v9) (b := [121]) (by simp) W hW
  have HH := Lib.hid H
  clear H
  go_wp2_with fail
  refine HH.out.first.mono ?_
  rintro e w10 ⟨rfl, H⟩
  go_wp2_with fail
  refine H.next.mono ?_
  clear H
  rintro e w11 ⟨rfl, H⟩
  have hc := fun W hW => H.str (v := v9) (b := [121]) (by simp) W hW
  have HH := Lib.hid H
  clear H
  go_wp2_with fail
  go_ret
  exact ⟨rfl, upd_of _ _ HH.out.below⟩
end Go.Proofs.Ytbfblekabnkghaa
