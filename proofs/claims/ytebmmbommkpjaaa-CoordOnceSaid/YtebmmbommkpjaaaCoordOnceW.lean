/-
  CoordOnce: what was decided stays decided, whatever comes; it is to be committed just if all have said yes ahead of any no, or abort.
-/
import Derived.Test.YtebmmbommkpjaaaActIn
namespace Go.Proofs.Ytebmmbommkpjaaa
open Go.RowKit Go.Av

def yv (ys : List Bool) : List Int := ys.map fun b => if b then 1 else 0
/-- What the law keeps in mind of the one that it began. -/
def InvO (l : List Int) (e : EntS) (ys : List Bool) (kn cm : Bool) : Prop :=
  e.shards = l ∧ ys.length = l.length ∧ kn = (e.dec != 0) ∧ cm = (e.dec == 1) ∧ (kn = false → e.votes = yv ys ∧ ys.all (fun b => b) = false)
/-- .. when an act is done, ahead of the look at all the yeses. -/
def PreO (l : List Int) (e : EntS) (ys : List Bool) (kn cm : Bool) : Prop :=
  InvO l e ys (kn || ys.all (fun b => b)) (if !kn && ys.all (fun b => b) then true else cm)

theorem inv_new {l : List Int} (h : l.length ≠ 0) : InvO l (newE l) (List.replicate l.length false) false false := by
  refine ⟨rfl, by simp, rfl, rfl, fun _ => ⟨by simp [newE, yv], ?_⟩⟩
  cases l with
  | nil => exact absurd rfl h
  | cons a l => simp [List.replicate_succ]
theorem pre_same {l : List Int} {e : EntS} {ys : List Bool} {kn cm : Bool} (h : InvO l e ys kn cm) : PreO l e ys kn cm := by
  cases kn with
  | true => unfold PreO; simpa using h
  | false =>
    have := (h.2.2.2.2 rfl).2
    unfold PreO
    rw [this]
    simpa using h
theorem pre_abort {l : List Int} {e : EntS} {ys : List Bool} {kn cm : Bool} (h : InvO l e ys kn cm) : PreO l (abortF e) ys true cm := by
  obtain ⟨h1, h2, h3, h4, h5⟩ := h
  unfold PreO
  simp only [Bool.true_or, Bool.not_true, Bool.false_and, Bool.false_eq_true, if_false]
  unfold abortF
  by_cases hd : e.dec = 0
  · rw [if_pos hd]
    rw [hd] at h4
    exact ⟨h1, h2, rfl, h4, by simp⟩
  · rw [if_neg hd]
    exact ⟨h1, h2, by simp [hd], h4, by simp⟩
theorem inv_known {l : List Int} {e : EntS} {ys : List Bool} {cm : Bool} (h : InvO l e ys true cm) : e.dec ≠ 0 := by
  have := h.2.2.1
  intro hd
  rw [hd] at this
  cases this
theorem vote_known {l : List Int} {e : EntS} {ys : List Bool} {cm ok : Bool} {i : Nat} (h : InvO l e ys true cm) : voteF i ok e = e := by
  unfold voteF
  rw [if_pos (.inr (inv_known h))]
theorem yv_get (ys : List Bool) (i : Nat) (hi : i < ys.length) : (yv ys).getD i 0 = if ys[i] then 1 else 0 := by
  unfold yv
  rw [List.getD_eq_getElem?_getD, List.getElem?_map, List.getElem?_eq_getElem hi]
  rfl
theorem whole_yv (ys : List Bool) : wholeS (yv ys) = ys.all (fun b => b) := by
  unfold wholeS yv
  rw [List.all_map]
  congr 1
  funext b
  cases b <;> rfl
theorem yv_set (ys : List Bool) (i : Nat) : (yv ys).set i 1 = yv (ys.set i true) := by
  unfold yv
  rw [List.map_set]
  rfl
theorem pre_yes {l : List Int} {e : EntS} {ys : List Bool} {cm : Bool} {i : Nat} (h : InvO l e ys false cm) (hi : i < ys.length) : PreO l (voteF i true e) (ys.set i true) false cm := by
  obtain ⟨h1, h2, h3, h4, h5⟩ := h
  obtain ⟨h6, h7⟩ := h5 rfl
  have hd : e.dec = 0 := by simpa using h3.symm
  have hcm : cm = false := by rw [h4, hd]; rfl
  subst hcm
  unfold voteF
  rw [h6, yv_get ys i hi]
  by_cases hy : ys[i] = true
  · rw [if_pos (.inl (by rw [hy]; simp))]
    have hs : ys.set i true = ys := by rw [← hy]; exact List.set_getElem_self hi
    rw [hs]
    exact pre_same ⟨h1, h2, h3, h4, h5⟩
  · rw [if_neg (by simp [hy, hd]), yv_set]
    unfold PreO
    simp only [Bool.false_or, Bool.not_false, Bool.true_and, if_true, whole_yv]
    cases ha : (ys.set i true).all (fun b => b) with
    | true => exact ⟨h1, by simpa using h2, rfl, rfl, by simp⟩
    | false => exact ⟨h1, by simpa using h2, rfl, rfl, fun _ => ⟨yv_set ys i, ha⟩⟩
theorem pre_no {l : List Int} {e : EntS} {ys : List Bool} {cm : Bool} {i : Nat} (h : InvO l e ys false cm) (hi : i < ys.length) : PreO l (voteF i false e) ys (!ys[i]) cm := by
  obtain ⟨h1, h2, h3, h4, h5⟩ := h
  obtain ⟨h6, h7⟩ := h5 rfl
  have hd : e.dec = 0 := by simpa using h3.symm
  have hcm : cm = false := by rw [h4, hd]; rfl
  subst hcm
  unfold voteF
  rw [h6, yv_get ys i hi]
  cases hy : ys[i] with
  | true =>
    rw [if_pos (.inl (by simp))]
    exact pre_same ⟨h1, h2, h3, h4, h5⟩
  | false =>
    rw [if_neg (by simp [hd])]
    unfold PreO
    simp only [Bool.not_false, Bool.true_or, Bool.not_true, Bool.false_and, Bool.false_eq_true, if_false]
    exact ⟨h1, h2, rfl, rfl, by simp⟩
theorem inv_done {l : List Int} {e : EntS} {ys : List Bool} {kn cm : Bool} (k : Int) (h : InvO l e ys kn cm) : InvO l (doneF k e) ys kn cm := h

theorem vote_one (e : EntS) (k : Int) (ok : Bool) : (voteS [(5, e)] 5 k ok).2 = [(5, match idxF k e.shards with | none => e | some i => voteF i ok e)] := by
  unfold voteS
  rw [look_one]
  dsimp only
  cases idxF k e.shards with
  | none => rfl
  | some i => dsimp only; rw [put_one]
theorem doneO (e : EntS) (k : Int) : ∃ e', (doneS [(5, e)] 5 k).2 = [(5, e')] ∧ (e' = e ∨ e' = doneF k e) := by
  unfold doneS
  rw [look_one]
  dsimp only
  cases idxF k e.shards with
  | none => exact ⟨e, rfl, .inl rfl⟩
  | some i =>
    dsimp only
    by_cases hd : e.dec = 0
    · rw [if_pos hd]; exact ⟨e, rfl, .inl rfl⟩
    · rw [if_neg hd, put_one]; exact ⟨_, rfl, .inr rfl⟩
theorem abort_one (e : EntS) : (abortS [(5, e)] 5).2.2 = [(5, abortF e)] := by
  unfold abortS
  rw [look_one]
  dsimp only
  rw [put_one]
theorem dec_one (e : EntS) : decS [(5, e)] 5 = (e.dec == 1, e.dec != 0) := by
  unfold decS
  rw [look_one]

theorem idxF_app (k : Int) : ∀ (a b : List Int), idxF k (a ++ b) = match idxF k a with | some j => some j | none => (idxF k b).map (· + a.length)
  | [], b => by simp [show idxF k [] = none from rfl]
  | x :: a, b => by
    rw [List.cons_append, idxF_cons, idxF_cons, idxF_app k a b]
    by_cases hx : x = k
    · rw [if_pos hx, if_pos hx]
    · rw [if_neg hx, if_neg hx]
      cases idxF k a with
      | some j => rfl
      | none =>
        simp only [Option.map_none, Option.map_map, List.length_cons]
        congr 1
theorem idxS_hit {l : List Int} (hr : risS l = true) (k : Nat) (hk : k < l.length) : idxS l[k] (l.take (k + 1)) = (k : Int) := by
  have h1 : idxF l[k] (l.take (k + 1) ++ l.drop (k + 1)) = some k := by rw [List.take_append_drop]; exact idxF_get hr k hk
  rw [idxF_app] at h1
  have hl : l.take (k + 1) = l.take k ++ [l[k]] := List.take_succ_eq_append_getElem hk
  unfold idxS
  cases h2 : idxF l[k] (l.take (k + 1)) with
  | some j =>
    rw [h2] at h1
    simp only [Option.some.injEq] at h1
    rw [h1]
  | none =>
    rw [hl, idxF_app, idxF_cons, if_pos rfl] at h2
    cases h3 : idxF l[k] (l.take k) <;> rw [h3] at h2 <;> cases h2
theorem idxS_miss {l : List Int} {s : Int} (k : Nat) (hk : k < l.length) (h : l[k] ≠ s) : idxS s (l.take (k + 1)) = idxS s (l.take k) := by
  rw [List.take_succ_eq_append_getElem hk]
  unfold idxS
  rw [idxF_app, idxF_cons, if_neg h]
  cases idxF s (l.take k) <;> rfl

theorem zero_own (w : World) (T : TypeId) (v : Value) (n : Nat) (hn : n ≤ 30000) : OwnRow (w.alloc (.cells (madeCells #[v] n) T)) 1 (.slice (some ⟨w.heap.size, 0, none⟩) n n) (List.replicate n v) [w.heap.size] :=
  OwnRow.made w T 1 n n (madeCells #[v] n) _ (by simp) (Nat.le_refl _) (by unfold maxLen; omega) (by rw [size_madeCells]; omega) (by
    rw [toList_madeCells_one, Nat.mul_one, List.take_of_length_le (by simp)])
theorem infoBool : (Try.prog.info? 4).map (fun i => (i.zero, i.size, i.bytes)) = some (some (.bool false), 1, 1) := by kernel_rfl

/-- A cell of an owned row, beside decisions. -/
theorem Co.rowBit {w0 w : World} {c : Nat} {S : CoS} {R : List Thing} {rows : List (Value × Bs)} {T : Thing} {y : Addr} {n c' : Nat} {ys : List Bool} (h : Co w0 w c S (T :: ThRow 1 (.slice (some y) n c') (ys.map Value.bool) :: R) rows) {i : Nat} (hi : i < ys.length) :
    w.cell? (y.add i) = some (.bool ys[i]) ∧ w.frozen? (y.add i) = false ∧ ∀ b, Co w0 (w.setCell (y.add i) (.bool b)) c S (T :: ThRow 1 (.slice (some y) n c') ((ys.set i b).map Value.bool) :: R) rows := by
  obtain ⟨m, gs, h1, h2, hS⟩ := h
  have h3 := ((hS.perm (perm_last _ _ _ _).symm).perm (List.Perm.cons T (perm_last _ _ _ _).symm)).perm (List.Perm.swap _ _ _)
  obtain ⟨a, n', c'', hv, hl, hn, hc⟩ := h3.rowLen
  cases hv
  rw [List.length_map, Nat.mul_one] at hl
  obtain ⟨y', hy, hsp, hcell⟩ := h3.rowCell (i := i) (x := .bool ys[i]) (by rw [List.getElem?_map, List.getElem?_eq_getElem hi]; rfl)
  cases hy
  refine ⟨hcell, (h3.rowSet (i := i) (by omega) (.bool true)).1, fun b => ⟨m, gs, h1, h2, ?_⟩⟩
  obtain ⟨-, -, -, h5⟩ := h3.rowSet (i := i) (by omega) (.bool b)
  rw [show (ys.map Value.bool).set i (.bool b) = (ys.set i b).map Value.bool by rw [List.map_set]] at h5
  exact ((h5.perm (List.Perm.swap _ _ _)).perm (List.Perm.cons T (perm_last _ _ _ _))).perm (perm_last _ _ _ _)

theorem Co.cellR {w0 w : World} {c : Nat} {S : CoS} {R : List Thing} {rows : List (Value × Bs)} {q : Nat} {o : Obj} (h : Co w0 w c S (ThCell q o :: R) rows) : w.heap[q]? = some o := by
  obtain ⟨m, gs, h1, h2, hS⟩ := h
  obtain ⟨E, hP, -⟩ := hS.has (T := ThCell q o) (by simp)
  exact hP
theorem spot_of {w : World} {x : Addr} {v : Value} (h : w.cell? x = some v) : x.spot = none := by
  cases hs : x.spot with
  | none => rfl
  | some _ =>
    unfold World.cell? at h
    split at h <;> simp [hs] at h
theorem add_field {w : World} {x : Addr} {k : Nat} {v : Value} (h : w.cell? (x.add k) = some v) (j : Nat) : x.add (k + j) = ⟨(x.add k).block, (x.add k).off + j, none⟩ := by
  have h1 := spot_of h
  rw [← Go.Deep.add_add]
  generalize x.add k = y at h1 ⊢
  obtain ⟨b, o, sp⟩ := y
  simp only at h1
  subst h1
  exact Addr.add_lit b o j

set_option maxRecDepth 100000 in
set_option maxHeartbeats 8000000 in
theorem coordOnce_walk (a : Option Addr) (len cap : Nat) (z : List Int) (a1 : Option Addr) (len1 cap1 : Nat) (acts : List ActS) (w : World) (h : IsInts w a len cap z) (h1 : IsActs w a1 len1 cap1 acts) :
    Calls Try.prog 4 #[.slice a len cap, .slice a1 len1 cap1] w fun e w' => e = .returned (.bool true) ∧ Below w.heap.size w w' := by
  obtain ⟨l, El, hl, hrl⟩ := h.read
  subst hl
  obtain ⟨hnl, hncl, hcml, hcl⟩ := row_cell hrl
  obtain ⟨hla, hlca, hca, haa, hac, hax⟩ := h1
  subst hla
  unfold maxLen at hcml hca
  have HRL := Lib.hid hrl
  have HCL := Lib.hid hcl
  have HAC := Lib.hid (show _ ∧ _ ∧ _ from ⟨haa, hac, hax⟩)
  clear h hrl hcl hnl haa hac hax
  by_cases hok1 : 4 < l.length
  · go_enter Try.func4, Try.ntmps4
    go_wp2_with fail
    refine (awake20_any _).mono ?_
    rintro e w1 ⟨rfl, hu1⟩
    go_wp2_with fail
    go_ret
    exact ⟨rfl, hu1.below⟩
  by_cases hok2 : 60 < acts.length
  · go_enter Try.func4, Try.ntmps4
    go_wp2_with fail
    refine (awake20_any _).mono ?_
    rintro e w1 ⟨rfl, hu1⟩
    go_wp2_with fail
    go_ret
    exact ⟨rfl, hu1.below⟩
  have hmk := fun W => run_make_row' (P := Try.prog) 38 4 (.bool false) 1 Try.underlying38 infoBool rfl .i64 .i64 l.length (by omega) (by omega) W
  go_enter Try.func4, Try.ntmps4
  go_wp2_with fail
  refine (awake20_any _).mono ?_
  rintro e w1 ⟨rfl, hu1⟩
  go_wp2_with fail
  refine (new_coord ((Sep.start w).keep hu1)).mono ?_
  rintro e w2 ⟨c, rfl, H⟩
  have hb2 := H.below
  have hb := begin_any H 5 _ l El (by decide) (HRL.out.frame (fun b hb => hb2.block b (HRL.out.lt b hb)))
  obtain ⟨r, hr⟩ : ∃ r, beginS [] 5 l = r := ⟨_, rfl⟩
  rw [hr] at hb
  have HB := Lib.hid hb
  have HRB := Lib.hid hr
  clear H hb hb2 hr hu1
  go_wp2_with fail
  refine HB.out.mono ?_
  rintro e w3 ⟨rfl, H⟩
  by_cases hr0 : r.1 = 0
  case neg =>
    have hb : (r.1 != 0) = true := by simp [hr0]
    have HBB := Lib.hid H.below
    clear H hr0
    go_wp2_with fail
    go_ret
    exact ⟨rfl, HBB.out⟩
  have hb : (r.1 != 0) = false := by simp [hr0]
  have hbg : l.length ≠ 0 ∧ risS l = true ∧ r.2 = [(5, newE l)] := by
    have h1 := HRB.out
    unfold beginS at h1
    by_cases hc : (5 : Int) < 1 ∨ l.length = 0 ∨ risS l = false
    · rw [if_pos hc] at h1; rw [← h1] at hr0; cases hr0
    · rw [if_neg hc] at h1
      refine ⟨fun e => hc (.inr (.inl e)), by simpa using fun e => hc (.inr (.inr e)), ?_⟩
      rw [← h1]; rfl
  obtain ⟨hl0, hris, hr2⟩ := hbg
  rw [hr2] at H
  have hzr := zero_own w3 4 (.bool false) l.length (by omega)
  have HST := Lib.hid (H.addR (T := ThRow 1 (.slice (some ⟨w3.heap.size, 0, none⟩) l.length l.length) ((List.replicate l.length false).map Value.bool)) (Upd.alloc1 w3 _ []) (by rw [List.map_replicate]; exact hzr))
  have HRIS := Lib.hid hris
  have HIN := Lib.hid (inv_new hl0)
  clear H hr2 hris HRB HB hzr
  go_wp2_with fail
  obtain ⟨y, hy⟩ : ∃ y, y = w3.heap.size := ⟨_, rfl⟩
  rw [← hy] at HST ⊢
  clear hy
  go_loopg [7, 8, 9] acts.length (fun k vk vc v wr => ∃ (p : Nat) (e : EntS) (ys : List Bool) (kn cm : Bool), p ≤ acts.length ∧ k = acts.length - p ∧ vk = .bool kn ∧ vc = .bool cm ∧ v = .int .i64 (p : Int) ∧
    Co w wr c [(5, e)] [ThRow 1 (.slice (some ⟨y, 0, none⟩) l.length l.length) (ys.map Value.bool)] [] ∧ InvO l e ys kn cm)
  case atStart => exact ⟨0, _, _, false, false, Nat.zero_le _, rfl, rfl, rfl, rfl, HST.out, HIN.out⟩
  case round =>
    obtain ⟨p, e, ys, kn, cm, hp, hk, hv1, hv2, hv3, H, hI⟩ := hrel
    subst hv1 hv2 hv3
    clear HST HIN
    by_cases hlt : p < acts.length
    case neg =>
      have HBB := Lib.hid H.below
      clear H hI
      go_wp2_with fail
      go_ret
      exact ⟨rfl, HBB.out⟩
    obtain ⟨x, hxa⟩ : ∃ x, a1 = some x := by
      cases a1 with
      | none => exact absurd (HAC.out.1 rfl) (by omega)
      | some x => exact ⟨x, rfl⟩
    subst hxa
    obtain ⟨g0, g1, g2, g3, g4⟩ := HAC.out.2.1 x rfl p hlt
    obtain ⟨-, Ev, hvs⟩ := HAC.out.2.2 _ (List.getElem_mem hlt)
    obtain ⟨q0, hq0⟩ : ∃ q, acts[p] = q := ⟨_, rfl⟩
    rw [hq0] at g0 g1 g2 g3 g4 hvs
    obtain ⟨op, aid, avs, ash, sh, yes⟩ := q0
    dsimp only at g0 g1 g2 g3 g4 hvs
    obtain ⟨aS, nS, cS, hvs, -⟩ := hvs
    subst hvs
    have hbl := H.below
    have up : ∀ {j : Nat} {v : Value}, w.cell? (x.add j) = some v → wr.cell? (x.add j) = some v := fun hv => (hbl.cell (World.block_lt_of_cell? w _ hv)).trans hv
    have g0 := up g0
    have g1 := up g1
    have g2 := up g2
    have g3 := up g3
    have g4 := up g4
    rw [add_field g0 1] at g1
    rw [add_field g0 2] at g2
    rw [add_field g0 3] at g3
    rw [add_field g0 4] at g4
    have H0 := Lib.hid (H.newCell (.cells #[.int .i64 op, .int .i64 aid, .slice aS nS cS, .int .i64 sh, .bool yes] 40 (0, 0)))
    have HI := Lib.hid hI
    clear H hI hbl up hq0
    go_wp2_with fail
    obtain ⟨q, hq⟩ : ∃ q, q = wr.heap.size := ⟨_, rfl⟩
    rw [← hq] at H0 ⊢
    clear hq g0 g1 g2 g3 g4
    go_loopg [11, 12] l.length (fun k vp v wr => ∃ j : Nat, j ≤ l.length ∧ k = l.length - j ∧ vp = .int .i64 (idxS sh (l.take j)) ∧ v = .int .i64 (j : Int) ∧
      Co w wr c [(5, e)] (ThCell q (.cells #[.int .i64 op, .int .i64 aid, .slice aS nS cS, .int .i64 sh, .bool yes] 40 (0, 0)) :: [ThRow 1 (.slice (some ⟨y, 0, none⟩) l.length l.length) (ys.map Value.bool)]) [])
    case atStart => exact ⟨0, Nat.zero_le _, rfl, rfl, rfl, H0.out⟩
    case round =>
      obtain ⟨j, hj, hk2, hvp, hv2, H⟩ := hrel
      subst hvp hv2
      clear H0
      by_cases hlt2 : j < l.length
      · obtain ⟨xl, rfl, hsl, hxl⟩ := HCL.out (by simpa using by omega)
        have hxj := hxl j (iv l[j]) (by rw [List.getElem?_map, List.getElem?_eq_getElem hlt2]; rfl)
        have hbl := H.below
        have hxj := (hbl.cell (World.block_lt_of_cell? w _ hxj)).trans hxj
        obtain ⟨u, hu⟩ : ∃ u, l[j] = u := ⟨_, rfl⟩
        have hhit := fun (hh : l[j] = sh) => idxS_hit HRIS.out j hlt2
        have hmiss := fun (hh : l[j] ≠ sh) => idxS_miss j hlt2 hh
        rw [hu] at hxj hhit hmiss
        unfold iv at hxj
        have k1 := fun (W : World) (hW : W.heap = wr.heap) => (frozen_heap hW _).trans hxj
        have hc3 := cell_of H.cellR 3 rfl
        have k2 := fun (W : World) (hW : W.heap = wr.heap) => (frozen_heap hW ⟨q, 3, none⟩).trans hc3
        have HU := Lib.hid (show _ ∧ _ ∧ _ from ⟨hu, hhit, hmiss⟩)
        have HH := Lib.hid H
        obtain ⟨b, hbb⟩ : ∃ b, (u == sh) = b := ⟨_, rfl⟩
        have HB := Lib.hid hbb
        clear H hbl hxj hxl hu hhit hmiss hc3
        go_wp2_with fail
        refine wp_region_M (fun W => W.heap = wr.heap) 7 (by kernel_rfl) ?_
        refine wpAnyM_take (by kernel_rfl) (by intro c a d v w h; cases d <;> exact h) [(0, false), (1, false), (2, false), (3, true), (4, false), (5, true), (6, false)] (fuel := 0) (by kernel_rfl) ?_
        apply Exists.intro; refine ⟨?_, rfl, ?_⟩
        · iterate 7 ((first | (apply yieldN; (· (simp only [List.getElem?_toArray, List.getElem?_cons_succ, List.getElem?_cons_zero]; try rfl)); (· rfl)) | ((first | apply yieldP | apply yieldL); (· (simp only [List.getElem?_toArray, List.getElem?_cons_succ, List.getElem?_cons_zero]; try rfl)); (· rfl); (· (intros; go_simp; try with_reducible rfl)))); (· (simp only [Act.put, List.setIfInBounds_toArray, List.set_cons_zero, List.set_cons_succ]; try rfl)))
          exact rfl
        refine wpAnyM_done (by kernel_rfl) ?_ _
        cases b with
        | true =>
          have heq : u = sh := by simpa using HB.out
          have HT := Lib.hid (HU.out.2.1 heq)
          have HE := Lib.hid heq
          clear heq
          go_wp2_with fail
          go_roundg (l.length - (j + 1))
          case rel => exact ⟨j + 1, by omega, rfl, by rw [← HE.out, HT.out], by go_num, HH.out.keep (Upd.refl wr []).drew⟩
          case measure => omega
        | false =>
          have hne : u ≠ sh := by simpa using HB.out
          have HT := Lib.hid (HU.out.2.2 hne)
          clear hne
          go_wp2_with fail
          go_roundg (l.length - (j + 1))
          case rel => exact ⟨j + 1, by omega, rfl, by rw [HT.out], by go_num, HH.out.keep (Upd.refl wr []).drew⟩
          case measure => omega
      · obtain rfl : j = l.length := by omega
        rw [List.take_length]
        have hc0 := cell_of H.cellR 0 rfl
        have hc3 := cell_of H.cellR 3 rfl
        have hc4 := cell_of H.cellR 4 rfl
        obtain ⟨o, ho⟩ : ∃ o, Obj.cells #[Value.int .i64 op, .int .i64 aid, .slice aS nS cS, .int .i64 sh, .bool yes] 40 (0, 0) = o := ⟨_, rfl⟩
        have HO := Lib.hid (show ∀ W : World, W.heap[q]? = some (Obj.cells #[Value.int .i64 op, .int .i64 aid, .slice aS nS cS, .int .i64 sh, .bool yes] 40 (0, 0)) → W.cell? ⟨q, 0, none⟩ = some (.int .i64 op) ∧ W.cell? ⟨q, 4, none⟩ = some (.bool yes) from fun W hW => ⟨cell_of hW 0 rfl, cell_of hW 4 rfl⟩)
        rw [ho] at H HO
        clear ho
        by_cases ho1 : op = 1
        · subst ho1
          have hv := vote_any H 5 sh yes
          rw [vote_one, HI.out.1] at hv
          cases hpl : idxF sh l with
          | none =>
            rw [show idxS sh l = -1 from by unfold idxS; rw [hpl]]
            rw [hpl] at hv
            dsimp only at hv
            clear hpl
            cases kn with
            | true =>
              have hpre := pre_same HI.out
              have HV := Lib.hid hv
              have HPP := Lib.hid hpre
              clear H hv hpre HI
              go_wp2_with fail
              refine HV.out.mono ?_
              rintro e' w6 ⟨rfl, H⟩
              have HC := Lib.hid H
              clear H hc0 hc3 hc4
              obtain ⟨e1, he1⟩ : ∃ e1, e = e1 := ⟨_, rfl⟩
              obtain ⟨ys1, hys1⟩ : ∃ z, ys = z := ⟨_, rfl⟩
              rw [he1] at HC HPP
              rw [hys1] at HC HPP
              have HP := HPP
              clear HPP he1 hys1
              go_wp2_with fail
              go_loopg [13, 14] l.length (fun k va v wr => ∃ j : Nat, j ≤ l.length ∧ k = l.length - j ∧ va = .bool ((ys1.take j).all fun b => b) ∧ v = .int .i64 (j : Int) ∧
                Co w wr c [(5, e1)] (ThCell q o :: [ThRow 1 (.slice (some ⟨y, 0, none⟩) l.length l.length) (ys1.map Value.bool)]) [])
              case atStart => exact ⟨0, Nat.zero_le _, rfl, rfl, rfl, HC.out⟩
              case round =>
                obtain ⟨j, hj, hk2, hva, hv2, H⟩ := hrel
                subst hva hv2
                clear HC
                by_cases hlt2 : j < l.length
                · have hjy : j < ys1.length := by rw [show ys1.length = l.length from HP.out.2.1]; exact hlt2
                  obtain ⟨f1, -, -⟩ := H.rowBit hjy
                  have ht : (ys1.take (j + 1)).all (fun b => b) = ((ys1.take j).all (fun b => b) && ys1[j]) := by rw [List.take_succ_eq_append_getElem hjy, List.all_append]; simp
                  obtain ⟨b, hb⟩ : ∃ b, ys1[j] = b := ⟨_, rfl⟩
                  rw [hb] at f1 ht
                  obtain ⟨a0, ha0⟩ : ∃ a0, (ys1.take j).all (fun b => b) = a0 := ⟨_, rfl⟩
                  rw [ha0] at ht ⊢
                  have HT := Lib.hid ht
                  have HH := Lib.hid H
                  clear H hb ht ha0 hjy
                  have f1b : wr.cell? ⟨y, j, none⟩ = some (.bool b) := by have := f1; rw [Addr.add_lit, Nat.zero_add] at this; exact this
                  have f1c : wr.cell? ⟨y, 0 + j, none⟩ = some (.bool b) := by rw [Nat.zero_add]; exact f1b
                  cases a0 with
                  | true =>
                    go_wp2_with fail
                    go_roundg (l.length - (j + 1))
                    case rel => exact ⟨j + 1, by omega, rfl, by rw [HT.out]; rfl, by go_num, HH.out⟩
                    case measure => omega
                  | false =>
                    go_wp2_with fail
                    go_roundg (l.length - (j + 1))
                    case rel => exact ⟨j + 1, by omega, rfl, by rw [HT.out]; rfl, by go_num, HH.out⟩
                    case measure => omega
                · obtain rfl : j = l.length := by omega
                  have hinv := HP.out
                  unfold PreO at hinv
                  rw [show ys1.take l.length = ys1 from by rw [← show ys1.length = l.length from HP.out.2.1]; exact List.take_length]
                  have hd := decision_any H 5
                  rw [dec_one] at hd
                  have hcc : (cm != cm) = false := by simp
                  obtain ⟨b, hb⟩ : ∃ b, ys1.all (fun b => b) = b := ⟨_, rfl⟩
                  rw [hb] at hinv ⊢
                  clear H hb HP
                  cases b with
                  | true =>
                    simp only [Bool.true_or, Bool.false_or, Bool.not_true, Bool.not_false, Bool.true_and, Bool.false_and, Bool.false_eq_true, if_false, if_true] at hinv
                    rw [← hinv.2.2.1, ← hinv.2.2.2.1] at hd
                    have HD := Lib.hid hd
                    have HIN := Lib.hid hinv
                    clear hinv hd
                    go_wp2_with fail
                    refine HD.out.mono ?_
                    rintro e' w7 ⟨rfl, H⟩
                    have HN := Lib.hid H.dropR
                    clear H
                    go_wp2_with fail
                    go_roundg (acts.length - (p + 1))
                    case rel => exact ⟨p + 1, e1, ys1, _, _, by omega, rfl, rfl, rfl, by go_num, HN.out, HIN.out⟩
                    case measure => omega
                  | false =>
                    simp only [Bool.true_or, Bool.false_or, Bool.not_true, Bool.not_false, Bool.true_and, Bool.false_and, Bool.false_eq_true, if_false, if_true] at hinv
                    rw [← hinv.2.2.1, ← hinv.2.2.2.1] at hd
                    have HD := Lib.hid hd
                    have HIN := Lib.hid hinv
                    clear hinv hd
                    go_wp2_with fail
                    refine HD.out.mono ?_
                    rintro e' w7 ⟨rfl, H⟩
                    have HN := Lib.hid H.dropR
                    clear H
                    go_wp2_with fail
                    go_roundg (acts.length - (p + 1))
                    case rel => exact ⟨p + 1, e1, ys1, _, _, by omega, rfl, rfl, rfl, by go_num, HN.out, HIN.out⟩
                    case measure => omega
            | false =>
              have hpre := pre_same HI.out
              have HV := Lib.hid hv
              have HPP := Lib.hid hpre
              clear H hv hpre HI
              go_wp2_with fail
              refine HV.out.mono ?_
              rintro e' w6 ⟨rfl, H⟩
              have HC := Lib.hid H
              clear H hc0 hc3 hc4
              obtain ⟨e1, he1⟩ : ∃ e1, e = e1 := ⟨_, rfl⟩
              obtain ⟨ys1, hys1⟩ : ∃ z, ys = z := ⟨_, rfl⟩
              rw [he1] at HC HPP
              rw [hys1] at HC HPP
              have HP := HPP
              clear HPP he1 hys1
              go_wp2_with fail
              go_loopg [13, 14] l.length (fun k va v wr => ∃ j : Nat, j ≤ l.length ∧ k = l.length - j ∧ va = .bool ((ys1.take j).all fun b => b) ∧ v = .int .i64 (j : Int) ∧
                Co w wr c [(5, e1)] (ThCell q o :: [ThRow 1 (.slice (some ⟨y, 0, none⟩) l.length l.length) (ys1.map Value.bool)]) [])
              case atStart => exact ⟨0, Nat.zero_le _, rfl, rfl, rfl, HC.out⟩
              case round =>
                obtain ⟨j, hj, hk2, hva, hv2, H⟩ := hrel
                subst hva hv2
                clear HC
                by_cases hlt2 : j < l.length
                · have hjy : j < ys1.length := by rw [show ys1.length = l.length from HP.out.2.1]; exact hlt2
                  obtain ⟨f1, -, -⟩ := H.rowBit hjy
                  have ht : (ys1.take (j + 1)).all (fun b => b) = ((ys1.take j).all (fun b => b) && ys1[j]) := by rw [List.take_succ_eq_append_getElem hjy, List.all_append]; simp
                  obtain ⟨b, hb⟩ : ∃ b, ys1[j] = b := ⟨_, rfl⟩
                  rw [hb] at f1 ht
                  obtain ⟨a0, ha0⟩ : ∃ a0, (ys1.take j).all (fun b => b) = a0 := ⟨_, rfl⟩
                  rw [ha0] at ht ⊢
                  have HT := Lib.hid ht
                  have HH := Lib.hid H
                  clear H hb ht ha0 hjy
                  have f1b : wr.cell? ⟨y, j, none⟩ = some (.bool b) := by have := f1; rw [Addr.add_lit, Nat.zero_add] at this; exact this
                  have f1c : wr.cell? ⟨y, 0 + j, none⟩ = some (.bool b) := by rw [Nat.zero_add]; exact f1b
                  cases a0 with
                  | true =>
                    go_wp2_with fail
                    go_roundg (l.length - (j + 1))
                    case rel => exact ⟨j + 1, by omega, rfl, by rw [HT.out]; rfl, by go_num, HH.out⟩
                    case measure => omega
                  | false =>
                    go_wp2_with fail
                    go_roundg (l.length - (j + 1))
                    case rel => exact ⟨j + 1, by omega, rfl, by rw [HT.out]; rfl, by go_num, HH.out⟩
                    case measure => omega
                · obtain rfl : j = l.length := by omega
                  have hinv := HP.out
                  unfold PreO at hinv
                  rw [show ys1.take l.length = ys1 from by rw [← show ys1.length = l.length from HP.out.2.1]; exact List.take_length]
                  have hd := decision_any H 5
                  rw [dec_one] at hd
                  have hcc : (cm != cm) = false := by simp
                  obtain ⟨b, hb⟩ : ∃ b, ys1.all (fun b => b) = b := ⟨_, rfl⟩
                  rw [hb] at hinv ⊢
                  clear H hb HP
                  cases b with
                  | true =>
                    simp only [Bool.true_or, Bool.false_or, Bool.not_true, Bool.not_false, Bool.true_and, Bool.false_and, Bool.false_eq_true, if_false, if_true] at hinv
                    rw [← hinv.2.2.1, ← hinv.2.2.2.1] at hd
                    have HD := Lib.hid hd
                    have HIN := Lib.hid hinv
                    clear hinv hd
                    go_wp2_with fail
                    refine HD.out.mono ?_
                    rintro e' w7 ⟨rfl, H⟩
                    have HN := Lib.hid H.dropR
                    clear H
                    go_wp2_with fail
                    go_roundg (acts.length - (p + 1))
                    case rel => exact ⟨p + 1, e1, ys1, _, _, by omega, rfl, rfl, rfl, by go_num, HN.out, HIN.out⟩
                    case measure => omega
                  | false =>
                    simp only [Bool.true_or, Bool.false_or, Bool.not_true, Bool.not_false, Bool.true_and, Bool.false_and, Bool.false_eq_true, if_false, if_true] at hinv
                    rw [← hinv.2.2.1, ← hinv.2.2.2.1] at hd
                    have HD := Lib.hid hd
                    have HIN := Lib.hid hinv
                    clear hinv hd
                    go_wp2_with fail
                    refine HD.out.mono ?_
                    rintro e' w7 ⟨rfl, H⟩
                    have HN := Lib.hid H.dropR
                    clear H
                    go_wp2_with fail
                    go_roundg (acts.length - (p + 1))
                    case rel => exact ⟨p + 1, e1, ys1, _, _, by omega, rfl, rfl, rfl, by go_num, HN.out, HIN.out⟩
                    case measure => omega
          | some i =>
            have hil := idxF_lt hpl
            rw [show idxS sh l = (i : Int) from by unfold idxS; rw [hpl]]
            rw [hpl] at hv
            dsimp only at hv
            clear hpl
            cases kn with
            | true =>
              have hpre := pre_same HI.out
              rw [vote_known (ok := yes) (i := i) HI.out] at hv
              have HV := Lib.hid hv
              have HPP := Lib.hid hpre
              clear H hv hpre HI
              go_wp2_with fail
              refine HV.out.mono ?_
              rintro e' w6 ⟨rfl, H⟩
              have HC := Lib.hid H
              clear H hc0 hc3 hc4
              obtain ⟨e1, he1⟩ : ∃ e1, e = e1 := ⟨_, rfl⟩
              obtain ⟨ys1, hys1⟩ : ∃ z, ys = z := ⟨_, rfl⟩
              rw [he1] at HC HPP
              rw [hys1] at HC HPP
              have HP := HPP
              clear HPP he1 hys1
              go_wp2_with fail
              go_loopg [13, 14] l.length (fun k va v wr => ∃ j : Nat, j ≤ l.length ∧ k = l.length - j ∧ va = .bool ((ys1.take j).all fun b => b) ∧ v = .int .i64 (j : Int) ∧
                Co w wr c [(5, e1)] (ThCell q o :: [ThRow 1 (.slice (some ⟨y, 0, none⟩) l.length l.length) (ys1.map Value.bool)]) [])
              case atStart => exact ⟨0, Nat.zero_le _, rfl, rfl, rfl, HC.out⟩
              case round =>
                obtain ⟨j, hj, hk2, hva, hv2, H⟩ := hrel
                subst hva hv2
                clear HC
                by_cases hlt2 : j < l.length
                · have hjy : j < ys1.length := by rw [show ys1.length = l.length from HP.out.2.1]; exact hlt2
                  obtain ⟨f1, -, -⟩ := H.rowBit hjy
                  have ht : (ys1.take (j + 1)).all (fun b => b) = ((ys1.take j).all (fun b => b) && ys1[j]) := by rw [List.take_succ_eq_append_getElem hjy, List.all_append]; simp
                  obtain ⟨b, hb⟩ : ∃ b, ys1[j] = b := ⟨_, rfl⟩
                  rw [hb] at f1 ht
                  obtain ⟨a0, ha0⟩ : ∃ a0, (ys1.take j).all (fun b => b) = a0 := ⟨_, rfl⟩
                  rw [ha0] at ht ⊢
                  have HT := Lib.hid ht
                  have HH := Lib.hid H
                  clear H hb ht ha0 hjy
                  have f1b : wr.cell? ⟨y, j, none⟩ = some (.bool b) := by have := f1; rw [Addr.add_lit, Nat.zero_add] at this; exact this
                  have f1c : wr.cell? ⟨y, 0 + j, none⟩ = some (.bool b) := by rw [Nat.zero_add]; exact f1b
                  cases a0 with
                  | true =>
                    go_wp2_with fail
                    go_roundg (l.length - (j + 1))
                    case rel => exact ⟨j + 1, by omega, rfl, by rw [HT.out]; rfl, by go_num, HH.out⟩
                    case measure => omega
                  | false =>
                    go_wp2_with fail
                    go_roundg (l.length - (j + 1))
                    case rel => exact ⟨j + 1, by omega, rfl, by rw [HT.out]; rfl, by go_num, HH.out⟩
                    case measure => omega
                · obtain rfl : j = l.length := by omega
                  have hinv := HP.out
                  unfold PreO at hinv
                  rw [show ys1.take l.length = ys1 from by rw [← show ys1.length = l.length from HP.out.2.1]; exact List.take_length]
                  have hd := decision_any H 5
                  rw [dec_one] at hd
                  have hcc : (cm != cm) = false := by simp
                  obtain ⟨b, hb⟩ : ∃ b, ys1.all (fun b => b) = b := ⟨_, rfl⟩
                  rw [hb] at hinv ⊢
                  clear H hb HP
                  cases b with
                  | true =>
                    simp only [Bool.true_or, Bool.false_or, Bool.not_true, Bool.not_false, Bool.true_and, Bool.false_and, Bool.false_eq_true, if_false, if_true] at hinv
                    rw [← hinv.2.2.1, ← hinv.2.2.2.1] at hd
                    have HD := Lib.hid hd
                    have HIN := Lib.hid hinv
                    clear hinv hd
                    go_wp2_with fail
                    refine HD.out.mono ?_
                    rintro e' w7 ⟨rfl, H⟩
                    have HN := Lib.hid H.dropR
                    clear H
                    go_wp2_with fail
                    go_roundg (acts.length - (p + 1))
                    case rel => exact ⟨p + 1, e1, ys1, _, _, by omega, rfl, rfl, rfl, by go_num, HN.out, HIN.out⟩
                    case measure => omega
                  | false =>
                    simp only [Bool.true_or, Bool.false_or, Bool.not_true, Bool.not_false, Bool.true_and, Bool.false_and, Bool.false_eq_true, if_false, if_true] at hinv
                    rw [← hinv.2.2.1, ← hinv.2.2.2.1] at hd
                    have HD := Lib.hid hd
                    have HIN := Lib.hid hinv
                    clear hinv hd
                    go_wp2_with fail
                    refine HD.out.mono ?_
                    rintro e' w7 ⟨rfl, H⟩
                    have HN := Lib.hid H.dropR
                    clear H
                    go_wp2_with fail
                    go_roundg (acts.length - (p + 1))
                    case rel => exact ⟨p + 1, e1, ys1, _, _, by omega, rfl, rfl, rfl, by go_num, HN.out, HIN.out⟩
                    case measure => omega
            | false =>
              have hiy : i < ys.length := by rw [HI.out.2.1]; exact hil
              cases yes with
              | true =>
                have hpre := pre_yes HI.out hiy
                have HV := Lib.hid hv
                have HPP := Lib.hid hpre
                clear H hv hpre HI
                go_wp2_with fail
                refine HV.out.mono ?_
                rintro e' w6 ⟨rfl, H⟩
                obtain ⟨f1, f2, f3⟩ := H.rowBit hiy
                have HC := Lib.hid (f3 true)
                have hc0 := (HO.out _ H.cellR).1
                have hc4 := (HO.out _ H.cellR).2
                rw [Addr.add_lit, Nat.zero_add] at f1 f2 HC
                clear H f3 hc3
                obtain ⟨e1, he1⟩ : ∃ e1, voteF i true e = e1 := ⟨_, rfl⟩
                obtain ⟨ys1, hys1⟩ : ∃ z, ys.set i true = z := ⟨_, rfl⟩
                rw [he1] at HC HPP
                rw [hys1] at HC HPP
                have HP := HPP
                clear HPP he1 hys1
                go_wp2_with fail
                go_loopg [13, 14] l.length (fun k va v wr => ∃ j : Nat, j ≤ l.length ∧ k = l.length - j ∧ va = .bool ((ys1.take j).all fun b => b) ∧ v = .int .i64 (j : Int) ∧
                  Co w wr c [(5, e1)] (ThCell q o :: [ThRow 1 (.slice (some ⟨y, 0, none⟩) l.length l.length) (ys1.map Value.bool)]) [])
                case atStart => exact ⟨0, Nat.zero_le _, rfl, rfl, rfl, HC.out⟩
                case round =>
                  obtain ⟨j, hj, hk2, hva, hv2, H⟩ := hrel
                  subst hva hv2
                  clear HC
                  by_cases hlt2 : j < l.length
                  · have hjy : j < ys1.length := by rw [show ys1.length = l.length from HP.out.2.1]; exact hlt2
                    obtain ⟨f1, -, -⟩ := H.rowBit hjy
                    have ht : (ys1.take (j + 1)).all (fun b => b) = ((ys1.take j).all (fun b => b) && ys1[j]) := by rw [List.take_succ_eq_append_getElem hjy, List.all_append]; simp
                    obtain ⟨b, hb⟩ : ∃ b, ys1[j] = b := ⟨_, rfl⟩
                    rw [hb] at f1 ht
                    obtain ⟨a0, ha0⟩ : ∃ a0, (ys1.take j).all (fun b => b) = a0 := ⟨_, rfl⟩
                    rw [ha0] at ht ⊢
                    have HT := Lib.hid ht
                    have HH := Lib.hid H
                    clear H hb ht ha0 hjy
                    have f1b : wr.cell? ⟨y, j, none⟩ = some (.bool b) := by have := f1; rw [Addr.add_lit, Nat.zero_add] at this; exact this
                    have f1c : wr.cell? ⟨y, 0 + j, none⟩ = some (.bool b) := by rw [Nat.zero_add]; exact f1b
                    cases a0 with
                    | true =>
                      go_wp2_with fail
                      go_roundg (l.length - (j + 1))
                      case rel => exact ⟨j + 1, by omega, rfl, by rw [HT.out]; rfl, by go_num, HH.out⟩
                      case measure => omega
                    | false =>
                      go_wp2_with fail
                      go_roundg (l.length - (j + 1))
                      case rel => exact ⟨j + 1, by omega, rfl, by rw [HT.out]; rfl, by go_num, HH.out⟩
                      case measure => omega
                  · obtain rfl : j = l.length := by omega
                    have hinv := HP.out
                    unfold PreO at hinv
                    rw [show ys1.take l.length = ys1 from by rw [← show ys1.length = l.length from HP.out.2.1]; exact List.take_length]
                    have hd := decision_any H 5
                    rw [dec_one] at hd
                    have hcc : (cm != cm) = false := by simp
                    obtain ⟨b, hb⟩ : ∃ b, ys1.all (fun b => b) = b := ⟨_, rfl⟩
                    rw [hb] at hinv ⊢
                    clear H hb HP
                    cases b with
                    | true =>
                      simp only [Bool.true_or, Bool.false_or, Bool.not_true, Bool.not_false, Bool.true_and, Bool.false_and, Bool.false_eq_true, if_false, if_true] at hinv
                      rw [← hinv.2.2.1, ← hinv.2.2.2.1] at hd
                      have HD := Lib.hid hd
                      have HIN := Lib.hid hinv
                      clear hinv hd
                      go_wp2_with fail
                      refine HD.out.mono ?_
                      rintro e' w7 ⟨rfl, H⟩
                      have HN := Lib.hid H.dropR
                      clear H
                      go_wp2_with fail
                      go_roundg (acts.length - (p + 1))
                      case rel => exact ⟨p + 1, e1, ys1, _, _, by omega, rfl, rfl, rfl, by go_num, HN.out, HIN.out⟩
                      case measure => omega
                    | false =>
                      simp only [Bool.true_or, Bool.false_or, Bool.not_true, Bool.not_false, Bool.true_and, Bool.false_and, Bool.false_eq_true, if_false, if_true] at hinv
                      rw [← hinv.2.2.1, ← hinv.2.2.2.1] at hd
                      have HD := Lib.hid hd
                      have HIN := Lib.hid hinv
                      clear hinv hd
                      go_wp2_with fail
                      refine HD.out.mono ?_
                      rintro e' w7 ⟨rfl, H⟩
                      have HN := Lib.hid H.dropR
                      clear H
                      go_wp2_with fail
                      go_roundg (acts.length - (p + 1))
                      case rel => exact ⟨p + 1, e1, ys1, _, _, by omega, rfl, rfl, rfl, by go_num, HN.out, HIN.out⟩
                      case measure => omega
              | false =>
                have hpre := pre_no HI.out hiy
                obtain ⟨b, hb⟩ : ∃ b, ys[i] = b := ⟨_, rfl⟩
                rw [hb] at hpre
                have HV := Lib.hid hv
                have HPP := Lib.hid hpre
                clear H hv hpre HI
                go_wp2_with fail
                refine HV.out.mono ?_
                rintro e' w6 ⟨rfl, H⟩
                obtain ⟨f1, -, -⟩ := H.rowBit hiy
                rw [hb, Addr.add_lit, Nat.zero_add] at f1
                have HC := Lib.hid H
                have hc0 := (HO.out _ H.cellR).1
                have hc4 := (HO.out _ H.cellR).2
                clear H hc3 hb
                cases b with
                | true =>
                  simp only [Bool.not_true] at HPP
                  go_wp2_with fail
                  obtain ⟨e1, he1⟩ : ∃ e1, voteF i false e = e1 := ⟨_, rfl⟩
                  obtain ⟨ys1, hys1⟩ : ∃ z, ys = z := ⟨_, rfl⟩
                  rw [he1] at HC HPP
                  rw [hys1] at HC HPP
                  have HP := HPP
                  clear HPP he1 hys1
                  go_loopg [13, 14] l.length (fun k va v wr => ∃ j : Nat, j ≤ l.length ∧ k = l.length - j ∧ va = .bool ((ys1.take j).all fun b => b) ∧ v = .int .i64 (j : Int) ∧
                    Co w wr c [(5, e1)] (ThCell q o :: [ThRow 1 (.slice (some ⟨y, 0, none⟩) l.length l.length) (ys1.map Value.bool)]) [])
                  case atStart => exact ⟨0, Nat.zero_le _, rfl, rfl, rfl, HC.out⟩
                  case round =>
                    obtain ⟨j, hj, hk2, hva, hv2, H⟩ := hrel
                    subst hva hv2
                    clear HC
                    by_cases hlt2 : j < l.length
                    · have hjy : j < ys1.length := by rw [show ys1.length = l.length from HP.out.2.1]; exact hlt2
                      obtain ⟨f1, -, -⟩ := H.rowBit hjy
                      have ht : (ys1.take (j + 1)).all (fun b => b) = ((ys1.take j).all (fun b => b) && ys1[j]) := by rw [List.take_succ_eq_append_getElem hjy, List.all_append]; simp
                      obtain ⟨b, hb⟩ : ∃ b, ys1[j] = b := ⟨_, rfl⟩
                      rw [hb] at f1 ht
                      obtain ⟨a0, ha0⟩ : ∃ a0, (ys1.take j).all (fun b => b) = a0 := ⟨_, rfl⟩
                      rw [ha0] at ht ⊢
                      have HT := Lib.hid ht
                      have HH := Lib.hid H
                      clear H hb ht ha0 hjy
                      have f1b : wr.cell? ⟨y, j, none⟩ = some (.bool b) := by have := f1; rw [Addr.add_lit, Nat.zero_add] at this; exact this
                      have f1c : wr.cell? ⟨y, 0 + j, none⟩ = some (.bool b) := by rw [Nat.zero_add]; exact f1b
                      cases a0 with
                      | true =>
                        go_wp2_with fail
                        go_roundg (l.length - (j + 1))
                        case rel => exact ⟨j + 1, by omega, rfl, by rw [HT.out]; rfl, by go_num, HH.out⟩
                        case measure => omega
                      | false =>
                        go_wp2_with fail
                        go_roundg (l.length - (j + 1))
                        case rel => exact ⟨j + 1, by omega, rfl, by rw [HT.out]; rfl, by go_num, HH.out⟩
                        case measure => omega
                    · obtain rfl : j = l.length := by omega
                      have hinv := HP.out
                      unfold PreO at hinv
                      rw [show ys1.take l.length = ys1 from by rw [← show ys1.length = l.length from HP.out.2.1]; exact List.take_length]
                      have hd := decision_any H 5
                      rw [dec_one] at hd
                      have hcc : (cm != cm) = false := by simp
                      obtain ⟨b, hb⟩ : ∃ b, ys1.all (fun b => b) = b := ⟨_, rfl⟩
                      rw [hb] at hinv ⊢
                      clear H hb HP
                      cases b with
                      | true =>
                        simp only [Bool.true_or, Bool.false_or, Bool.not_true, Bool.not_false, Bool.true_and, Bool.false_and, Bool.false_eq_true, if_false, if_true] at hinv
                        rw [← hinv.2.2.1, ← hinv.2.2.2.1] at hd
                        have HD := Lib.hid hd
                        have HIN := Lib.hid hinv
                        clear hinv hd
                        go_wp2_with fail
                        refine HD.out.mono ?_
                        rintro e' w7 ⟨rfl, H⟩
                        have HN := Lib.hid H.dropR
                        clear H
                        go_wp2_with fail
                        go_roundg (acts.length - (p + 1))
                        case rel => exact ⟨p + 1, e1, ys1, _, _, by omega, rfl, rfl, rfl, by go_num, HN.out, HIN.out⟩
                        case measure => omega
                      | false =>
                        simp only [Bool.true_or, Bool.false_or, Bool.not_true, Bool.not_false, Bool.true_and, Bool.false_and, Bool.false_eq_true, if_false, if_true] at hinv
                        rw [← hinv.2.2.1, ← hinv.2.2.2.1] at hd
                        have HD := Lib.hid hd
                        have HIN := Lib.hid hinv
                        clear hinv hd
                        go_wp2_with fail
                        refine HD.out.mono ?_
                        rintro e' w7 ⟨rfl, H⟩
                        have HN := Lib.hid H.dropR
                        clear H
                        go_wp2_with fail
                        go_roundg (acts.length - (p + 1))
                        case rel => exact ⟨p + 1, e1, ys1, _, _, by omega, rfl, rfl, rfl, by go_num, HN.out, HIN.out⟩
                        case measure => omega
                | false =>
                  simp only [Bool.not_false] at HPP
                  go_wp2_with fail
                  obtain ⟨e1, he1⟩ : ∃ e1, voteF i false e = e1 := ⟨_, rfl⟩
                  obtain ⟨ys1, hys1⟩ : ∃ z, ys = z := ⟨_, rfl⟩
                  rw [he1] at HC HPP
                  rw [hys1] at HC HPP
                  have HP := HPP
                  clear HPP he1 hys1
                  go_loopg [13, 14] l.length (fun k va v wr => ∃ j : Nat, j ≤ l.length ∧ k = l.length - j ∧ va = .bool ((ys1.take j).all fun b => b) ∧ v = .int .i64 (j : Int) ∧
                    Co w wr c [(5, e1)] (ThCell q o :: [ThRow 1 (.slice (some ⟨y, 0, none⟩) l.length l.length) (ys1.map Value.bool)]) [])
                  case atStart => exact ⟨0, Nat.zero_le _, rfl, rfl, rfl, HC.out⟩
                  case round =>
                    obtain ⟨j, hj, hk2, hva, hv2, H⟩ := hrel
                    subst hva hv2
                    clear HC
                    by_cases hlt2 : j < l.length
                    · have hjy : j < ys1.length := by rw [show ys1.length = l.length from HP.out.2.1]; exact hlt2
                      obtain ⟨f1, -, -⟩ := H.rowBit hjy
                      have ht : (ys1.take (j + 1)).all (fun b => b) = ((ys1.take j).all (fun b => b) && ys1[j]) := by rw [List.take_succ_eq_append_getElem hjy, List.all_append]; simp
                      obtain ⟨b, hb⟩ : ∃ b, ys1[j] = b := ⟨_, rfl⟩
                      rw [hb] at f1 ht
                      obtain ⟨a0, ha0⟩ : ∃ a0, (ys1.take j).all (fun b => b) = a0 := ⟨_, rfl⟩
                      rw [ha0] at ht ⊢
                      have HT := Lib.hid ht
                      have HH := Lib.hid H
                      clear H hb ht ha0 hjy
                      have f1b : wr.cell? ⟨y, j, none⟩ = some (.bool b) := by have := f1; rw [Addr.add_lit, Nat.zero_add] at this; exact this
                      have f1c : wr.cell? ⟨y, 0 + j, none⟩ = some (.bool b) := by rw [Nat.zero_add]; exact f1b
                      cases a0 with
                      | true =>
                        go_wp2_with fail
                        go_roundg (l.length - (j + 1))
                        case rel => exact ⟨j + 1, by omega, rfl, by rw [HT.out]; rfl, by go_num, HH.out⟩
                        case measure => omega
                      | false =>
                        go_wp2_with fail
                        go_roundg (l.length - (j + 1))
                        case rel => exact ⟨j + 1, by omega, rfl, by rw [HT.out]; rfl, by go_num, HH.out⟩
                        case measure => omega
                    · obtain rfl : j = l.length := by omega
                      have hinv := HP.out
                      unfold PreO at hinv
                      rw [show ys1.take l.length = ys1 from by rw [← show ys1.length = l.length from HP.out.2.1]; exact List.take_length]
                      have hd := decision_any H 5
                      rw [dec_one] at hd
                      have hcc : (cm != cm) = false := by simp
                      obtain ⟨b, hb⟩ : ∃ b, ys1.all (fun b => b) = b := ⟨_, rfl⟩
                      rw [hb] at hinv ⊢
                      clear H hb HP
                      cases b with
                      | true =>
                        simp only [Bool.true_or, Bool.false_or, Bool.not_true, Bool.not_false, Bool.true_and, Bool.false_and, Bool.false_eq_true, if_false, if_true] at hinv
                        rw [← hinv.2.2.1, ← hinv.2.2.2.1] at hd
                        have HD := Lib.hid hd
                        have HIN := Lib.hid hinv
                        clear hinv hd
                        go_wp2_with fail
                        refine HD.out.mono ?_
                        rintro e' w7 ⟨rfl, H⟩
                        have HN := Lib.hid H.dropR
                        clear H
                        go_wp2_with fail
                        go_roundg (acts.length - (p + 1))
                        case rel => exact ⟨p + 1, e1, ys1, _, _, by omega, rfl, rfl, rfl, by go_num, HN.out, HIN.out⟩
                        case measure => omega
                      | false =>
                        simp only [Bool.true_or, Bool.false_or, Bool.not_true, Bool.not_false, Bool.true_and, Bool.false_and, Bool.false_eq_true, if_false, if_true] at hinv
                        rw [← hinv.2.2.1, ← hinv.2.2.2.1] at hd
                        have HD := Lib.hid hd
                        have HIN := Lib.hid hinv
                        clear hinv hd
                        go_wp2_with fail
                        refine HD.out.mono ?_
                        rintro e' w7 ⟨rfl, H⟩
                        have HN := Lib.hid H.dropR
                        clear H
                        go_wp2_with fail
                        go_roundg (acts.length - (p + 1))
                        case rel => exact ⟨p + 1, e1, ys1, _, _, by omega, rfl, rfl, rfl, by go_num, HN.out, HIN.out⟩
                        case measure => omega
        · have hb1 : ((op : Int) == 1) = false := beq_eq_false_iff_ne.2 ho1
          clear ho1
          have hplc : ∃ pl, idxS sh l = pl := ⟨_, rfl⟩
          obtain ⟨pl, hpl⟩ := hplc
          rw [hpl]
          clear hpl
          by_cases ho2 : op = 2
          · subst ho2
            have hv := done_any H 5 sh
            obtain ⟨e2, he2, hor⟩ := doneO e sh
            rw [he2] at hv
            have hinv2 : InvO l e2 ys kn cm := by
              rcases hor with rfl | rfl
              · exact HI.out
              · exact inv_done sh HI.out
            clear he2 hor
            cases kn with
            | true =>
              have hpre := pre_same hinv2
              clear hinv2
              have HV := Lib.hid hv
              have HPP := Lib.hid hpre
              clear H hv hpre HI
              go_wp2_with fail
              refine HV.out.mono ?_
              rintro e' w6 ⟨rfl, H⟩
              have HC := Lib.hid H
              clear H hc0 hc3 hc4
              obtain ⟨e1, he1⟩ : ∃ e1, e2 = e1 := ⟨_, rfl⟩
              obtain ⟨ys1, hys1⟩ : ∃ z, ys = z := ⟨_, rfl⟩
              rw [he1] at HC HPP
              rw [hys1] at HC HPP
              have HP := HPP
              clear HPP he1 hys1
              go_wp2_with fail
              go_loopg [13, 14] l.length (fun k va v wr => ∃ j : Nat, j ≤ l.length ∧ k = l.length - j ∧ va = .bool ((ys1.take j).all fun b => b) ∧ v = .int .i64 (j : Int) ∧
                Co w wr c [(5, e1)] (ThCell q o :: [ThRow 1 (.slice (some ⟨y, 0, none⟩) l.length l.length) (ys1.map Value.bool)]) [])
              case atStart => exact ⟨0, Nat.zero_le _, rfl, rfl, rfl, HC.out⟩
              case round =>
                obtain ⟨j, hj, hk2, hva, hv2, H⟩ := hrel
                subst hva hv2
                clear HC
                by_cases hlt2 : j < l.length
                · have hjy : j < ys1.length := by rw [show ys1.length = l.length from HP.out.2.1]; exact hlt2
                  obtain ⟨f1, -, -⟩ := H.rowBit hjy
                  have ht : (ys1.take (j + 1)).all (fun b => b) = ((ys1.take j).all (fun b => b) && ys1[j]) := by rw [List.take_succ_eq_append_getElem hjy, List.all_append]; simp
                  obtain ⟨b, hb⟩ : ∃ b, ys1[j] = b := ⟨_, rfl⟩
                  rw [hb] at f1 ht
                  obtain ⟨a0, ha0⟩ : ∃ a0, (ys1.take j).all (fun b => b) = a0 := ⟨_, rfl⟩
                  rw [ha0] at ht ⊢
                  have HT := Lib.hid ht
                  have HH := Lib.hid H
                  clear H hb ht ha0 hjy
                  have f1b : wr.cell? ⟨y, j, none⟩ = some (.bool b) := by have := f1; rw [Addr.add_lit, Nat.zero_add] at this; exact this
                  have f1c : wr.cell? ⟨y, 0 + j, none⟩ = some (.bool b) := by rw [Nat.zero_add]; exact f1b
                  cases a0 with
                  | true =>
                    go_wp2_with fail
                    go_roundg (l.length - (j + 1))
                    case rel => exact ⟨j + 1, by omega, rfl, by rw [HT.out]; rfl, by go_num, HH.out⟩
                    case measure => omega
                  | false =>
                    go_wp2_with fail
                    go_roundg (l.length - (j + 1))
                    case rel => exact ⟨j + 1, by omega, rfl, by rw [HT.out]; rfl, by go_num, HH.out⟩
                    case measure => omega
                · obtain rfl : j = l.length := by omega
                  have hinv := HP.out
                  unfold PreO at hinv
                  rw [show ys1.take l.length = ys1 from by rw [← show ys1.length = l.length from HP.out.2.1]; exact List.take_length]
                  have hd := decision_any H 5
                  rw [dec_one] at hd
                  have hcc : (cm != cm) = false := by simp
                  obtain ⟨b, hb⟩ : ∃ b, ys1.all (fun b => b) = b := ⟨_, rfl⟩
                  rw [hb] at hinv ⊢
                  clear H hb HP
                  cases b with
                  | true =>
                    simp only [Bool.true_or, Bool.false_or, Bool.not_true, Bool.not_false, Bool.true_and, Bool.false_and, Bool.false_eq_true, if_false, if_true] at hinv
                    rw [← hinv.2.2.1, ← hinv.2.2.2.1] at hd
                    have HD := Lib.hid hd
                    have HIN := Lib.hid hinv
                    clear hinv hd
                    go_wp2_with fail
                    refine HD.out.mono ?_
                    rintro e' w7 ⟨rfl, H⟩
                    have HN := Lib.hid H.dropR
                    clear H
                    go_wp2_with fail
                    go_roundg (acts.length - (p + 1))
                    case rel => exact ⟨p + 1, e1, ys1, _, _, by omega, rfl, rfl, rfl, by go_num, HN.out, HIN.out⟩
                    case measure => omega
                  | false =>
                    simp only [Bool.true_or, Bool.false_or, Bool.not_true, Bool.not_false, Bool.true_and, Bool.false_and, Bool.false_eq_true, if_false, if_true] at hinv
                    rw [← hinv.2.2.1, ← hinv.2.2.2.1] at hd
                    have HD := Lib.hid hd
                    have HIN := Lib.hid hinv
                    clear hinv hd
                    go_wp2_with fail
                    refine HD.out.mono ?_
                    rintro e' w7 ⟨rfl, H⟩
                    have HN := Lib.hid H.dropR
                    clear H
                    go_wp2_with fail
                    go_roundg (acts.length - (p + 1))
                    case rel => exact ⟨p + 1, e1, ys1, _, _, by omega, rfl, rfl, rfl, by go_num, HN.out, HIN.out⟩
                    case measure => omega
            | false =>
              have hpre := pre_same hinv2
              clear hinv2
              have HV := Lib.hid hv
              have HPP := Lib.hid hpre
              clear H hv hpre HI
              go_wp2_with fail
              refine HV.out.mono ?_
              rintro e' w6 ⟨rfl, H⟩
              have HC := Lib.hid H
              clear H hc0 hc3 hc4
              obtain ⟨e1, he1⟩ : ∃ e1, e2 = e1 := ⟨_, rfl⟩
              obtain ⟨ys1, hys1⟩ : ∃ z, ys = z := ⟨_, rfl⟩
              rw [he1] at HC HPP
              rw [hys1] at HC HPP
              have HP := HPP
              clear HPP he1 hys1
              go_wp2_with fail
              go_loopg [13, 14] l.length (fun k va v wr => ∃ j : Nat, j ≤ l.length ∧ k = l.length - j ∧ va = .bool ((ys1.take j).all fun b => b) ∧ v = .int .i64 (j : Int) ∧
                Co w wr c [(5, e1)] (ThCell q o :: [ThRow 1 (.slice (some ⟨y, 0, none⟩) l.length l.length) (ys1.map Value.bool)]) [])
              case atStart => exact ⟨0, Nat.zero_le _, rfl, rfl, rfl, HC.out⟩
              case round =>
                obtain ⟨j, hj, hk2, hva, hv2, H⟩ := hrel
                subst hva hv2
                clear HC
                by_cases hlt2 : j < l.length
                · have hjy : j < ys1.length := by rw [show ys1.length = l.length from HP.out.2.1]; exact hlt2
                  obtain ⟨f1, -, -⟩ := H.rowBit hjy
                  have ht : (ys1.take (j + 1)).all (fun b => b) = ((ys1.take j).all (fun b => b) && ys1[j]) := by rw [List.take_succ_eq_append_getElem hjy, List.all_append]; simp
                  obtain ⟨b, hb⟩ : ∃ b, ys1[j] = b := ⟨_, rfl⟩
                  rw [hb] at f1 ht
                  obtain ⟨a0, ha0⟩ : ∃ a0, (ys1.take j).all (fun b => b) = a0 := ⟨_, rfl⟩
                  rw [ha0] at ht ⊢
                  have HT := Lib.hid ht
                  have HH := Lib.hid H
                  clear H hb ht ha0 hjy
                  have f1b : wr.cell? ⟨y, j, none⟩ = some (.bool b) := by have := f1; rw [Addr.add_lit, Nat.zero_add] at this; exact this
                  have f1c : wr.cell? ⟨y, 0 + j, none⟩ = some (.bool b) := by rw [Nat.zero_add]; exact f1b
                  cases a0 with
                  | true =>
                    go_wp2_with fail
                    go_roundg (l.length - (j + 1))
                    case rel => exact ⟨j + 1, by omega, rfl, by rw [HT.out]; rfl, by go_num, HH.out⟩
                    case measure => omega
                  | false =>
                    go_wp2_with fail
                    go_roundg (l.length - (j + 1))
                    case rel => exact ⟨j + 1, by omega, rfl, by rw [HT.out]; rfl, by go_num, HH.out⟩
                    case measure => omega
                · obtain rfl : j = l.length := by omega
                  have hinv := HP.out
                  unfold PreO at hinv
                  rw [show ys1.take l.length = ys1 from by rw [← show ys1.length = l.length from HP.out.2.1]; exact List.take_length]
                  have hd := decision_any H 5
                  rw [dec_one] at hd
                  have hcc : (cm != cm) = false := by simp
                  obtain ⟨b, hb⟩ : ∃ b, ys1.all (fun b => b) = b := ⟨_, rfl⟩
                  rw [hb] at hinv ⊢
                  clear H hb HP
                  cases b with
                  | true =>
                    simp only [Bool.true_or, Bool.false_or, Bool.not_true, Bool.not_false, Bool.true_and, Bool.false_and, Bool.false_eq_true, if_false, if_true] at hinv
                    rw [← hinv.2.2.1, ← hinv.2.2.2.1] at hd
                    have HD := Lib.hid hd
                    have HIN := Lib.hid hinv
                    clear hinv hd
                    go_wp2_with fail
                    refine HD.out.mono ?_
                    rintro e' w7 ⟨rfl, H⟩
                    have HN := Lib.hid H.dropR
                    clear H
                    go_wp2_with fail
                    go_roundg (acts.length - (p + 1))
                    case rel => exact ⟨p + 1, e1, ys1, _, _, by omega, rfl, rfl, rfl, by go_num, HN.out, HIN.out⟩
                    case measure => omega
                  | false =>
                    simp only [Bool.true_or, Bool.false_or, Bool.not_true, Bool.not_false, Bool.true_and, Bool.false_and, Bool.false_eq_true, if_false, if_true] at hinv
                    rw [← hinv.2.2.1, ← hinv.2.2.2.1] at hd
                    have HD := Lib.hid hd
                    have HIN := Lib.hid hinv
                    clear hinv hd
                    go_wp2_with fail
                    refine HD.out.mono ?_
                    rintro e' w7 ⟨rfl, H⟩
                    have HN := Lib.hid H.dropR
                    clear H
                    go_wp2_with fail
                    go_roundg (acts.length - (p + 1))
                    case rel => exact ⟨p + 1, e1, ys1, _, _, by omega, rfl, rfl, rfl, by go_num, HN.out, HIN.out⟩
                    case measure => omega
          · have hb2 : ((op : Int) == 2) = false := beq_eq_false_iff_ne.2 ho2
            clear ho2
            by_cases ho3 : op = 3
            · subst ho3
              have hv := abort_any H 5
              rw [abort_one] at hv
              have hpre := pre_abort HI.out
              have HV := Lib.hid hv
              have HPP := Lib.hid hpre
              clear H hv hpre HI
              go_wp2_with fail
              refine HV.out.mono ?_
              rintro e' w6 ⟨rfl, H⟩
              have HC := Lib.hid H
              clear H hc0 hc3 hc4
              obtain ⟨e1, he1⟩ : ∃ e1, abortF e = e1 := ⟨_, rfl⟩
              obtain ⟨ys1, hys1⟩ : ∃ z, ys = z := ⟨_, rfl⟩
              rw [he1] at HC HPP
              rw [hys1] at HC HPP
              have HP := HPP
              clear HPP he1 hys1
              go_wp2_with fail
              go_loopg [13, 14] l.length (fun k va v wr => ∃ j : Nat, j ≤ l.length ∧ k = l.length - j ∧ va = .bool ((ys1.take j).all fun b => b) ∧ v = .int .i64 (j : Int) ∧
                Co w wr c [(5, e1)] (ThCell q o :: [ThRow 1 (.slice (some ⟨y, 0, none⟩) l.length l.length) (ys1.map Value.bool)]) [])
              case atStart => exact ⟨0, Nat.zero_le _, rfl, rfl, rfl, HC.out⟩
              case round =>
                obtain ⟨j, hj, hk2, hva, hv2, H⟩ := hrel
                subst hva hv2
                clear HC
                by_cases hlt2 : j < l.length
                · have hjy : j < ys1.length := by rw [show ys1.length = l.length from HP.out.2.1]; exact hlt2
                  obtain ⟨f1, -, -⟩ := H.rowBit hjy
                  have ht : (ys1.take (j + 1)).all (fun b => b) = ((ys1.take j).all (fun b => b) && ys1[j]) := by rw [List.take_succ_eq_append_getElem hjy, List.all_append]; simp
                  obtain ⟨b, hb⟩ : ∃ b, ys1[j] = b := ⟨_, rfl⟩
                  rw [hb] at f1 ht
                  obtain ⟨a0, ha0⟩ : ∃ a0, (ys1.take j).all (fun b => b) = a0 := ⟨_, rfl⟩
                  rw [ha0] at ht ⊢
                  have HT := Lib.hid ht
                  have HH := Lib.hid H
                  clear H hb ht ha0 hjy
                  have f1b : wr.cell? ⟨y, j, none⟩ = some (.bool b) := by have := f1; rw [Addr.add_lit, Nat.zero_add] at this; exact this
                  have f1c : wr.cell? ⟨y, 0 + j, none⟩ = some (.bool b) := by rw [Nat.zero_add]; exact f1b
                  cases a0 with
                  | true =>
                    go_wp2_with fail
                    go_roundg (l.length - (j + 1))
                    case rel => exact ⟨j + 1, by omega, rfl, by rw [HT.out]; rfl, by go_num, HH.out⟩
                    case measure => omega
                  | false =>
                    go_wp2_with fail
                    go_roundg (l.length - (j + 1))
                    case rel => exact ⟨j + 1, by omega, rfl, by rw [HT.out]; rfl, by go_num, HH.out⟩
                    case measure => omega
                · obtain rfl : j = l.length := by omega
                  have hinv := HP.out
                  unfold PreO at hinv
                  rw [show ys1.take l.length = ys1 from by rw [← show ys1.length = l.length from HP.out.2.1]; exact List.take_length]
                  have hd := decision_any H 5
                  rw [dec_one] at hd
                  have hcc : (cm != cm) = false := by simp
                  obtain ⟨b, hb⟩ : ∃ b, ys1.all (fun b => b) = b := ⟨_, rfl⟩
                  rw [hb] at hinv ⊢
                  clear H hb HP
                  cases b with
                  | true =>
                    simp only [Bool.true_or, Bool.false_or, Bool.not_true, Bool.not_false, Bool.true_and, Bool.false_and, Bool.false_eq_true, if_false, if_true] at hinv
                    rw [← hinv.2.2.1, ← hinv.2.2.2.1] at hd
                    have HD := Lib.hid hd
                    have HIN := Lib.hid hinv
                    clear hinv hd
                    go_wp2_with fail
                    refine HD.out.mono ?_
                    rintro e' w7 ⟨rfl, H⟩
                    have HN := Lib.hid H.dropR
                    clear H
                    go_wp2_with fail
                    go_roundg (acts.length - (p + 1))
                    case rel => exact ⟨p + 1, e1, ys1, _, _, by omega, rfl, rfl, rfl, by go_num, HN.out, HIN.out⟩
                    case measure => omega
                  | false =>
                    simp only [Bool.true_or, Bool.false_or, Bool.not_true, Bool.not_false, Bool.true_and, Bool.false_and, Bool.false_eq_true, if_false, if_true] at hinv
                    rw [← hinv.2.2.1, ← hinv.2.2.2.1] at hd
                    have HD := Lib.hid hd
                    have HIN := Lib.hid hinv
                    clear hinv hd
                    go_wp2_with fail
                    refine HD.out.mono ?_
                    rintro e' w7 ⟨rfl, H⟩
                    have HN := Lib.hid H.dropR
                    clear H
                    go_wp2_with fail
                    go_roundg (acts.length - (p + 1))
                    case rel => exact ⟨p + 1, e1, ys1, _, _, by omega, rfl, rfl, rfl, by go_num, HN.out, HIN.out⟩
                    case measure => omega
            · have hb3 : ((op : Int) == 3) = false := beq_eq_false_iff_ne.2 ho3
              clear ho3
              cases kn with
              | true =>
                have HPP := Lib.hid (pre_same HI.out)
                have HC := Lib.hid H
                clear H hc3 hc4 HI
                obtain ⟨e1, he1⟩ : ∃ e1, e = e1 := ⟨_, rfl⟩
                obtain ⟨ys1, hys1⟩ : ∃ z, ys = z := ⟨_, rfl⟩
                rw [he1] at HC HPP
                rw [hys1] at HC HPP
                have HP := HPP
                clear HPP he1 hys1
                go_wp2_with fail
                go_loopg [13, 14] l.length (fun k va v wr => ∃ j : Nat, j ≤ l.length ∧ k = l.length - j ∧ va = .bool ((ys1.take j).all fun b => b) ∧ v = .int .i64 (j : Int) ∧
                  Co w wr c [(5, e1)] (ThCell q o :: [ThRow 1 (.slice (some ⟨y, 0, none⟩) l.length l.length) (ys1.map Value.bool)]) [])
                case atStart => exact ⟨0, Nat.zero_le _, rfl, rfl, rfl, HC.out⟩
                case round =>
                  obtain ⟨j, hj, hk2, hva, hv2, H⟩ := hrel
                  subst hva hv2
                  clear HC
                  by_cases hlt2 : j < l.length
                  · have hjy : j < ys1.length := by rw [show ys1.length = l.length from HP.out.2.1]; exact hlt2
                    obtain ⟨f1, -, -⟩ := H.rowBit hjy
                    have ht : (ys1.take (j + 1)).all (fun b => b) = ((ys1.take j).all (fun b => b) && ys1[j]) := by rw [List.take_succ_eq_append_getElem hjy, List.all_append]; simp
                    obtain ⟨b, hb⟩ : ∃ b, ys1[j] = b := ⟨_, rfl⟩
                    rw [hb] at f1 ht
                    obtain ⟨a0, ha0⟩ : ∃ a0, (ys1.take j).all (fun b => b) = a0 := ⟨_, rfl⟩
                    rw [ha0] at ht ⊢
                    have HT := Lib.hid ht
                    have HH := Lib.hid H
                    clear H hb ht ha0 hjy
                    have f1b : wr.cell? ⟨y, j, none⟩ = some (.bool b) := by have := f1; rw [Addr.add_lit, Nat.zero_add] at this; exact this
                    have f1c : wr.cell? ⟨y, 0 + j, none⟩ = some (.bool b) := by rw [Nat.zero_add]; exact f1b
                    cases a0 with
                    | true =>
                      go_wp2_with fail
                      go_roundg (l.length - (j + 1))
                      case rel => exact ⟨j + 1, by omega, rfl, by rw [HT.out]; rfl, by go_num, HH.out⟩
                      case measure => omega
                    | false =>
                      go_wp2_with fail
                      go_roundg (l.length - (j + 1))
                      case rel => exact ⟨j + 1, by omega, rfl, by rw [HT.out]; rfl, by go_num, HH.out⟩
                      case measure => omega
                  · obtain rfl : j = l.length := by omega
                    have hinv := HP.out
                    unfold PreO at hinv
                    rw [show ys1.take l.length = ys1 from by rw [← show ys1.length = l.length from HP.out.2.1]; exact List.take_length]
                    have hd := decision_any H 5
                    rw [dec_one] at hd
                    have hcc : (cm != cm) = false := by simp
                    obtain ⟨b, hb⟩ : ∃ b, ys1.all (fun b => b) = b := ⟨_, rfl⟩
                    rw [hb] at hinv ⊢
                    clear H hb HP
                    cases b with
                    | true =>
                      simp only [Bool.true_or, Bool.false_or, Bool.not_true, Bool.not_false, Bool.true_and, Bool.false_and, Bool.false_eq_true, if_false, if_true] at hinv
                      rw [← hinv.2.2.1, ← hinv.2.2.2.1] at hd
                      have HD := Lib.hid hd
                      have HIN := Lib.hid hinv
                      clear hinv hd
                      go_wp2_with fail
                      refine HD.out.mono ?_
                      rintro e' w7 ⟨rfl, H⟩
                      have HN := Lib.hid H.dropR
                      clear H
                      go_wp2_with fail
                      go_roundg (acts.length - (p + 1))
                      case rel => exact ⟨p + 1, e1, ys1, _, _, by omega, rfl, rfl, rfl, by go_num, HN.out, HIN.out⟩
                      case measure => omega
                    | false =>
                      simp only [Bool.true_or, Bool.false_or, Bool.not_true, Bool.not_false, Bool.true_and, Bool.false_and, Bool.false_eq_true, if_false, if_true] at hinv
                      rw [← hinv.2.2.1, ← hinv.2.2.2.1] at hd
                      have HD := Lib.hid hd
                      have HIN := Lib.hid hinv
                      clear hinv hd
                      go_wp2_with fail
                      refine HD.out.mono ?_
                      rintro e' w7 ⟨rfl, H⟩
                      have HN := Lib.hid H.dropR
                      clear H
                      go_wp2_with fail
                      go_roundg (acts.length - (p + 1))
                      case rel => exact ⟨p + 1, e1, ys1, _, _, by omega, rfl, rfl, rfl, by go_num, HN.out, HIN.out⟩
                      case measure => omega
              | false =>
                have HPP := Lib.hid (pre_same HI.out)
                have HC := Lib.hid H
                clear H hc3 hc4 HI
                obtain ⟨e1, he1⟩ : ∃ e1, e = e1 := ⟨_, rfl⟩
                obtain ⟨ys1, hys1⟩ : ∃ z, ys = z := ⟨_, rfl⟩
                rw [he1] at HC HPP
                rw [hys1] at HC HPP
                have HP := HPP
                clear HPP he1 hys1
                go_wp2_with fail
                go_loopg [13, 14] l.length (fun k va v wr => ∃ j : Nat, j ≤ l.length ∧ k = l.length - j ∧ va = .bool ((ys1.take j).all fun b => b) ∧ v = .int .i64 (j : Int) ∧
                  Co w wr c [(5, e1)] (ThCell q o :: [ThRow 1 (.slice (some ⟨y, 0, none⟩) l.length l.length) (ys1.map Value.bool)]) [])
                case atStart => exact ⟨0, Nat.zero_le _, rfl, rfl, rfl, HC.out⟩
                case round =>
                  obtain ⟨j, hj, hk2, hva, hv2, H⟩ := hrel
                  subst hva hv2
                  clear HC
                  by_cases hlt2 : j < l.length
                  · have hjy : j < ys1.length := by rw [show ys1.length = l.length from HP.out.2.1]; exact hlt2
                    obtain ⟨f1, -, -⟩ := H.rowBit hjy
                    have ht : (ys1.take (j + 1)).all (fun b => b) = ((ys1.take j).all (fun b => b) && ys1[j]) := by rw [List.take_succ_eq_append_getElem hjy, List.all_append]; simp
                    obtain ⟨b, hb⟩ : ∃ b, ys1[j] = b := ⟨_, rfl⟩
                    rw [hb] at f1 ht
                    obtain ⟨a0, ha0⟩ : ∃ a0, (ys1.take j).all (fun b => b) = a0 := ⟨_, rfl⟩
                    rw [ha0] at ht ⊢
                    have HT := Lib.hid ht
                    have HH := Lib.hid H
                    clear H hb ht ha0 hjy
                    have f1b : wr.cell? ⟨y, j, none⟩ = some (.bool b) := by have := f1; rw [Addr.add_lit, Nat.zero_add] at this; exact this
                    have f1c : wr.cell? ⟨y, 0 + j, none⟩ = some (.bool b) := by rw [Nat.zero_add]; exact f1b
                    cases a0 with
                    | true =>
                      go_wp2_with fail
                      go_roundg (l.length - (j + 1))
                      case rel => exact ⟨j + 1, by omega, rfl, by rw [HT.out]; rfl, by go_num, HH.out⟩
                      case measure => omega
                    | false =>
                      go_wp2_with fail
                      go_roundg (l.length - (j + 1))
                      case rel => exact ⟨j + 1, by omega, rfl, by rw [HT.out]; rfl, by go_num, HH.out⟩
                      case measure => omega
                  · obtain rfl : j = l.length := by omega
                    have hinv := HP.out
                    unfold PreO at hinv
                    rw [show ys1.take l.length = ys1 from by rw [← show ys1.length = l.length from HP.out.2.1]; exact List.take_length]
                    have hd := decision_any H 5
                    rw [dec_one] at hd
                    have hcc : (cm != cm) = false := by simp
                    obtain ⟨b, hb⟩ : ∃ b, ys1.all (fun b => b) = b := ⟨_, rfl⟩
                    rw [hb] at hinv ⊢
                    clear H hb HP
                    cases b with
                    | true =>
                      simp only [Bool.true_or, Bool.false_or, Bool.not_true, Bool.not_false, Bool.true_and, Bool.false_and, Bool.false_eq_true, if_false, if_true] at hinv
                      rw [← hinv.2.2.1, ← hinv.2.2.2.1] at hd
                      have HD := Lib.hid hd
                      have HIN := Lib.hid hinv
                      clear hinv hd
                      go_wp2_with fail
                      refine HD.out.mono ?_
                      rintro e' w7 ⟨rfl, H⟩
                      have HN := Lib.hid H.dropR
                      clear H
                      go_wp2_with fail
                      go_roundg (acts.length - (p + 1))
                      case rel => exact ⟨p + 1, e1, ys1, _, _, by omega, rfl, rfl, rfl, by go_num, HN.out, HIN.out⟩
                      case measure => omega
                    | false =>
                      simp only [Bool.true_or, Bool.false_or, Bool.not_true, Bool.not_false, Bool.true_and, Bool.false_and, Bool.false_eq_true, if_false, if_true] at hinv
                      rw [← hinv.2.2.1, ← hinv.2.2.2.1] at hd
                      have HD := Lib.hid hd
                      have HIN := Lib.hid hinv
                      clear hinv hd
                      go_wp2_with fail
                      refine HD.out.mono ?_
                      rintro e' w7 ⟨rfl, H⟩
                      have HN := Lib.hid H.dropR
                      clear H
                      go_wp2_with fail
                      go_roundg (acts.length - (p + 1))
                      case rel => exact ⟨p + 1, e1, ys1, _, _, by omega, rfl, rfl, rfl, by go_num, HN.out, HIN.out⟩
                      case measure => omega
end Go.Proofs.Ytebmmbommkpjaaa