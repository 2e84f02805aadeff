/-
  Routes: the table in plain words, and in memory.
-/
import Derived.Test.YtfncdgnhiinmjaaDoorPathC
namespace Go.Proofs.YtfncdgnhiinmjaaDoor
open Go.RowKit Go.Av

structure RtS where
  n : Int
  ver : Int
  mv : List (Bs × Int)
def lookM (k : Bs) (l : List (Bs × Int)) : Option Int := (l.find? fun e => decide (e.1 = k)).map (·.2)
def setM (k : Bs) (v : Int) (l : List (Bs × Int)) : List (Bs × Int) := match lookM k l with
  | some _ => l.map fun e => if e.1 = k then (e.1, v) else e
  | none => l ++ [(k, v)]
def sumB (l : Bs) : Nat := (l.map UInt8.toNat).sum
def ofS (S : RtS) (p : Bs) : Int := if topP p = [] then -1 else match lookM (topP p) S.mv with
  | some s => s
  | none => (sumB (topP p) : Int) % S.n
def badM (S : RtS) (top : Bs) (shard : Int) : Bool := !(topP (47 :: top) == top) || (top == []) || decide (shard < 0) || decide (S.n ≤ shard)
def moveS (S : RtS) (top : Bs) (shard : Int) : Int × RtS :=
  if badM S top shard then (1, S) else if lookM top S.mv = none ∧ 50 ≤ S.mv.length then (2, S) else (0, { S with ver := S.ver + 1, mv := setM top shard S.mv })

def mkv (e : Bs × Int) : Value × Value := (sv e.1, .int .i64 e.2)
def rtTh (t m : Nat) (S : RtS) : List Thing := [ThCell t (.cells #[.int .i64 S.n, .int .i64 S.ver, .map (some m)] 63 (0, 0)), ThMap .string m (S.mv.map mkv)]
/-- A table, in memory. -/
def Rt (w0 w : World) (t : Nat) (S : RtS) (R : List Thing) (rows : List (Value × Bs)) : Prop := ∃ m, Sep w0 w (rtTh t m S ++ R) rows
end Go.Proofs.YtfncdgnhiinmjaaDoor
