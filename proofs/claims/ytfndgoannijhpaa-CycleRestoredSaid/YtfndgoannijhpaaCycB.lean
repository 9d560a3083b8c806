/- POSITIONS AND MOVES as plain Lean, and the moves of a cycle: definitions for the texts behind this one. -/
import Derived.Test.YtfndgoannijhpaaCycA
namespace Go.Av

structure G2 where
  x : Int
  y : Int
  deriving Inhabited, DecidableEq
structure Ps where
  x : Int
  y : Int
  z : Int
  deriving Inhabited, DecidableEq
structure Mv where
  kind : Int
  p : Ps
  rate : Int
  deriving Inhabited, DecidableEq
def G2.a (g : G2) : AV := .agg [.int .i64 g.x, .int .i64 g.y]
def Ps.a (p : Ps) : AV := .agg [.int .i64 p.x, .int .i64 p.y, .int .i64 p.z]
def Mv.a (m : Mv) : AV := .agg [.int .i64 m.kind, .int .i64 m.p.x, .int .i64 m.p.y, .int .i64 m.p.z, .int .i64 0, .int .i64 0, .int .i64 m.rate]

namespace Sp
/-- A move behind others, unless it would change nothing. -/
def toL (l : List Mv) (p q : Ps) (rate : Int) : List Mv := if p = q then l else l ++ [⟨if rate > 0 then 2 else 1, q, rate⟩]
def bump (v : Nat) (p q : Ps) : Nat := if p = q then v else v + 1
/-- The heights above the last one. -/
def peck (q z : Int) : Nat → Int → List Int
  | 0, _ => []
  | m + 1, h => if h > z then h :: peck q z m (h - q) else []
/-- The heights to which a cycle drills. -/
def depths (code r z q rate ini : Int) : List Int := if validE code r z q rate ini = 0 then (if code = 83000 then peck q z 1000 (r - q) else []) ++ [z] else []
end Sp

theorem peck_map (q z : Int) : ∀ (m : Nat) (h : Int), peck q z m h = (Sp.peck q z m h).map (.int .i64)
  | 0, _ => rfl
  | m + 1, h => by
    unfold peck Sp.peck
    split
    · rw [peck_map q z m (h - q)]; rfl
    · rfl

theorem depths_map (code r z q rate ini : Int) : depthsA code r z q rate ini = .tup [.vec false 1 ((Sp.depths code r z q rate ini).map (.int .i64)), .int .i64 (validE code r z q rate ini)] := by
  unfold depthsA Sp.depths depthsL
  split
  · split
    · rw [peck_map]; simp
    · simp
  · simp

theorem ev12_a (code r z q rate ini : Int) (high : Bool) : Ev M1 (.pure 12 [cyc code r z q rate ini high]) (.tup [.vec false 1 ((Sp.depths code r z q rate ini).map (.int .i64)), .int .i64 (validE code r z q rate ini)]) [] := by
  rw [← depths_map]; exact ev12 ..
theorem ev13_a (code r z q rate ini : Int) (high : Bool) : Ev M1 (.pure 13 [cyc code r z q rate ini high]) (.tup [.vec false 1 ((Sp.depths code r z q rate ini).map (.int .i64)), .int .i64 (validE code r z q rate ini)]) [] := by
  rw [← depths_map]; exact ev13 ..
end Go.Av
