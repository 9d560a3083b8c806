/- POSITIONS, and the program with the functions that work on their caller's rows. -/
import Derived.Test.YtablgkhmbcegkaaAvNarrow
import Derived.Test.YtablgkhmbcegkaaProg
namespace Go.Av
open Go.Proofs
noncomputable def M1 : Mach := ⟨fun _ => Try.prog, fun f => [38, 43].contains f⟩

structure G2 where
  x : Int
  y : Int
  deriving Inhabited, DecidableEq
def G2.a (g : G2) : AV := .agg [.int .i64 g.x, .int .i64 g.y]
abbrev gsA (fl : Bool) (gs : List G2) : AV := .vec fl 2 (gs.map G2.a)
abbrev isA (fl : Bool) (l : List Int) : AV := .vec fl 1 (l.map (.int .i64))

namespace Sp
/-- A number in the range of the machine. -/
def inM (n : Int) : Prop := -10000000 ≤ n ∧ n ≤ 10000000
def gap (a b : Int) : Int := if a < b then b - a else a - b
def dist (ax ay bx by_ : Int) : Int := if gap ay by_ > gap ax bx then gap ay by_ else gap ax bx
end Sp
end Go.Av
