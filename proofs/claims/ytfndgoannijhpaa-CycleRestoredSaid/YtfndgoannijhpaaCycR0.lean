/- WORDS OF A BLOCK as plain Lean. -/
import Derived.Test.YtfndgoannijhpaaCycB
namespace Go.Av
structure Wd where
  letter : Int
  value : Int
  deriving Inhabited, DecidableEq
def Wd.a (w : Wd) : AV := .agg [.int .u8 w.letter, .int .i64 w.value]
abbrev blockA (sk fl : Bool) (ws : List Wd) (cm : List UInt8) : AV := .agg [.bool sk, .vec fl 2 (ws.map Wd.a), .str cm]

namespace Sp
/-- The values of the words with a letter. -/
def codes (c : Int) : List Wd → List Int
  | [] => []
  | w :: ws => if w.letter = c then w.value :: codes c ws else codes c ws
def hasC (c : Int) (ws : List Wd) : Bool := !(codes c ws).isEmpty
def val (c : Int) (ws : List Wd) : Int := (codes c ws).headD 0
def valOr (c : Int) (ws : List Wd) (d : Int) : Int := if hasC c ws = true then val c ws else d
end Sp
end Go.Av
