/- WHAT 'value' ANSWERS. -/
import Derived.Test.YtfndgoannijhpaaVcR2
namespace Go.Av
open Go.Proofs
theorem ev42 (sk fl : Bool) (ws : List Wd) (cm : List UInt8) (c d : Int) (hb : ws.length < 1000000) : Ev M1 (.pure 42 [.int .u8 c, .int .i64 d, .eptr 3 [blockA sk fl ws cm] 0 0]) (.int .i64 (Sp.valOr c ws d)) [] :=
  call42 (v42 sk fl ws cm c d _ ⟨hb, fun h => by rw [Sp.valOr, if_pos h], fun h => by rw [Sp.valOr, if_neg h]⟩)
theorem ev44 (sk fl : Bool) (ws : List Wd) (cm : List UInt8) (c d : Int) (hb : ws.length < 1000000) : Ev M1 (.pure 44 [blockA sk fl ws cm, .int .u8 c, .int .i64 d]) (.int .i64 (Sp.valOr c ws d)) [] :=
  call44 (v44 sk fl ws cm c d _ ⟨hb, fun h => by rw [Sp.valOr, if_pos h], fun h => by rw [Sp.valOr, if_neg h]⟩)
end Go.Av
