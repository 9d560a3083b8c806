/- WHAT Find OF THE REFERENCE ANSWERS. -/
import Derived.Test.YtfndgoannijhpaaVcR1
namespace Go.Av
open Go.Proofs

theorem ev57 (sk fl : Bool) (ws : List Wd) (cm : List UInt8) (c : Int) (hb : ws.length < 1000000) : Ev M1 (.pure 57 [blockA sk fl ws cm, .int .u8 c]) (.tup [.int .i64 (Sp.val c ws), .bool (Sp.hasC c ws)]) [] := by
  refine call57 (v57 sk fl ws cm c _ ⟨hb, fun h => ?_, fun h => ⟨by omega, ?_⟩⟩)
  · have : Sp.codes c ws = [] := List.length_eq_zero_iff.1 (by omega)
    simp [Sp.val, Sp.hasC, this]
  · unfold Sp.val Sp.hasC
    cases hc : Sp.codes c ws with
    | nil => rw [hc] at h; simp at h
    | cons a l => rfl
end Go.Av
