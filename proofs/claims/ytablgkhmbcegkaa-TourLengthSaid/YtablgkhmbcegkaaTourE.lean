/- WHAT Length OF THE REFERENCE ANSWERS. -/
import Derived.Test.YtablgkhmbcegkaaTvD
namespace Go.Av
open Go.Proofs

theorem ev13 (fl fm : Bool) (gs : List G2) (o : List Int) (hl : gs.length ≤ 1000000) : Ev M1 (.pure 13 [gsA fl gs, isA fm o]) (.tup [.int .i64 (Sp.lengthV gs o), .int .i64 (Sp.lengthE gs o)]) [] := by
  refine call13 (v13 fl fm gs o _ ⟨hl, fun h => ?_, fun h => ⟨by omega, fun k => ?_, fun k => ?_⟩⟩)
  · have e : Sp.lengthE gs o = Sp.checkE gs 200 := if_neg h
    rw [Sp.lengthV, e, if_neg h]
  · have h := Classical.not_not.1 h
    have e : Sp.lengthE gs o = 1 := by rw [Sp.lengthE, if_pos h, if_neg k]
    rw [Sp.lengthV, e, if_neg (by simp)]
  · have h := Classical.not_not.1 h
    have k := Classical.not_not.1 k
    have e : Sp.lengthE gs o = 0 := by rw [Sp.lengthE, if_pos h, if_pos k]
    obtain ⟨c1, c2⟩ := check_okG h
    obtain ⟨c3, c4⟩ := isOrd_okO k
    exact ⟨c1, c3, by omega, by rw [Sp.lengthV, e, if_pos rfl]⟩
end Go.Av
