/- 'TourLength'. -/
import Derived.Test.YtablgkhmbcegkaaTvE
namespace Go.Av
open Go.Proofs
theorem ev3 (fl fm : Bool) (gs : List G2) (o : List Int) : Ev M1 (.pure 3 [gsA fl gs, isA fm o]) (.bool true) [] := by
  refine call3 (v3 fl fm gs o _ ⟨fun _ => rfl, fun h => ⟨by omega, fun k => ?_, fun k => by omega, fun k => by omega, fun k => absurd rfl k.2, fun _ => by simp⟩⟩)
  have hg := (check_okG k.2).1
  exact ⟨(okG_at hg _).1, (okG_at hg _).2, (okG_at hg _).1, (okG_at hg _).2⟩
end Go.Av
