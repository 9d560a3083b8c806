/- 'CycleTravel' returns true for every cycle and every position: the given statement 'Rows.CycleTravelSaid', without conditions. -/
import Derived.Test.YtfndgoannijhpaaLawC
import Derived.Test.YtfndgoannijhpaaCycE
namespace Go.Proofs.Ytfndgoannijhpaa
open Go.Av Go.RowKit Go.WideShapes Go.ChangeShapes

set_option maxRecDepth 100000 in
theorem cycleTravel_lifted (os : Os) (started : os.Started) (H : Type) (enc : TypeId × Value → H) :
    ReturnsInHanded {} Try.checked os 5 .any (Rows.cycleTravelSpec.pre6 enc Try.prog Try.f5 Rows.cycleTravelRow.domain false) (Rows.cycleTravelSpec.post enc Try.prog Try.f5 false true false false) := by
  refine returnsInHanded_of_change (C := Try.checked) ownGo started (by kernel_rfl) Try.func5
    (ChangeSpec.witness6 (enc := enc) (C := Try.checked) false ⟨#[], #[.agg #[.int .i64 0, .int .i64 0, .int .i64 0, .int .i64 0, .int .i64 0, .int .i64 0, .bool false], .agg #[.int .i64 0, .int .i64 0]], []⟩ 8 (by kernel_rfl) (by kernel_rfl) (by kernel_rfl) (by kernel_rfl)) ?_
  intro W base args ds gs before hval hW _ _
  refine law_post (M := M1) (P := Try.prog) (n := 6 + 1 + 1) (tb := 4) rfl (by kernel_rfl) laidOut rfl (by kernel_rfl) Try.underlying4 ?_ ?_ ?_ hval hW
  · rw [Try.params5]
    intro t ht
    simp only [List.mem_cons, List.not_mem_nil, or_false] at ht
    rcases ht with rfl | rfl <;> exact ⟨by kernel_rfl, by kernel_rfl, of_decide_eq_true (by kernel_rfl)⟩
  · rw [Try.params5]
    intro ds hds
    match ds, hds with
    | [d, e], _ => rfl
  · rw [Try.params5]
    intro ass hl h
    match ass, hl with
    | [a, b], _ =>
      obtain ⟨x0, x1, x2, x3, x4, x5, x6, rfl⟩ := cyc_ty Try.underlying23 rfl Try.underlying2 Try.underlying4 (h 0 23 a rfl rfl)
      obtain ⟨y0, y1, rfl⟩ := ints2_ty Try.underlying43 rfl Try.underlying2 (h 1 43 b rfl rfl)
      simp only [List.zip_cons_cons, List.zip_nil_right, List.map_cons, List.map_nil, pack23, pack43]
      exact ev5 ..

theorem cycleTravel_proved : Rows.CycleTravelSaid :=
  OpenClaim.holds_of_wide 5 Try.f5 rfl rfl rfl rfl rfl rfl rfl ⟨rfl, rfl, rfl, rfl, rfl⟩ rfl rfl rfl rfl rfl (by kernel_rfl) Try.func5 (by kernel_rfl)
    (of_decide_eq_true (by kernel_rfl)) (by unfold Func.isWrapper; first | (rw [if_pos (by decide +kernel)]; kernel_rfl) | (rw [if_neg (by decide +kernel)]; exact ⟨rfl, rfl⟩))
    (fun os started H enc _ => cycleTravel_lifted os started H enc)
#print axioms cycleTravel_proved
end Go.Proofs.Ytfndgoannijhpaa
