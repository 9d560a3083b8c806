/- 'CycleEnds' returns true for every cycle, every position and all lists of positions: the given statement 'Rows.CycleEndsSaid', without conditions. -/
import Derived.Test.YtfndgoannijhpaaLawC
import Derived.Test.YtfndgoannijhpaaCycI
namespace Go.Proofs.Ytfndgoannijhpaa
open Go.Av Go.RowKit Go.WideShapes Go.ChangeShapes

set_option maxRecDepth 100000 in
theorem cycleEnds_lifted (os : Os) (started : os.Started) (H : Type) (enc : TypeId × Value → H) :
    ReturnsInHanded {} Try.checked os 4 .any (Rows.cycleEndsSpec.pre6 enc Try.prog Try.f4 Rows.cycleEndsRow.domain false) (Rows.cycleEndsSpec.post enc Try.prog Try.f4 false true false false) := by
  refine returnsInHanded_of_change (C := Try.checked) ownGo started (by kernel_rfl) Try.func4
    (ChangeSpec.witness6 (enc := enc) (C := Try.checked) false ⟨#[], #[.agg #[.int .i64 0, .int .i64 0, .int .i64 0, .int .i64 0, .int .i64 0, .int .i64 0, .bool false], .agg #[.int .i64 0, .int .i64 0, .int .i64 0], .slice none 0 0], []⟩ 8 (by kernel_rfl) (by kernel_rfl) (by kernel_rfl) (by kernel_rfl)) ?_
  intro W base args ds gs before hval hW _ _
  refine law_post (M := M1) (P := Try.prog) (n := 5 + 1 + 1 + 1) (tb := 4) rfl (by kernel_rfl) laidOut rfl (by kernel_rfl) Try.underlying4 ?_ ?_ ?_ hval hW
  · rw [Try.params4]
    intro t ht
    simp only [List.mem_cons, List.not_mem_nil, or_false] at ht
    rcases ht with rfl | rfl | rfl <;> exact ⟨by kernel_rfl, by kernel_rfl, of_decide_eq_true (by kernel_rfl)⟩
  · rw [Try.params4]
    intro ds hds
    match ds, hds with
    | [d, e, g], _ => rfl
  · rw [Try.params4]
    intro ass hl h
    match ass, hl with
    | [a, b, c], _ =>
      obtain ⟨x0, x1, x2, x3, x4, x5, x6, rfl⟩ := cyc_ty Try.underlying23 rfl Try.underlying2 Try.underlying4 (h 0 23 a rfl rfl)
      obtain ⟨y0, y1, y2, rfl⟩ := ints3_ty Try.underlying36 rfl Try.underlying2 (h 1 36 b rfl rfl)
      obtain ⟨gs, rfl⟩ := grids_ty (h 2 37 c rfl rfl)
      simp only [List.zip_cons_cons, List.zip_nil_right, List.map_cons, List.map_nil, pack23, pack36, pack37]
      exact ev4 ..

theorem cycleEnds_proved : Rows.CycleEndsSaid :=
  OpenClaim.holds_of_wide 4 Try.f4 rfl rfl rfl rfl rfl rfl rfl ⟨rfl, rfl, rfl, rfl, rfl⟩ rfl rfl rfl rfl rfl (by kernel_rfl) Try.func4 (by kernel_rfl)
    (of_decide_eq_true (by kernel_rfl)) (by unfold Func.isWrapper; first | (rw [if_pos (by decide +kernel)]; kernel_rfl) | (rw [if_neg (by decide +kernel)]; exact ⟨rfl, rfl⟩))
    (fun os started H enc _ => cycleEnds_lifted os started H enc)
#print axioms cycleEnds_proved
end Go.Proofs.Ytfndgoannijhpaa
