/- 'CycleRead' returns true for every block and all cycles: the given statement 'Rows.CycleReadSaid', without conditions. -/
import Derived.Test.YtfndgoannijhpaaLawR
import Derived.Test.YtfndgoannijhpaaCycR5
namespace Go.Proofs.Ytfndgoannijhpaa
open Go.Av Go.RowKit Go.WideShapes Go.ChangeShapes

set_option maxRecDepth 100000 in
theorem cycleRead_lifted (os : Os) (started : os.Started) (H : Type) (enc : TypeId × Value → H) :
    ReturnsInHanded {} Try.checked os 6 .any (Rows.cycleReadSpec.pre6 enc Try.prog Try.f6 Rows.cycleReadRow.domain false) (Rows.cycleReadSpec.post enc Try.prog Try.f6 false true false false) := by
  refine returnsInHanded_of_change (C := Try.checked) ownGo started (by kernel_rfl) Try.func6
    (ChangeSpec.witness6 (enc := enc) (C := Try.checked) false ⟨#[], #[.agg #[.bool false, .slice none 0 0, .string ⟨⟨[]⟩⟩], .agg #[.int .i64 0, .int .i64 0, .int .i64 0, .int .i64 0, .int .i64 0, .int .i64 0, .bool false], .agg #[.int .i64 0, .int .i64 0, .int .i64 0, .int .i64 0, .int .i64 0, .int .i64 0, .bool false]], []⟩ 8 (by kernel_rfl) (by kernel_rfl) (by kernel_rfl) (by kernel_rfl)) ?_
  intro W base args ds gs before hval hW _ _
  refine law_post (M := M1) (P := Try.prog) (n := 4 + 1 + 1 + 1 + 1) (tb := 4) rfl (by kernel_rfl) laidOut rfl (by kernel_rfl) Try.underlying4 ?_ ?_ ?_ hval hW
  · rw [Try.params6]
    intro t ht
    simp only [List.mem_cons, List.not_mem_nil, or_false] at ht
    rcases ht with rfl | rfl | rfl <;> exact ⟨by kernel_rfl, by kernel_rfl, of_decide_eq_true (by kernel_rfl)⟩
  · rw [Try.params6]
    intro ds hds
    match ds, hds with
    | [d0, d1, d2], _ => rfl
  · rw [Try.params6]
    intro ass hl h
    match ass, hl with
    | [a0, a1, a2], _ =>
      obtain ⟨sk, ws, cm, rfl⟩ := block_ty (h 0 54 a0 rfl rfl)
      obtain ⟨x0, x1, x2, x3, x4, x5, x6, rfl⟩ := cyc_ty Try.underlying23 rfl Try.underlying2 Try.underlying4 (h 1 23 a1 rfl rfl)
      obtain ⟨y0, y1, y2, y3, y4, y5, y6, rfl⟩ := cyc_ty Try.underlying23 rfl Try.underlying2 Try.underlying4 (h 2 23 a2 rfl rfl)
      simp only [List.zip_cons_cons, List.zip_nil_right, List.map_cons, List.map_nil, pack23, pack54]
      exact ev6 ..

theorem cycleRead_proved : Rows.CycleReadSaid :=
  OpenClaim.holds_of_wide 6 Try.f6 rfl rfl rfl rfl rfl rfl rfl ⟨rfl, rfl, rfl, rfl, rfl⟩ rfl rfl rfl rfl rfl (by kernel_rfl) Try.func6 (by kernel_rfl)
    (of_decide_eq_true (by kernel_rfl)) (by unfold Func.isWrapper; first | (rw [if_pos (by decide +kernel)]; kernel_rfl) | (rw [if_neg (by decide +kernel)]; exact ⟨rfl, rfl⟩))
    (fun os started H enc _ => cycleRead_lifted os started H enc)
#print axioms cycleRead_proved
end Go.Proofs.Ytfndgoannijhpaa
