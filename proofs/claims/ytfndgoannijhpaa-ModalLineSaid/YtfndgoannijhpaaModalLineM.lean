/- 'ModalLine' returns true for all states: the given statement 'Rows.ModalLineSaid', without conditions. -/
import Derived.Test.YtfndgoannijhpaaPart62b58243b9
namespace Go.Proofs.Ytfndgoannijhpaa
open Go.Av Go.RowKit Go.WideShapes Go.ChangeShapes

set_option maxRecDepth 100000 in
theorem modalLine_lifted (os : Os) (started : os.Started) (H : Type) (enc : TypeId × Value → H) :
    ReturnsInHanded {} Try.checked os 10 .any (Rows.modalLineSpec.pre6 enc Try.prog Try.f10 Rows.modalLineRow.domain false) (Rows.modalLineSpec.post enc Try.prog Try.f10 false true false false) := by
  refine returnsInHanded_of_change (C := Try.checked) ownGo started (by kernel_rfl) Try.func10
    (ChangeSpec.witness6 (enc := enc) (C := Try.checked) false ⟨#[], #[.agg #[.int .i64 0, .int .i64 0, .int .i64 0, .int .i64 0, .int .i64 0, .int .i64 0, .int .i64 0, .int .i64 0], .agg #[.int .i64 0, .int .i64 0, .int .i64 0, .int .i64 0, .int .i64 0, .int .i64 0, .int .i64 0, .int .i64 0]], []⟩ 8 (by kernel_rfl) (by kernel_rfl) (by kernel_rfl) (by kernel_rfl)) ?_
  intro W base args ds gs before hval hW _ _
  refine law_post (M := M1) (P := Try.prog) (n := 4 + 1 + 1) (tb := 4) rfl (by kernel_rfl) laidOut rfl (by kernel_rfl) Try.underlying4 ?_ ?_ ?_ hval hW
  · rw [Try.params10]
    intro t ht
    simp only [List.mem_cons, List.not_mem_nil, or_false] at ht
    rcases ht with rfl | rfl <;> exact ⟨by kernel_rfl, by kernel_rfl, of_decide_eq_true (by kernel_rfl)⟩
  · rw [Try.params10]
    intro ds hds
    match ds, hds with
    | [d0, d1], _ => rfl
  · rw [Try.params10]
    intro ass hl h
    match ass, hl with
    | [a0, a1], _ =>
      obtain ⟨x0, x1, x2, x3, x4, x5, x6, x7, rfl⟩ := state_ty (h 0 65 a0 rfl rfl)
      obtain ⟨y0, y1, y2, y3, y4, y5, y6, y7, rfl⟩ := state_ty (h 1 65 a1 rfl rfl)
      simp only [List.zip_cons_cons, List.zip_nil_right, List.map_cons, List.map_nil, pack65]
      exact ml_ev ..

theorem modalLine_proved : Rows.ModalLineSaid :=
  OpenClaim.holds_of_wide 10 Try.f10 rfl rfl rfl rfl rfl rfl rfl ⟨rfl, rfl, rfl, rfl, rfl⟩ rfl rfl rfl rfl rfl (by kernel_rfl) Try.func10 (by kernel_rfl)
    (of_decide_eq_true (by kernel_rfl)) (by unfold Func.isWrapper; first | (rw [if_pos (by decide +kernel)]; kernel_rfl) | (rw [if_neg (by decide +kernel)]; exact ⟨rfl, rfl⟩))
    (fun os started H enc _ => modalLine_lifted os started H enc)
#print axioms modalLine_proved
end Go.Proofs.Ytfndgoannijhpaa
