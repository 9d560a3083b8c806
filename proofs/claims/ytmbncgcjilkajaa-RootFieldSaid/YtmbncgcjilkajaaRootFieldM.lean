/- 'RootField' returns true for all descriptions: the given statement 'Rows.RootFieldSaid', without conditions. -/
import Derived.Test.YtmbncgcjilkajaaPartef41934bc5
namespace Go.Proofs.Ytmbncgcjilkajaa
open Go.Av Go.RowKit Go.WideShapes Go.ChangeShapes

set_option maxRecDepth 100000 in
theorem rootField_lifted (os : Os) (started : os.Started) (H : Type) (enc : TypeId × Value → H) :
    ReturnsInHanded {} Try.checked os 5 .any (Rows.rootFieldSpec.pre6 enc Try.prog Try.f5 Rows.rootFieldRow.domain false) (Rows.rootFieldSpec.post enc Try.prog Try.f5 false true false false) := by
  refine returnsInHanded_of_change (C := Try.checked) ownGo started (by kernel_rfl) Try.func5
    (ChangeSpec.witness6 (enc := enc) (C := Try.checked) false ⟨#[], #[.agg #[.int .i16 0, .int .i16 0, .int .u16 0, .int .u8 0, .int .u8 0, .int .u8 0, .int .i16 0, .int .i16 0, .int .u16 0, .int .u8 0, .int .u8 0, .int .u8 0, .int .i16 0, .int .i16 0, .int .u16 0, .int .u8 0, .int .u8 0, .int .u8 0]], []⟩ 8 (by kernel_rfl) (by kernel_rfl) (by kernel_rfl) (by kernel_rfl)) ?_
  intro W base args ds gs before hval hW _ _
  refine law_post (M := M1) (P := Try.prog) (n := 5 + 1 + 1 + 1) (tb := 4) rfl (by kernel_rfl) laidOut rfl (by kernel_rfl) Try.underlying4 ?_ ?_ ?_ hval hW
  · rw [Try.params5]
    intro t ht
    simp only [List.mem_cons, List.not_mem_nil, or_false] at ht
    rcases ht with rfl <;> exact ⟨by kernel_rfl, by kernel_rfl, of_decide_eq_true (by kernel_rfl)⟩
  · rw [Try.params5]
    intro ds hds
    match ds, hds with
    | [d0], _ => rfl
  · rw [Try.params5]
    intro ass hl h
    match ass, hl with
    | [a0], _ =>
      obtain ⟨a1, b1, c1, d1, e1, f1, a2, b2, c2, d2, e2, f2, a3, b3, c3, d3, e3, f3, rfl, k1, k2, k3⟩ := surds_ty (h 0 46 a0 rfl rfl)
      simp only [List.zip_cons_cons, List.zip_nil_right, List.map_cons, List.map_nil, pack46]
      exact ev5 _ _ _ _ _ _ _ _ _ _ _ _ _ _ _ _ _ _ k1 k2 k3

theorem rootField_proved : Rows.RootFieldSaid :=
  OpenClaim.holds_of_wide 5 Try.f5 rfl rfl rfl rfl rfl rfl rfl ⟨rfl, rfl, rfl, rfl, rfl⟩ rfl rfl rfl rfl rfl (by kernel_rfl) Try.func5 (by kernel_rfl)
    (of_decide_eq_true (by kernel_rfl)) (by unfold Func.isWrapper; first | (rw [if_pos (by decide +kernel)]; kernel_rfl) | (rw [if_neg (by decide +kernel)]; exact ⟨rfl, rfl⟩))
    (fun os started H enc _ => rootField_lifted os started H enc)
#print axioms rootField_proved
end Go.Proofs.Ytmbncgcjilkajaa
