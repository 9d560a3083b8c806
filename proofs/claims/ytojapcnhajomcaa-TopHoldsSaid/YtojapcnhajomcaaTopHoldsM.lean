/- 'TopHolds' returns true for all trips and feed holds: the given statement 'Rows.TopHoldsSaid', without conditions. -/
import Derived.Test.YtojapcnhajomcaaPartd8ab16253a
namespace Go.Proofs.Ytojapcnhajomcaa
open Go.Av Go.RowKit Go.WideShapes Go.ChangeShapes

set_option maxRecDepth 100000 in
theorem topHolds_lifted (os : Os) (started : os.Started) (H : Type) (enc : TypeId × Value → H) :
    ReturnsInHanded {} Try.checked os 3 .any (Rows.topHoldsSpec.pre6 enc Try.prog Try.f3 Rows.topHoldsRow.domain false) (Rows.topHoldsSpec.post enc Try.prog Try.f3 false true false false) := by
  refine returnsInHanded_of_change (C := Try.checked) ownGo started (by kernel_rfl) Try.func3
    (ChangeSpec.witness6 (enc := enc) (C := Try.checked) false ⟨#[], #[.agg #[.int .i16 0, .int .i16 0, .int .i16 0, .slice none 0 0, .int .i64 0, .int .i64 0, .int .i64 0], .slice none 0 0], []⟩ 8 (by kernel_rfl) (by kernel_rfl) (by kernel_rfl) (by kernel_rfl)) ?_
  intro W base args ds gs before hval hW _ _
  refine law_post (M := M1) (P := Try.prog) (n := 5 + 1 + 1 + 1 + 1) (tb := 4) rfl (by kernel_rfl) laidOut rfl (by kernel_rfl) Try.underlying4 ?_ ?_ ?_ hval hW
  · rw [Try.params3]
    intro t ht
    simp only [List.mem_cons, List.not_mem_nil, or_false] at ht
    rcases ht with rfl | rfl <;> exact ⟨by kernel_rfl, by kernel_rfl, of_decide_eq_true (by kernel_rfl)⟩
  · rw [Try.params3]
    intro ds hds
    match ds, hds with
    | [d0, d1], _ => rfl
  · rw [Try.params3]
    intro ass hl h
    match ass, hl with
    | [a0, a1], _ =>
      obtain ⟨x, y, z, W, S, A, j, rfl, hW⟩ := cttrip_ty (h 0 28 a0 rfl rfl)
      obtain ⟨U, rfl, hU⟩ := ctbytes_ty (h 1 29 a1 rfl rfl)
      simp only [List.zip_cons_cons, List.zip_nil_right, List.map_cons, List.map_nil, pack28, pack29]
      exact holds_law ev8 x y z false W S A j false U hW hU

theorem topHolds_proved : Rows.TopHoldsSaid :=
  OpenClaim.holds_of_wide 3 Try.f3 rfl rfl rfl rfl rfl rfl rfl ⟨rfl, rfl, rfl, rfl, rfl⟩ rfl rfl rfl rfl rfl (by kernel_rfl) Try.func3 (by kernel_rfl)
    (of_decide_eq_true (by kernel_rfl)) (by unfold Func.isWrapper; first | (rw [if_pos (by decide +kernel)]; kernel_rfl) | (rw [if_neg (by decide +kernel)]; exact ⟨rfl, rfl⟩))
    (fun os started H enc _ => topHolds_lifted os started H enc)
#print axioms topHolds_proved
end Go.Proofs.Ytojapcnhajomcaa
