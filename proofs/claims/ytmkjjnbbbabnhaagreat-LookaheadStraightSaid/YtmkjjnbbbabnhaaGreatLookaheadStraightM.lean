/- 'LookaheadStraight' returns true for all distances: the given statement 'Rows.LookaheadStraightSaid', without conditions. -/
import Derived.Test.YtmkjjnbbbabnhaaGreatPartf5d6ded934
namespace Go.Proofs.YtmkjjnbbbabnhaaGreat
open Go.Av Go.RowKit Go.WideShapes Go.ChangeShapes

set_option maxRecDepth 100000 in
theorem lookaheadStraight_lifted (os : Os) (started : os.Started) (H : Type) (enc : TypeId × Value → H) :
    ReturnsInHanded {} Tryz.checked os 5 .any (Rows.lookaheadStraightSpec.pre6 enc Tryz.prog Tryz.f5 Rows.lookaheadStraightRow.domain false) (Rows.lookaheadStraightSpec.post enc Tryz.prog Tryz.f5 false true false false) := by
  refine returnsInHanded_of_change (C := Tryz.checked) ownGo started (by kernel_rfl) Tryz.func5
    (ChangeSpec.witness6 (enc := enc) (C := Tryz.checked) false ⟨#[], #[.int .i64 0, .int .i64 0, .int .i64 0], []⟩ 8 (by kernel_rfl) (by kernel_rfl) (by kernel_rfl) (by kernel_rfl)) ?_
  intro W base args ds gs before hval hW _ _
  refine law_post (M := M1) (P := Tryz.prog) (n := 5 + 1 + 1 + 1) (tb := 4) rfl (by kernel_rfl) laidOut rfl (by kernel_rfl) Tryz.underlying4 ?_ ?_ ?_ hval hW
  · rw [Tryz.params5]
    intro t ht
    simp only [List.mem_cons, List.not_mem_nil, or_false] at ht
    rcases ht with rfl | rfl | rfl <;> exact ⟨by kernel_rfl, by kernel_rfl, of_decide_eq_true (by kernel_rfl)⟩
  · rw [Tryz.params5]
    intro ds hds
    match ds, hds with
    | [d0, d1, d2], _ => rfl
  · rw [Tryz.params5]
    intro ass hl h
    match ass, hl with
    | [a0, a1, a2], _ =>
      obtain ⟨n0, rfl, l0, u0⟩ := ty_int Tryz.underlying2 (h 0 2 a0 rfl rfl)
      obtain ⟨n1, rfl, l1, u1⟩ := ty_int Tryz.underlying2 (h 1 2 a1 rfl rfl)
      obtain ⟨n2, rfl, l2, u2⟩ := ty_int Tryz.underlying2 (h 2 2 a2 rfl rfl)
      simp only [List.zip_cons_cons, List.zip_nil_right, List.map_cons, List.map_nil, pack2]
      exact ev5 _ _ _

theorem lookaheadStraight_proved : Rows.LookaheadStraightSaid :=
  OpenClaim.holds_of_wide 5 Tryz.f5 rfl rfl rfl rfl rfl rfl rfl ⟨rfl, rfl, rfl, rfl, rfl⟩ rfl rfl rfl rfl rfl (by kernel_rfl) Tryz.func5 (by kernel_rfl)
    (of_decide_eq_true (by kernel_rfl)) (by unfold Func.isWrapper; first | (rw [if_pos (by decide +kernel)]; kernel_rfl) | (rw [if_neg (by decide +kernel)]; exact ⟨rfl, rfl⟩))
    (fun os started H enc _ => lookaheadStraight_lifted os started H enc)
#print axioms lookaheadStraight_proved
end Go.Proofs.YtmkjjnbbbabnhaaGreat
