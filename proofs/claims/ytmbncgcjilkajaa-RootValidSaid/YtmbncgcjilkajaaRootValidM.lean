/- 'RootValid' returns true for all roots: the given statement 'Rows.RootValidSaid', without conditions. -/
import Derived.Test.YtmbncgcjilkajaaPartaeb486f7bc
namespace Go.Proofs.Ytmbncgcjilkajaa
open Go.Av Go.RowKit Go.WideShapes Go.ChangeShapes

set_option maxRecDepth 100000 in
theorem rootValid_lifted (os : Os) (started : os.Started) (H : Type) (enc : TypeId × Value → H) :
    ReturnsInHanded {} Try.checked os 4 .any (Rows.rootValidSpec.pre6 enc Try.prog Try.f4 Rows.rootValidRow.domain false) (Rows.rootValidSpec.post enc Try.prog Try.f4 false true false false) := by
  refine returnsInHanded_of_change (C := Try.checked) ownGo started (by kernel_rfl) Try.func4
    (ChangeSpec.witness6 (enc := enc) (C := Try.checked) false ⟨#[], #[.agg #[.bool false, .slice none 0 0, .bool false, .slice none 0 0, .bool false, .slice none 0 0, .bool false, .slice none 0 0, .bool false, .slice none 0 0, .bool false, .slice none 0 0]], []⟩ 8 (by kernel_rfl) (by kernel_rfl) (by kernel_rfl) (by kernel_rfl)) ?_
  intro W base args ds gs before hval hW _ _
  refine law_post (M := M1) (P := Try.prog) (n := 5 + 1 + 1 + 1 + 1 + 1) (tb := 4) rfl (by kernel_rfl) laidOut rfl (by kernel_rfl) Try.underlying4 ?_ ?_ ?_ hval hW
  · rw [Try.params4]
    intro t ht
    simp only [List.mem_cons, List.not_mem_nil, or_false] at ht
    rcases ht with rfl <;> exact ⟨by kernel_rfl, by kernel_rfl, of_decide_eq_true (by kernel_rfl)⟩
  · rw [Try.params4]
    intro ds hds
    match ds, hds with
    | [d0], _ => rfl
  · rw [Try.params4]
    intro ass hl h
    match ass, hl with
    | [a0], _ =>
      obtain ⟨s1, t1, s2, t2, s3, t3, x1, y1, x2, y2, x3, y3, rfl, ⟨p1, q1⟩, ⟨p2, q2⟩, ⟨p3, q3⟩⟩ := root_ty (h 0 30 a0 rfl rfl)
      simp only [List.zip_cons_cons, List.zip_nil_right, List.map_cons, List.map_nil, pack30]
      exact ev4 _ _ _ _ _ _ _ _ _ _ _ _ _ _ _ _ _ _ ⟨⟨by omega, p1, q1⟩, ⟨by omega, p2, q2⟩, ⟨by omega, p3, q3⟩⟩

theorem rootValid_proved : Rows.RootValidSaid :=
  OpenClaim.holds_of_wide 4 Try.f4 rfl rfl rfl rfl rfl rfl rfl ⟨rfl, rfl, rfl, rfl, rfl⟩ rfl rfl rfl rfl rfl (by kernel_rfl) Try.func4 (by kernel_rfl)
    (of_decide_eq_true (by kernel_rfl)) (by unfold Func.isWrapper; first | (rw [if_pos (by decide +kernel)]; kernel_rfl) | (rw [if_neg (by decide +kernel)]; exact ⟨rfl, rfl⟩))
    (fun os started H enc _ => rootValid_lifted os started H enc)
#print axioms rootValid_proved
end Go.Proofs.Ytmbncgcjilkajaa
