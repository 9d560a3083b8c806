/- 'RootEnclose' returns true for all roots and precisions: the given statement 'Rows.RootEncloseSaid', without conditions. -/
import Derived.Test.YtmbncgcjilkajaaGreatPartbf6307b8be
namespace Go.Proofs.YtmbncgcjilkajaaGreat
open Go.Av Go.RowKit Go.WideShapes Go.ChangeShapes

set_option maxRecDepth 100000 in
theorem rootEnclose_lifted (os : Os) (started : os.Started) (H : Type) (enc : TypeId × Value → H) :
    ReturnsInHanded {} Tryz.checked os 5 .any (Rows.rootEncloseSpec.pre6 enc Tryz.prog Tryz.f5 Rows.rootEncloseRow.domain false) (Rows.rootEncloseSpec.post enc Tryz.prog Tryz.f5 false true false false) := by
  refine returnsInHanded_of_change (C := Tryz.checked) ownGo started (by kernel_rfl) Tryz.func5
    (ChangeSpec.witness6 (enc := enc) (C := Tryz.checked) false ⟨#[], #[.agg #[.bool false, .slice none 0 0, .bool false, .slice none 0 0, .bool false, .slice none 0 0, .bool false, .slice none 0 0, .bool false, .slice none 0 0, .bool false, .slice none 0 0], .int .i64 0], []⟩ 8 (by kernel_rfl) (by kernel_rfl) (by kernel_rfl) (by kernel_rfl)) ?_
  intro W base args ds gs before hval hW _ _
  refine law_post (M := M1) (P := Tryz.prog) (n := 5 + 1 + 1 + 1 + 1 + 1) (tb := 4) rfl (by kernel_rfl) laidOut rfl (by kernel_rfl) Tryz.underlying4 ?_ ?_ ?_ hval hW
  · rw [Tryz.params5]
    intro t ht
    simp only [List.mem_cons, List.not_mem_nil, or_false] at ht
    rcases ht with rfl | rfl <;> exact ⟨by kernel_rfl, by kernel_rfl, of_decide_eq_true (by kernel_rfl)⟩
  · rw [Tryz.params5]
    intro ds hds
    match ds, hds with
    | [d0, d1], _ => rfl
  · rw [Tryz.params5]
    intro ass hl h
    match ass, hl with
    | [a0, a1], _ =>
      obtain ⟨s1, t1, s2, t2, s3, t3, x1, y1, x2, y2, x3, y3, rfl, ⟨p1, q1⟩, ⟨p2, q2⟩, ⟨p3, q3⟩⟩ := root_ty (h 0 28 a0 rfl rfl)
      obtain ⟨z, rfl, _⟩ := ty_int Tryz.underlying3 (h 1 3 a1 rfl rfl)
      simp only [List.zip_cons_cons, List.zip_nil_right, List.map_cons, List.map_nil, pack28, pack3]
      exact ev5 _ _ _ _ _ _ _ _ _ _ _ _ _ _ _ _ _ _  _ ⟨⟨by omega, by omega⟩, ⟨p1, q1⟩, ⟨p2, q2⟩, p3, q3⟩

theorem rootEnclose_proved : Rows.RootEncloseSaid :=
  OpenClaim.holds_of_wide 5 Tryz.f5 rfl rfl rfl rfl rfl rfl rfl ⟨rfl, rfl, rfl, rfl, rfl⟩ rfl rfl rfl rfl rfl (by kernel_rfl) Tryz.func5 (by kernel_rfl)
    (of_decide_eq_true (by kernel_rfl)) (by unfold Func.isWrapper; first | (rw [if_pos (by decide +kernel)]; kernel_rfl) | (rw [if_neg (by decide +kernel)]; exact ⟨rfl, rfl⟩))
    (fun os started H enc _ => rootEnclose_lifted os started H enc)
#print axioms rootEnclose_proved
end Go.Proofs.YtmbncgcjilkajaaGreat
