/- 'RootMake' returns true for all numbers: the given statement 'Rows.RootMakeSaid', without conditions. -/
import Derived.Test.YtmbncgcjilkajaaPart7f8da6fa60
namespace Go.Proofs.Ytmbncgcjilkajaa
open Go.Av Go.RowKit Go.WideShapes Go.ChangeShapes

set_option maxRecDepth 100000 in
theorem rootMake_lifted (os : Os) (started : os.Started) (H : Type) (enc : TypeId × Value → H) :
    ReturnsInHanded {} Try.checked os 3 .any (Rows.rootMakeSpec.pre6 enc Try.prog Try.f3 Rows.rootMakeRow.domain false) (Rows.rootMakeSpec.post enc Try.prog Try.f3 false true false false) := by
  refine returnsInHanded_of_change (C := Try.checked) ownGo started (by kernel_rfl) Try.func3
    (ChangeSpec.witness6 (enc := enc) (C := Try.checked) false ⟨#[], #[.agg #[.bool false, .slice none 0 0, .bool false, .slice none 0 0], .agg #[.bool false, .slice none 0 0, .bool false, .slice none 0 0], .agg #[.bool false, .slice none 0 0, .bool false, .slice none 0 0]], []⟩ 8 (by kernel_rfl) (by kernel_rfl) (by kernel_rfl) (by kernel_rfl)) ?_
  intro W base args ds gs before hval hW _ _
  refine law_post (M := M1) (P := Try.prog) (n := 5 + 1 + 1 + 1 + 1) (tb := 4) rfl (by kernel_rfl) laidOut rfl (by kernel_rfl) Try.underlying4 ?_ ?_ ?_ hval hW
  · rw [Try.params3]
    intro t ht
    simp only [List.mem_cons, List.not_mem_nil, or_false] at ht
    rcases ht with rfl | rfl | rfl <;> exact ⟨by kernel_rfl, by kernel_rfl, of_decide_eq_true (by kernel_rfl)⟩
  · rw [Try.params3]
    intro ds hds
    match ds, hds with
    | [d0, d1, d2], _ => rfl
  · rw [Try.params3]
    intro ass hl h
    match ass, hl with
    | [a0, a1, a2], _ =>
      obtain ⟨s1, t1, x1, y1, rfl, p1, q1⟩ := rat_ty (h 0 26 a0 rfl rfl)
      obtain ⟨s2, t2, x2, y2, rfl, p2, q2⟩ := rat_ty (h 1 26 a1 rfl rfl)
      obtain ⟨s3, t3, x3, y3, rfl, p3, q3⟩ := rat_ty (h 2 26 a2 rfl rfl)
      simp only [List.zip_cons_cons, List.zip_nil_right, List.map_cons, List.map_nil, pack26]
      exact ev3 _ _ _ _ _ _ _ _ _ _ _ _ _ _ _ _ _ _ ⟨⟨by omega, p1, q1⟩, ⟨by omega, p2, q2⟩, ⟨by omega, p3, q3⟩⟩

theorem rootMake_proved : Rows.RootMakeSaid :=
  OpenClaim.holds_of_wide 3 Try.f3 rfl rfl rfl rfl rfl rfl rfl ⟨rfl, rfl, rfl, rfl, rfl⟩ rfl rfl rfl rfl rfl (by kernel_rfl) Try.func3 (by kernel_rfl)
    (of_decide_eq_true (by kernel_rfl)) (by unfold Func.isWrapper; first | (rw [if_pos (by decide +kernel)]; kernel_rfl) | (rw [if_neg (by decide +kernel)]; exact ⟨rfl, rfl⟩))
    (fun os started H enc _ => rootMake_lifted os started H enc)
#print axioms rootMake_proved
end Go.Proofs.Ytmbncgcjilkajaa
