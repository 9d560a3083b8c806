/- 'MeetMoved' returns true for all lines and circles: the given statement 'Rows.MeetMovedSaid', without conditions. -/
import Derived.Test.YtnalglhidkknbaaGreatPart4eccce6f04
namespace Go.Proofs.YtnalglhidkknbaaGreat
open Go.Av Go.RowKit Go.WideShapes Go.ChangeShapes

set_option maxRecDepth 100000 in
theorem meetMoved_lifted (os : Os) (started : os.Started) (H : Type) (enc : TypeId × Value → H) :
    ReturnsInHanded {} Tryz.checked os 7 .any (Rows.meetMovedSpec.pre6 enc Tryz.prog Tryz.f7 Rows.meetMovedRow.domain false) (Rows.meetMovedSpec.post enc Tryz.prog Tryz.f7 false true false false) := by
  refine returnsInHanded_of_change (C := Tryz.checked) ownGo started (by kernel_rfl) Tryz.func7
    (ChangeSpec.witness6 (enc := enc) (C := Tryz.checked) false ⟨#[], #[.agg #[.bool false, .slice none 0 0, .bool false, .slice none 0 0, .bool false, .slice none 0 0, .bool false, .slice none 0 0, .bool false, .slice none 0 0, .bool false, .slice none 0 0], .agg #[.bool false, .slice none 0 0, .bool false, .slice none 0 0, .bool false, .slice none 0 0, .bool false, .slice none 0 0, .bool false, .slice none 0 0, .bool false, .slice none 0 0], .agg #[.bool false, .slice none 0 0, .bool false, .slice none 0 0, .bool false, .slice none 0 0, .bool false, .slice none 0 0, .bool false, .slice none 0 0, .bool false, .slice none 0 0]], []⟩ 8 (by kernel_rfl) (by kernel_rfl) (by kernel_rfl) (by kernel_rfl)) ?_
  intro W base args ds gs before hval hW _ _
  refine law_post (M := M1) (P := Tryz.prog) (n := 5 + 1 + 1 + 1 + 1 + 1) (tb := 4) rfl (by kernel_rfl) laidOut rfl (by kernel_rfl) Tryz.underlying4 ?_ ?_ ?_ hval hW
  · rw [Tryz.params7]
    intro t ht
    simp only [List.mem_cons, List.not_mem_nil, or_false] at ht
    rcases ht with rfl | rfl | rfl <;> exact ⟨by kernel_rfl, by kernel_rfl, of_decide_eq_true (by kernel_rfl)⟩
  · rw [Tryz.params7]
    intro ds hds
    match ds, hds with
    | [d0, d1, d2], _ => rfl
  · rw [Tryz.params7]
    intro ass hl h
    match ass, hl with
    | [a0, a1, a2], _ =>
      obtain ⟨s1, t1, s2, t2, s3, t3, x1, y1, x2, y2, x3, y3, rfl, ⟨p1, r1⟩, ⟨p2, r2⟩, ⟨p3, r3⟩⟩ := line_ty (h 0 28 a0 rfl rfl)
      obtain ⟨s4, t4, s5, t5, s6, t6, x4, y4, x5, y5, x6, y6, rfl, ⟨p4, r4⟩, ⟨p5, r5⟩, ⟨p6, r6⟩⟩ := circle_ty (h 1 38 a1 rfl rfl)
      obtain ⟨s7, t7, s8, t8, s9, t9, x7, y7, x8, y8, x9, y9, rfl, ⟨p7, r7⟩, ⟨p8, r8⟩, ⟨p9, r9⟩⟩ := circle_ty (h 2 38 a2 rfl rfl)
      simp only [List.zip_cons_cons, List.zip_nil_right, List.map_cons, List.map_nil, pack28, pack38]
      exact ev7 _ _ _ _ _ _ _ _ _ _ _ _ _ _ _ _ _ _ _ _ _ _ _ _ _ _ _ _ _ _ _ _ _ _ _ _ ⟨⟨p1, r1⟩, ⟨p2, r2⟩, p3, r3⟩ ⟨⟨p4, r4⟩, ⟨p5, r5⟩, p6, r6⟩ ⟨⟨p7, r7⟩, ⟨p8, r8⟩, p9, r9⟩

theorem meetMoved_proved : Rows.MeetMovedSaid :=
  OpenClaim.holds_of_wide 7 Tryz.f7 rfl rfl rfl rfl rfl rfl rfl ⟨rfl, rfl, rfl, rfl, rfl⟩ rfl rfl rfl rfl rfl (by kernel_rfl) Tryz.func7 (by kernel_rfl)
    (of_decide_eq_true (by kernel_rfl)) (by unfold Func.isWrapper; first | (rw [if_pos (by decide +kernel)]; kernel_rfl) | (rw [if_neg (by decide +kernel)]; exact ⟨rfl, rfl⟩))
    (fun os started H enc _ => meetMoved_lifted os started H enc)
#print axioms meetMoved_proved
end Go.Proofs.YtnalglhidkknbaaGreat
