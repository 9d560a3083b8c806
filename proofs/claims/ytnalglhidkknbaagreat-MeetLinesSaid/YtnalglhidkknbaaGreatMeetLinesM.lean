/- 'MeetLines' returns true for all lines: the Zac statement 'Rows.MeetLinesSaid', without conditions. -/
import Derived.Test.YtnalglhidkknbaaGreatPart0b50783406
namespace Go.Proofs.YtnalglhidkknbaaGreat
open Go.Av Go.RowKit Go.WideShapes Go.ChangeShapes

set_option maxRecDepth 100000 in
theorem meetLines_lifted (os : Os) (started : os.Started) (H : Type) (enc : TypeId × Value → H) :
    ReturnsInHanded {} Tryz.checked os 3 .any (Rows.meetLinesSpec.pre6 enc Tryz.prog Tryz.f3 Rows.meetLinesRow.domain false) (Rows.meetLinesSpec.post enc Tryz.prog Tryz.f3 false true false false) := by
  refine returnsInHanded_of_change (C := Tryz.checked) ownGo started (by kernel_rfl) Tryz.func3
    (ChangeSpec.witness6 (enc := enc) (C := Tryz.checked) false ⟨#[], #[.agg #[.bool false, .slice none 0 0, .bool false, .slice none 0 0, .bool false, .slice none 0 0, .bool false, .slice none 0 0, .bool false, .slice none 0 0, .bool false, .slice none 0 0], .agg #[.bool false, .slice none 0 0, .bool false, .slice none 0 0, .bool false, .slice none 0 0, .bool false, .slice none 0 0, .bool false, .slice none 0 0, .bool false, .slice none 0 0]], []⟩ 8 (by kernel_rfl) (by kernel_rfl) (by kernel_rfl) (by kernel_rfl)) ?_
  intro W base args ds gs before hval hW _ _
  refine law_post (M := M1) (P := Tryz.prog) (n := 5 + 1 + 1 + 1 + 1 + 1) (tb := 4) rfl (by kernel_rfl) laidOut rfl (by kernel_rfl) Tryz.underlying4 ?_ ?_ ?_ hval hW
  · rw [Tryz.params3]
    intro t ht
    simp only [List.mem_cons, List.not_mem_nil, or_false] at ht
    rcases ht with rfl | rfl <;> exact ⟨by kernel_rfl, by kernel_rfl, of_decide_eq_true (by kernel_rfl)⟩
  · rw [Tryz.params3]
    intro ds hds
    match ds, hds with
    | [d0, d1], _ => rfl
  · rw [Tryz.params3]
    intro ass hl h
    match ass, hl with
    | [a0, a1], _ =>
      obtain ⟨s1, t1, s2, t2, s3, t3, x1, y1, x2, y2, x3, y3, rfl, ⟨p1, r1⟩, ⟨p2, r2⟩, ⟨p3, r3⟩⟩ := line_ty (h 0 28 a0 rfl rfl)
      obtain ⟨s4, t4, s5, t5, s6, t6, x4, y4, x5, y5, x6, y6, rfl, ⟨p4, r4⟩, ⟨p5, r5⟩, ⟨p6, r6⟩⟩ := line_ty (h 1 28 a1 rfl rfl)
      simp only [List.zip_cons_cons, List.zip_nil_right, List.map_cons, List.map_nil, pack28]
      exact ev3 _ _ _ _ _ _ _ _ _ _ _ _ _ _ _ _ _ _ _ _ _ _ _ _ ⟨⟨p1, r1⟩, ⟨p2, r2⟩, p3, r3⟩ ⟨⟨p4, r4⟩, ⟨p5, r5⟩, p6, r6⟩

theorem meetLines_proved : Rows.MeetLinesSaid :=
  OpenClaim.holds_of_wide 3 Tryz.f3 rfl rfl rfl rfl rfl rfl rfl ⟨rfl, rfl, rfl, rfl, rfl⟩ rfl rfl rfl rfl rfl (by kernel_rfl) Tryz.func3 (by kernel_rfl)
    (of_decide_eq_true (by kernel_rfl)) (by unfold Func.isWrapper; first | (rw [if_pos (by decide +kernel)]; kernel_rfl) | (rw [if_neg (by decide +kernel)]; exact ⟨rfl, rfl⟩))
    (fun os started H enc _ => meetLines_lifted os started H enc)
#print axioms meetLines_proved
end Go.Proofs.YtnalglhidkknbaaGreat
