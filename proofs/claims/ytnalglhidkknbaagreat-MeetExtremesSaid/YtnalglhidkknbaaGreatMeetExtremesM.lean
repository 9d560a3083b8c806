/- 'MeetExtremes' returns true for all circles and numbers: the given statement 'Rows.MeetExtremesSaid', without conditions. -/
import Derived.Test.YtnalglhidkknbaaGreatPart0082389ada
namespace Go.Proofs.YtnalglhidkknbaaGreat
open Go.Av Go.RowKit Go.WideShapes Go.ChangeShapes

set_option maxRecDepth 100000 in
theorem meetExtremes_lifted (os : Os) (started : os.Started) (H : Type) (enc : TypeId × Value → H) :
    ReturnsInHanded {} Tryz.checked os 8 .any (Rows.meetExtremesSpec.pre6 enc Tryz.prog Tryz.f8 Rows.meetExtremesRow.domain false) (Rows.meetExtremesSpec.post enc Tryz.prog Tryz.f8 false true false false) := by
  refine returnsInHanded_of_change (C := Tryz.checked) ownGo started (by kernel_rfl) Tryz.func8
    (ChangeSpec.witness6 (enc := enc) (C := Tryz.checked) false ⟨#[], #[.agg #[.bool false, .slice none 0 0, .bool false, .slice none 0 0, .bool false, .slice none 0 0, .bool false, .slice none 0 0, .bool false, .slice none 0 0, .bool false, .slice none 0 0], .agg #[.bool false, .slice none 0 0, .bool false, .slice none 0 0]], []⟩ 8 (by kernel_rfl) (by kernel_rfl) (by kernel_rfl) (by kernel_rfl)) ?_
  intro W base args ds gs before hval hW _ _
  refine law_post (M := M1) (P := Tryz.prog) (n := 5 + 1 + 1 + 1 + 1 + 1) (tb := 4) rfl (by kernel_rfl) laidOut rfl (by kernel_rfl) Tryz.underlying4 ?_ ?_ ?_ hval hW
  · rw [Tryz.params8]
    intro t ht
    simp only [List.mem_cons, List.not_mem_nil, or_false] at ht
    rcases ht with rfl | rfl <;> exact ⟨by kernel_rfl, by kernel_rfl, of_decide_eq_true (by kernel_rfl)⟩
  · rw [Tryz.params8]
    intro ds hds
    match ds, hds with
    | [d0, d1], _ => rfl
  · rw [Tryz.params8]
    intro ass hl h
    match ass, hl with
    | [a0, a1], _ =>
      obtain ⟨s1, t1, s2, t2, s3, t3, x1, y1, x2, y2, x3, y3, rfl, ⟨p1, r1⟩, ⟨p2, r2⟩, ⟨p3, r3⟩⟩ := circle_ty (h 0 38 a0 rfl rfl)
      obtain ⟨s4, t4, x4, y4, rfl, p4, r4⟩ := rat_ty (h 1 26 a1 rfl rfl)
      simp only [List.zip_cons_cons, List.zip_nil_right, List.map_cons, List.map_nil, pack26, pack38]
      exact ev8 _ _ _ _ _ _ _ _ _ _ _ _ _ _ _ _ ⟨⟨p1, r1⟩, ⟨p2, r2⟩, p3, r3⟩ ⟨by omega, p4, r4⟩

theorem meetExtremes_proved : Rows.MeetExtremesSaid :=
  OpenClaim.holds_of_wide 8 Tryz.f8 rfl rfl rfl rfl rfl rfl rfl ⟨rfl, rfl, rfl, rfl, rfl⟩ rfl rfl rfl rfl rfl (by kernel_rfl) Tryz.func8 (by kernel_rfl)
    (of_decide_eq_true (by kernel_rfl)) (by unfold Func.isWrapper; first | (rw [if_pos (by decide +kernel)]; kernel_rfl) | (rw [if_neg (by decide +kernel)]; exact ⟨rfl, rfl⟩))
    (fun os started H enc _ => meetExtremes_lifted os started H enc)
#print axioms meetExtremes_proved
end Go.Proofs.YtnalglhidkknbaaGreat
