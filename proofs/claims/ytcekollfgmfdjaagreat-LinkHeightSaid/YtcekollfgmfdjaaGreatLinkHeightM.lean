/- 'LinkHeight' returns true for all setups, positions and numbers: the given statement 'Rows.LinkHeightSaid', without conditions. -/
import Derived.Test.YtcekollfgmfdjaaGreatPartb8a4563fee
namespace Go.Proofs.YtcekollfgmfdjaaGreat
open Go.Av Go.RowKit Go.WideShapes Go.ChangeShapes

set_option maxRecDepth 100000 in
theorem linkHeight_lifted (os : Os) (started : os.Started) (H : Type) (enc : TypeId × Value → H) :
    ReturnsInHanded {} Tryz.checked os 3 .any (Rows.linkHeightSpec.pre6 enc Tryz.prog Tryz.f3 Rows.linkHeightRow.domain false) (Rows.linkHeightSpec.post enc Tryz.prog Tryz.f3 false true false false) := by
  refine returnsInHanded_of_change (C := Tryz.checked) ownGo started (by kernel_rfl) Tryz.func3
    (ChangeSpec.witness6 (enc := enc) (C := Tryz.checked) false ⟨#[], #[.agg #[.int .i64 0, .int .i64 0, .int .i64 0, .int .i64 0, .int .i64 0, .int .i64 0, .slice none 0 0, .int .i64 0], .agg #[.int .i64 0, .int .i64 0, .int .i64 0, .int .i64 0], .agg #[.int .i64 0, .int .i64 0]], []⟩ 8 (by kernel_rfl) (by kernel_rfl) (by kernel_rfl) (by kernel_rfl)) ?_
  intro W base args ds gs before hval hW _ _
  refine law_post (M := M1) (P := Tryz.prog) (n := 5 + 1 + 1 + 1 + 1) (tb := 4) rfl (by kernel_rfl) laidOut rfl (by kernel_rfl) Tryz.underlying4 ?_ ?_ ?_ hval hW
  · rw [Tryz.params3]
    intro t ht
    simp only [List.mem_cons, List.not_mem_nil, or_false] at ht
    rcases ht with rfl | rfl | rfl <;> exact ⟨by kernel_rfl, by kernel_rfl, of_decide_eq_true (by kernel_rfl)⟩
  · rw [Tryz.params3]
    intro ds hds
    match ds, hds with
    | [d0, d1, d2], _ => rfl
  · rw [Tryz.params3]
    intro ass hl h
    match ass, hl with
    | [a0, a1, a2], _ =>
      obtain ⟨u0, v0, u1, v1, th, gp, o, sf, rfl⟩ := setup_ty (h 0 24 a0 rfl rfl)
      obtain ⟨ax, ay, bx, by_, rfl⟩ := grid2_ty (h 1 27 a1 rfl rfl)
      obtain ⟨r, z, rfl⟩ := two_ty (h 2 28 a2 rfl rfl)
      simp only [List.zip_cons_cons, List.zip_nil_right, List.map_cons, List.map_nil, pack24, pack27, pack28]
      exact lh_ev false o u0 v0 u1 v1 th gp sf ax ay bx by_ r z

theorem linkHeight_proved : Rows.LinkHeightSaid :=
  OpenClaim.holds_of_wide 3 Tryz.f3 rfl rfl rfl rfl rfl rfl rfl ⟨rfl, rfl, rfl, rfl, rfl⟩ rfl rfl rfl rfl rfl (by kernel_rfl) Tryz.func3 (by kernel_rfl)
    (of_decide_eq_true (by kernel_rfl)) (by unfold Func.isWrapper; first | (rw [if_pos (by decide +kernel)]; kernel_rfl) | (rw [if_neg (by decide +kernel)]; exact ⟨rfl, rfl⟩))
    (fun os started H enc _ => linkHeight_lifted os started H enc)
#print axioms linkHeight_proved
end Go.Proofs.YtcekollfgmfdjaaGreat
