/- 'LinkShort' returns true for all boxes, positions and corners: the given statement 'Rows.LinkShortSaid', without conditions. -/
import Derived.Test.YtcekollfgmfdjaaPart39e047659e
namespace Go.Proofs.Ytcekollfgmfdjaa
open Go.Av Go.RowKit Go.WideShapes Go.ChangeShapes

set_option maxRecDepth 100000 in
theorem linkShort_lifted (os : Os) (started : os.Started) (H : Type) (enc : TypeId × Value → H) :
    ReturnsInHanded {} Try.checked os 5 .any (Rows.linkShortSpec.pre6 enc Try.prog Try.f5 Rows.linkShortRow.domain false) (Rows.linkShortSpec.post enc Try.prog Try.f5 false true false false) := by
  refine returnsInHanded_of_change (C := Try.checked) ownGo started (by kernel_rfl) Try.func5
    (ChangeSpec.witness6 (enc := enc) (C := Try.checked) false ⟨#[], #[.slice none 0 0, .agg #[.int .i64 0, .int .i64 0, .int .i64 0, .int .i64 0], .slice none 0 0], []⟩ 8 (by kernel_rfl) (by kernel_rfl) (by kernel_rfl) (by kernel_rfl)) ?_
  intro W base args ds gs before hval hW _ _
  refine law_post (M := M1) (P := Try.prog) (n := 5 + 1 + 1 + 1) (tb := 4) rfl (by kernel_rfl) laidOut rfl (by kernel_rfl) Try.underlying4 ?_ ?_ ?_ hval hW
  · rw [Try.params5]
    intro t ht
    simp only [List.mem_cons, List.not_mem_nil, or_false] at ht
    rcases ht with rfl | rfl | rfl <;> exact ⟨by kernel_rfl, by kernel_rfl, of_decide_eq_true (by kernel_rfl)⟩
  · rw [Try.params5]
    intro ds hds
    match ds, hds with
    | [d0, d1, d2], _ => rfl
  · rw [Try.params5]
    intro ass hl h
    match ass, hl with
    | [a0, a1, a2], _ =>
      obtain ⟨o, rfl⟩ := clamps_ty (h 0 29 a0 rfl rfl)
      obtain ⟨ax, ay, bx, by_, rfl⟩ := grid2_ty (h 1 40 a1 rfl rfl)
      obtain ⟨ks, rfl, hu⟩ := bytes_ty (h 2 41 a2 rfl rfl)
      simp only [List.zip_cons_cons, List.zip_nil_right, List.map_cons, List.map_nil, pack29, pack40, pack41]
      exact ls_ev false o ax ay bx by_ false ks hu

theorem linkShort_proved : Rows.LinkShortSaid :=
  OpenClaim.holds_of_wide 5 Try.f5 rfl rfl rfl rfl rfl rfl rfl ⟨rfl, rfl, rfl, rfl, rfl⟩ rfl rfl rfl rfl rfl (by kernel_rfl) Try.func5 (by kernel_rfl)
    (of_decide_eq_true (by kernel_rfl)) (by unfold Func.isWrapper; first | (rw [if_pos (by decide +kernel)]; kernel_rfl) | (rw [if_neg (by decide +kernel)]; exact ⟨rfl, rfl⟩))
    (fun os started H enc _ => linkShort_lifted os started H enc)
#print axioms linkShort_proved
end Go.Proofs.Ytcekollfgmfdjaa
