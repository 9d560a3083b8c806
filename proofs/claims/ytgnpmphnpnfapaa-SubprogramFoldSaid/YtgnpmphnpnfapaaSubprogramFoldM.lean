/- 'SubprogramFold' returns true for all blocks, numbers and lengths: the given statement 'Rows.SubprogramFoldSaid', without conditions. -/
import Derived.Test.YtgnpmphnpnfapaaPartfaf39ef79c
namespace Go.Proofs.Ytgnpmphnpnfapaa
open Go.Av Go.RowKit Go.WideShapes Go.ChangeShapes

set_option maxRecDepth 100000 in
theorem subprogramFold_lifted (os : Os) (started : os.Started) (H : Type) (enc : TypeId × Value → H) :
    ReturnsInHanded {} Try.checked os 5 .any (Rows.subprogramFoldSpec.pre6 enc Try.prog Try.f5 Rows.subprogramFoldRow.domain false) (Rows.subprogramFoldSpec.post enc Try.prog Try.f5 false true false false) := by
  refine returnsInHanded_of_change (C := Try.checked) ownGo started (by kernel_rfl) Try.func5
    (ChangeSpec.witness6 (enc := enc) (C := Try.checked) false ⟨#[], #[.slice none 0 0, .int .i64 0, .int .i64 0], []⟩ 8 (by kernel_rfl) (by kernel_rfl) (by kernel_rfl) (by kernel_rfl)) ?_
  intro W base args ds gs before hval hW _ _
  refine law_post (M := M1) (P := Try.prog) (n := 5 + 1 + 1 + 1 + 1 + 1) (tb := 4) rfl (by kernel_rfl) laidOut rfl (by kernel_rfl) Try.underlying4 ?_ ?_ ?_ hval hW
  · rw [Try.params5]
    intro t ht
    simp only [List.mem_cons, List.not_mem_nil, or_false] at ht
    rcases ht with rfl | rfl | rfl <;> exact ⟨by kernel_rfl, by kernel_rfl, of_decide_eq_true (by kernel_rfl)⟩
  · rw [Try.params5]
    intro ds hds
    match ds, hds with
    | [d0, d1, d2], _ => rfl
  · rw [Try.params5]
    intro ass hl h
    match ass, hl with
    | [a0, a1, a2], _ =>
      obtain ⟨l, rfl⟩ := sublocks_ty (h 0 27 a0 rfl rfl)
      obtain ⟨m, rfl, _⟩ := ty_int Try.underlying2 (h 1 2 a1 rfl rfl)
      obtain ⟨n, rfl, n1, n2⟩ := ty_int Try.underlying3 (h 2 3 a2 rfl rfl)
      simp only [List.zip_cons_cons, List.zip_nil_right, List.map_cons, List.map_nil, pack2, pack27, pack3]
      exact ev5 l m n n2

theorem subprogramFold_proved : Rows.SubprogramFoldSaid :=
  OpenClaim.holds_of_wide 5 Try.f5 rfl rfl rfl rfl rfl rfl rfl ⟨rfl, rfl, rfl, rfl, rfl⟩ rfl rfl rfl rfl rfl (by kernel_rfl) Try.func5 (by kernel_rfl)
    (of_decide_eq_true (by kernel_rfl)) (by unfold Func.isWrapper; first | (rw [if_pos (by decide +kernel)]; kernel_rfl) | (rw [if_neg (by decide +kernel)]; exact ⟨rfl, rfl⟩))
    (fun os started H enc _ => subprogramFold_lifted os started H enc)
#print axioms subprogramFold_proved
end Go.Proofs.Ytgnpmphnpnfapaa
