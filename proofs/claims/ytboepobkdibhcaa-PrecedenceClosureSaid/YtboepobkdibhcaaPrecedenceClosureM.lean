/- 'PrecedenceClosure' returns true for every relation: the given statement 'Rows.PrecedenceClosureSaid', without conditions. -/
import Derived.Test.YtboepobkdibhcaaParteb39eec75b
namespace Go.Proofs.Ytboepobkdibhcaa
open Go.Av Go.RowKit Go.WideShapes Go.ChangeShapes

set_option maxRecDepth 100000 in
theorem precedenceClosure_lifted (os : Os) (started : os.Started) (H : Type) (enc : TypeId × Value → H) :
    ReturnsInHanded {} Try.checked os 9 .any (Rows.precedenceClosureSpec.pre6 enc Try.prog Try.f9 Rows.precedenceClosureRow.domain false) (Rows.precedenceClosureSpec.post enc Try.prog Try.f9 false true false false) := by
  refine returnsInHanded_of_change (C := Try.checked) ownGo started (by kernel_rfl) Try.func9
    (ChangeSpec.witness6 (enc := enc) (C := Try.checked) false ⟨#[], #[.int .i64 0, .slice none 0 0], []⟩ 8 (by kernel_rfl) (by kernel_rfl) (by kernel_rfl) (by kernel_rfl)) ?_
  intro W base args ds gs before hval hW _ _
  refine law_post (M := M1) (P := Try.prog) (n := 4 + 1 + 1 + 1) (tb := 4) rfl (by kernel_rfl) laidOut rfl (by kernel_rfl) Try.underlying4 ?_ ?_ ?_ hval hW
  · rw [Try.params9]
    intro t ht
    simp only [List.mem_cons, List.not_mem_nil, or_false] at ht
    rcases ht with rfl | rfl <;> exact ⟨by kernel_rfl, by kernel_rfl, of_decide_eq_true (by kernel_rfl)⟩
  · rw [Try.params9]
    intro ds hds
    match ds, hds with
    | [d0, d1], _ => rfl
  · rw [Try.params9]
    intro ass hl h
    match ass, hl with
    | [a0, a1], _ =>
      obtain ⟨n, rfl, n1, n2⟩ := ty_int Try.underlying3 (h 0 3 a0 rfl rfl)
      obtain ⟨ps, rfl⟩ := pairs_ty (h 1 22 a1 rfl rfl)
      simp only [List.zip_cons_cons, List.zip_nil_right, List.map_cons, List.map_nil, pack22, pack3]
      exact ev9 ..

theorem precedenceClosure_proved : Rows.PrecedenceClosureSaid :=
  OpenClaim.holds_of_wide 9 Try.f9 rfl rfl rfl rfl rfl rfl rfl ⟨rfl, rfl, rfl, rfl, rfl⟩ rfl rfl rfl rfl rfl (by kernel_rfl) Try.func9 (by kernel_rfl)
    (of_decide_eq_true (by kernel_rfl)) (by unfold Func.isWrapper; first | (rw [if_pos (by decide +kernel)]; kernel_rfl) | (rw [if_neg (by decide +kernel)]; exact ⟨rfl, rfl⟩))
    (fun os started H enc _ => precedenceClosure_lifted os started H enc)
#print axioms precedenceClosure_proved
end Go.Proofs.Ytboepobkdibhcaa
