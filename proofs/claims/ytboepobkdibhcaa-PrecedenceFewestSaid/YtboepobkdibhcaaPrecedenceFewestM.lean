/- 'PrecedenceFewest' returns true for every relation, all tools and orders: the given statement 'Rows.PrecedenceFewestSaid', without conditions. -/
import Derived.Test.YtboepobkdibhcaaPartdb09776cec
namespace Go.Proofs.Ytboepobkdibhcaa
open Go.Av Go.RowKit Go.WideShapes Go.ChangeShapes

set_option maxRecDepth 100000 in
theorem precedenceFewest_lifted (os : Os) (started : os.Started) (H : Type) (enc : TypeId × Value → H) :
    ReturnsInHanded {} Try.checked os 7 .any (Rows.precedenceFewestSpec.pre6 enc Try.prog Try.f7 Rows.precedenceFewestRow.domain false) (Rows.precedenceFewestSpec.post enc Try.prog Try.f7 false true false false) := by
  refine returnsInHanded_of_change (C := Try.checked) ownGo started (by kernel_rfl) Try.func7
    (ChangeSpec.witness6 (enc := enc) (C := Try.checked) false ⟨#[], #[.slice none 0 0, .slice none 0 0, .slice none 0 0], []⟩ 8 (by kernel_rfl) (by kernel_rfl) (by kernel_rfl) (by kernel_rfl)) ?_
  intro W base args ds gs before hval hW _ _
  refine law_post (M := M1) (P := Try.prog) (n := 4 + 1 + 1 + 1) (tb := 4) rfl (by kernel_rfl) laidOut rfl (by kernel_rfl) Try.underlying4 ?_ ?_ ?_ hval hW
  · rw [Try.params7]
    intro t ht
    simp only [List.mem_cons, List.not_mem_nil, or_false] at ht
    rcases ht with rfl | rfl | rfl <;> exact ⟨by kernel_rfl, by kernel_rfl, of_decide_eq_true (by kernel_rfl)⟩
  · rw [Try.params7]
    intro ds hds
    match ds, hds with
    | [d0, d1, d2], _ => rfl
  · rw [Try.params7]
    intro ass hl h
    match ass, hl with
    | [a0, a1, a2], _ =>
      obtain ⟨ps, rfl⟩ := pairs_ty (h 0 22 a0 rfl rfl)
      obtain ⟨l, rfl⟩ := ints_ty (h 1 30 a1 rfl rfl)
      obtain ⟨o, rfl⟩ := ints_ty (h 2 30 a2 rfl rfl)
      simp only [List.zip_cons_cons, List.zip_nil_right, List.map_cons, List.map_nil, pack22, pack30]
      exact ev7 false false false ps l o

theorem precedenceFewest_proved : Rows.PrecedenceFewestSaid :=
  OpenClaim.holds_of_wide 7 Try.f7 rfl rfl rfl rfl rfl rfl rfl ⟨rfl, rfl, rfl, rfl, rfl⟩ rfl rfl rfl rfl rfl (by kernel_rfl) Try.func7 (by kernel_rfl)
    (of_decide_eq_true (by kernel_rfl)) (by unfold Func.isWrapper; first | (rw [if_pos (by decide +kernel)]; kernel_rfl) | (rw [if_neg (by decide +kernel)]; exact ⟨rfl, rfl⟩))
    (fun os started H enc _ => precedenceFewest_lifted os started H enc)
#print axioms precedenceFewest_proved
end Go.Proofs.Ytboepobkdibhcaa
