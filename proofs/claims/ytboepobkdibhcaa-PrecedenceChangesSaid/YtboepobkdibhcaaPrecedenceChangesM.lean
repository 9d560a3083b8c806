/- 'PrecedenceChanges' returns true for all lists: the given statement 'Rows.PrecedenceChangesSaid', without conditions. -/
import Derived.Test.YtboepobkdibhcaaPartc8860955f6
namespace Go.Proofs.Ytboepobkdibhcaa
open Go.Av Go.RowKit Go.WideShapes Go.ChangeShapes

set_option maxRecDepth 100000 in
theorem precedenceChanges_lifted (os : Os) (started : os.Started) (H : Type) (enc : TypeId × Value → H) :
    ReturnsInHanded {} Try.checked os 8 .any (Rows.precedenceChangesSpec.pre6 enc Try.prog Try.f8 Rows.precedenceChangesRow.domain false) (Rows.precedenceChangesSpec.post enc Try.prog Try.f8 false true false false) := by
  refine returnsInHanded_of_change (C := Try.checked) ownGo started (by kernel_rfl) Try.func8
    (ChangeSpec.witness6 (enc := enc) (C := Try.checked) false ⟨#[], #[.slice none 0 0, .slice none 0 0], []⟩ 8 (by kernel_rfl) (by kernel_rfl) (by kernel_rfl) (by kernel_rfl)) ?_
  intro W base args ds gs before hval hW _ _
  refine law_post (M := M1) (P := Try.prog) (n := 4 + 1 + 1 + 1) (tb := 4) rfl (by kernel_rfl) laidOut rfl (by kernel_rfl) Try.underlying4 ?_ ?_ ?_ hval hW
  · rw [Try.params8]
    intro t ht
    simp only [List.mem_cons, List.not_mem_nil, or_false] at ht
    rcases ht with rfl | rfl <;> exact ⟨by kernel_rfl, by kernel_rfl, of_decide_eq_true (by kernel_rfl)⟩
  · rw [Try.params8]
    intro ds hds
    match ds, hds with
    | [d0, d1], _ => rfl
  · rw [Try.params8]
    intro ass hl h
    match ass, hl with
    | [a0, a1], _ =>
      obtain ⟨o, rfl⟩ := ints_ty (h 0 30 a0 rfl rfl)
      obtain ⟨l, rfl⟩ := ints_ty (h 1 30 a1 rfl rfl)
      simp only [List.zip_cons_cons, List.zip_nil_right, List.map_cons, List.map_nil, pack30]
      exact ev8 ..

theorem precedenceChanges_proved : Rows.PrecedenceChangesSaid :=
  OpenClaim.holds_of_wide 8 Try.f8 rfl rfl rfl rfl rfl rfl rfl ⟨rfl, rfl, rfl, rfl, rfl⟩ rfl rfl rfl rfl rfl (by kernel_rfl) Try.func8 (by kernel_rfl)
    (of_decide_eq_true (by kernel_rfl)) (by unfold Func.isWrapper; first | (rw [if_pos (by decide +kernel)]; kernel_rfl) | (rw [if_neg (by decide +kernel)]; exact ⟨rfl, rfl⟩))
    (fun os started H enc _ => precedenceChanges_lifted os started H enc)
#print axioms precedenceChanges_proved
end Go.Proofs.Ytboepobkdibhcaa
