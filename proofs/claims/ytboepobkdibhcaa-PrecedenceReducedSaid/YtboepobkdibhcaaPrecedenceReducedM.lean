/- 'PrecedenceReduced' returns true for every relation: the given statement 'Rows.PrecedenceReducedSaid', without conditions. -/
import Derived.Test.YtboepobkdibhcaaPart689feac6ae
namespace Go.Proofs.Ytboepobkdibhcaa
open Go.Av Go.RowKit Go.WideShapes Go.ChangeShapes

set_option maxRecDepth 100000 in
theorem precedenceReduced_lifted (os : Os) (started : os.Started) (H : Type) (enc : TypeId × Value → H) :
    ReturnsInHanded {} Try.checked os 10 .any (Rows.precedenceReducedSpec.pre6 enc Try.prog Try.f10 Rows.precedenceReducedRow.domain false) (Rows.precedenceReducedSpec.post enc Try.prog Try.f10 false true false false) := by
  refine returnsInHanded_of_change (C := Try.checked) ownGo started (by kernel_rfl) Try.func10
    (ChangeSpec.witness6 (enc := enc) (C := Try.checked) false ⟨#[], #[.int .i64 0, .slice none 0 0, .int .u8 0], []⟩ 8 (by kernel_rfl) (by kernel_rfl) (by kernel_rfl) (by kernel_rfl)) ?_
  intro W base args ds gs before hval hW _ _
  refine law_post (M := M1) (P := Try.prog) (n := 4 + 1 + 1 + 1) (tb := 4) rfl (by kernel_rfl) laidOut rfl (by kernel_rfl) Try.underlying4 ?_ ?_ ?_ hval hW
  · rw [Try.params10]
    intro t ht
    simp only [List.mem_cons, List.not_mem_nil, or_false] at ht
    rcases ht with rfl | rfl | rfl <;> exact ⟨by kernel_rfl, by kernel_rfl, of_decide_eq_true (by kernel_rfl)⟩
  · rw [Try.params10]
    intro ds hds
    match ds, hds with
    | [d0, d1, d2], _ => rfl
  · rw [Try.params10]
    intro ass hl h
    match ass, hl with
    | [a0, a1, a2], _ =>
      obtain ⟨n, rfl, n1, n2⟩ := ty_int Try.underlying3 (h 0 3 a0 rfl rfl)
      obtain ⟨ps, rfl⟩ := pairs_ty (h 1 22 a1 rfl rfl)
      obtain ⟨i, rfl, i1, i2⟩ := ty_int Try.underlying5 (h 2 5 a2 rfl rfl)
      simp only [List.zip_cons_cons, List.zip_nil_right, List.map_cons, List.map_nil, pack22, pack3, pack5]
      exact ev10 n false ps i ⟨i1, i2⟩

theorem precedenceReduced_proved : Rows.PrecedenceReducedSaid :=
  OpenClaim.holds_of_wide 10 Try.f10 rfl rfl rfl rfl rfl rfl rfl ⟨rfl, rfl, rfl, rfl, rfl⟩ rfl rfl rfl rfl rfl (by kernel_rfl) Try.func10 (by kernel_rfl)
    (of_decide_eq_true (by kernel_rfl)) (by unfold Func.isWrapper; first | (rw [if_pos (by decide +kernel)]; kernel_rfl) | (rw [if_neg (by decide +kernel)]; exact ⟨rfl, rfl⟩))
    (fun os started H enc _ => precedenceReduced_lifted os started H enc)
#print axioms precedenceReduced_proved
end Go.Proofs.Ytboepobkdibhcaa
