/- 'SubprogramInline' returns true for every program and number: the given statement 'Rows.SubprogramInlineSaid', without conditions. -/
import Derived.Test.YtgnpmphnpnfapaaPart8a0c5c07e5
namespace Go.Proofs.Ytgnpmphnpnfapaa
open Go.Av Go.RowKit Go.WideShapes Go.ChangeShapes

set_option maxRecDepth 100000 in
theorem subprogramInline_lifted (os : Os) (started : os.Started) (H : Type) (enc : TypeId × Value → H) :
    ReturnsInHanded {} Try.checked os 4 .any (Rows.subprogramInlineSpec.pre6 enc Try.prog Try.f4 Rows.subprogramInlineRow.domain false) (Rows.subprogramInlineSpec.post enc Try.prog Try.f4 false true false false) := by
  refine returnsInHanded_of_change (C := Try.checked) ownGo started (by kernel_rfl) Try.func4
    (ChangeSpec.witness6 (enc := enc) (C := Try.checked) false ⟨#[], #[.agg #[.slice none 0 0, .slice none 0 0], .int .u8 0], []⟩ 8 (by kernel_rfl) (by kernel_rfl) (by kernel_rfl) (by kernel_rfl)) ?_
  intro W base args ds gs before hval hW _ _
  refine law_post (M := M1) (P := Try.prog) (n := 5 + 1 + 1 + 1 + 1 + 1 + 1 + 1 + 1) (tb := 4) rfl (by kernel_rfl) laidOut rfl (by kernel_rfl) Try.underlying4 ?_ ?_ ?_ hval hW
  · rw [Try.params4]
    intro t ht
    simp only [List.mem_cons, List.not_mem_nil, or_false] at ht
    rcases ht with rfl | rfl <;> exact ⟨by kernel_rfl, by kernel_rfl, of_decide_eq_true (by kernel_rfl)⟩
  · rw [Try.params4]
    intro ds hds
    match ds, hds with
    | [d0, d1], _ => rfl
  · rw [Try.params4]
    intro ass hl h
    match ass, hl with
    | [a0, a1], _ =>
      obtain ⟨l, s, rfl⟩ := suprog_ty (h 0 34 a0 rfl rfl)
      obtain ⟨m, rfl, m1, m2⟩ := ty_int Try.underlying5 (h 1 5 a1 rfl rfl)
      simp only [List.zip_cons_cons, List.zip_nil_right, List.map_cons, List.map_nil, pack34, pack5]
      exact ev4 l s m ⟨m1, m2⟩

theorem subprogramInline_proved : Rows.SubprogramInlineSaid :=
  OpenClaim.holds_of_wide 4 Try.f4 rfl rfl rfl rfl rfl rfl rfl ⟨rfl, rfl, rfl, rfl, rfl⟩ rfl rfl rfl rfl rfl (by kernel_rfl) Try.func4 (by kernel_rfl)
    (of_decide_eq_true (by kernel_rfl)) (by unfold Func.isWrapper; first | (rw [if_pos (by decide +kernel)]; kernel_rfl) | (rw [if_neg (by decide +kernel)]; exact ⟨rfl, rfl⟩))
    (fun os started H enc _ => subprogramInline_lifted os started H enc)
#print axioms subprogramInline_proved
end Go.Proofs.Ytgnpmphnpnfapaa
