/- 'SubprogramCall' returns true for every block: the given statement 'Rows.SubprogramCallSaid', without conditions. -/
import Derived.Test.YtgnpmphnpnfapaaParte34cbb5a89
namespace Go.Proofs.Ytgnpmphnpnfapaa
open Go.Av Go.RowKit Go.WideShapes Go.ChangeShapes

set_option maxRecDepth 100000 in
theorem subprogramCall_lifted (os : Os) (started : os.Started) (H : Type) (enc : TypeId × Value → H) :
    ReturnsInHanded {} Try.checked os 3 .any (Rows.subprogramCallSpec.pre6 enc Try.prog Try.f3 Rows.subprogramCallRow.domain false) (Rows.subprogramCallSpec.post enc Try.prog Try.f3 false true false false) := by
  refine returnsInHanded_of_change (C := Try.checked) ownGo started (by kernel_rfl) Try.func3
    (ChangeSpec.witness6 (enc := enc) (C := Try.checked) false ⟨#[], #[.agg #[.bool false, .slice none 0 0, .string ⟨⟨[]⟩⟩]], []⟩ 8 (by kernel_rfl) (by kernel_rfl) (by kernel_rfl) (by kernel_rfl)) ?_
  intro W base args ds gs before hval hW _ _
  refine law_post (M := M1) (P := Try.prog) (n := 5 + 1 + 1 + 1 + 1) (tb := 4) rfl (by kernel_rfl) laidOut rfl (by kernel_rfl) Try.underlying4 ?_ ?_ ?_ hval hW
  · rw [Try.params3]
    intro t ht
    simp only [List.mem_cons, List.not_mem_nil, or_false] at ht
    rcases ht with rfl <;> exact ⟨by kernel_rfl, by kernel_rfl, of_decide_eq_true (by kernel_rfl)⟩
  · rw [Try.params3]
    intro ds hds
    match ds, hds with
    | [d0], _ => rfl
  · rw [Try.params3]
    intro ass hl h
    match ass, hl with
    | [a0], _ =>
      obtain ⟨sk, ws, cm, rfl⟩ := sublock_ty (h 0 24 a0 rfl rfl)
      simp only [List.zip_cons_cons, List.zip_nil_right, List.map_cons, List.map_nil, pack24]
      exact ev3 ..

theorem subprogramCall_proved : Rows.SubprogramCallSaid :=
  OpenClaim.holds_of_wide 3 Try.f3 rfl rfl rfl rfl rfl rfl rfl ⟨rfl, rfl, rfl, rfl, rfl⟩ rfl rfl rfl rfl rfl (by kernel_rfl) Try.func3 (by kernel_rfl)
    (of_decide_eq_true (by kernel_rfl)) (by unfold Func.isWrapper; first | (rw [if_pos (by decide +kernel)]; kernel_rfl) | (rw [if_neg (by decide +kernel)]; exact ⟨rfl, rfl⟩))
    (fun os started H enc _ => subprogramCall_lifted os started H enc)
#print axioms subprogramCall_proved
end Go.Proofs.Ytgnpmphnpnfapaa
