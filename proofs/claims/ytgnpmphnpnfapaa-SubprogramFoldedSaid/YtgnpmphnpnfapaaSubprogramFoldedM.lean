/- 'SubprogramFolded' returns true for all blocks and numbers: the given statement 'Rows.SubprogramFoldedSaid', without conditions. -/
import Derived.Test.YtgnpmphnpnfapaaParta2cc627fb9
namespace Go.Proofs.Ytgnpmphnpnfapaa
open Go.Av Go.RowKit Go.WideShapes Go.ChangeShapes

set_option maxRecDepth 100000 in
theorem subprogramFolded_lifted (os : Os) (started : os.Started) (H : Type) (enc : TypeId × Value → H) :
    ReturnsInHanded {} Try.checked os 6 .any (Rows.subprogramFoldedSpec.pre6 enc Try.prog Try.f6 Rows.subprogramFoldedRow.domain false) (Rows.subprogramFoldedSpec.post enc Try.prog Try.f6 false true false false) := by
  refine returnsInHanded_of_change (C := Try.checked) ownGo started (by kernel_rfl) Try.func6
    (ChangeSpec.witness6 (enc := enc) (C := Try.checked) false ⟨#[], #[.slice none 0 0, .int .u8 0, .int .u8 0], []⟩ 8 (by kernel_rfl) (by kernel_rfl) (by kernel_rfl) (by kernel_rfl)) ?_
  intro W base args ds gs before hval hW _ _
  refine law_post (M := M1) (P := Try.prog) (n := 5 + 1 + 1 + 1 + 1 + 1) (tb := 4) rfl (by kernel_rfl) laidOut rfl (by kernel_rfl) Try.underlying4 ?_ ?_ ?_ hval hW
  · rw [Try.params6]
    intro t ht
    simp only [List.mem_cons, List.not_mem_nil, or_false] at ht
    rcases ht with rfl | rfl | rfl <;> exact ⟨by kernel_rfl, by kernel_rfl, of_decide_eq_true (by kernel_rfl)⟩
  · rw [Try.params6]
    intro ds hds
    match ds, hds with
    | [d0, d1, d2], _ => rfl
  · rw [Try.params6]
    intro ass hl h
    match ass, hl with
    | [a0, a1, a2], _ =>
      obtain ⟨l, rfl⟩ := sublocks_ty (h 0 27 a0 rfl rfl)
      obtain ⟨m, rfl, m1, m2⟩ := ty_int Try.underlying5 (h 1 5 a1 rfl rfl)
      obtain ⟨n, rfl, n1, n2⟩ := ty_int Try.underlying5 (h 2 5 a2 rfl rfl)
      simp only [List.zip_cons_cons, List.zip_nil_right, List.map_cons, List.map_nil, pack27, pack5]
      exact ev6 l m n ⟨m1, m2⟩ ⟨n1, n2⟩

theorem subprogramFolded_proved : Rows.SubprogramFoldedSaid :=
  OpenClaim.holds_of_wide 6 Try.f6 rfl rfl rfl rfl rfl rfl rfl ⟨rfl, rfl, rfl, rfl, rfl⟩ rfl rfl rfl rfl rfl (by kernel_rfl) Try.func6 (by kernel_rfl)
    (of_decide_eq_true (by kernel_rfl)) (by unfold Func.isWrapper; first | (rw [if_pos (by decide +kernel)]; kernel_rfl) | (rw [if_neg (by decide +kernel)]; exact ⟨rfl, rfl⟩))
    (fun os started H enc _ => subprogramFolded_lifted os started H enc)
#print axioms subprogramFolded_proved
end Go.Proofs.Ytgnpmphnpnfapaa
