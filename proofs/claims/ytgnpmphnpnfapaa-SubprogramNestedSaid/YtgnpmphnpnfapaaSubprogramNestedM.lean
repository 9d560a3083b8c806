/- 'SubprogramNested' returns true for all numbers: the given statement 'Rows.SubprogramNestedSaid', without conditions. -/
import Derived.Test.YtgnpmphnpnfapaaPartbc0caec0e6
namespace Go.Proofs.Ytgnpmphnpnfapaa
open Go.Av Go.RowKit Go.WideShapes Go.ChangeShapes

set_option maxRecDepth 100000 in
theorem subprogramNested_lifted (os : Os) (started : os.Started) (H : Type) (enc : TypeId × Value → H) :
    ReturnsInHanded {} Try.checked os 8 .any (Rows.subprogramNestedSpec.pre6 enc Try.prog Try.f8 Rows.subprogramNestedRow.domain false) (Rows.subprogramNestedSpec.post enc Try.prog Try.f8 false true false false) := by
  refine returnsInHanded_of_change (C := Try.checked) ownGo started (by kernel_rfl) Try.func8
    (ChangeSpec.witness6 (enc := enc) (C := Try.checked) false ⟨#[], #[.int .u8 0, .int .u8 0, .bool false], []⟩ 8 (by kernel_rfl) (by kernel_rfl) (by kernel_rfl) (by kernel_rfl)) ?_
  intro W base args ds gs before hval hW _ _
  refine law_post (M := M1) (P := Try.prog) (n := 5 + 1 + 1 + 1 + 1 + 1) (tb := 4) rfl (by kernel_rfl) laidOut rfl (by kernel_rfl) Try.underlying4 ?_ ?_ ?_ hval hW
  · rw [Try.params8]
    intro t ht
    simp only [List.mem_cons, List.not_mem_nil, or_false] at ht
    rcases ht with rfl | rfl | rfl <;> exact ⟨by kernel_rfl, by kernel_rfl, of_decide_eq_true (by kernel_rfl)⟩
  · rw [Try.params8]
    intro ds hds
    match ds, hds with
    | [d0, d1, d2], _ => rfl
  · rw [Try.params8]
    intro ass hl h
    match ass, hl with
    | [a0, a1, a2], _ =>
      obtain ⟨m, rfl, m1, m2⟩ := ty_int Try.underlying5 (h 0 5 a0 rfl rfl)
      obtain ⟨n, rfl, n1, n2⟩ := ty_int Try.underlying5 (h 1 5 a1 rfl rfl)
      obtain ⟨k, rfl⟩ := ty_bool Try.underlying4 (h 2 4 a2 rfl rfl)
      simp only [List.zip_cons_cons, List.zip_nil_right, List.map_cons, List.map_nil, pack4, pack5]
      exact ev8 m n k ⟨m1, m2⟩ ⟨n1, n2⟩

theorem subprogramNested_proved : Rows.SubprogramNestedSaid :=
  OpenClaim.holds_of_wide 8 Try.f8 rfl rfl rfl rfl rfl rfl rfl ⟨rfl, rfl, rfl, rfl, rfl⟩ rfl rfl rfl rfl rfl (by kernel_rfl) Try.func8 (by kernel_rfl)
    (of_decide_eq_true (by kernel_rfl)) (by unfold Func.isWrapper; first | (rw [if_pos (by decide +kernel)]; kernel_rfl) | (rw [if_neg (by decide +kernel)]; exact ⟨rfl, rfl⟩))
    (fun os started H enc _ => subprogramNested_lifted os started H enc)
#print axioms subprogramNested_proved
end Go.Proofs.Ytgnpmphnpnfapaa
