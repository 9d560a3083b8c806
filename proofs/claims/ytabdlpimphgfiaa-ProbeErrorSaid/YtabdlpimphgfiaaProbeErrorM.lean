/- 'ProbeError' returns true for all movements, walls and ways: the given statement 'Rows.ProbeErrorSaid', without conditions. -/
import Derived.Test.YtabdlpimphgfiaaPart7167b27921
namespace Go.Proofs.Ytabdlpimphgfiaa
open Go.Av Go.RowKit Go.WideShapes Go.ChangeShapes

set_option maxRecDepth 100000 in
theorem probeError_lifted (os : Os) (started : os.Started) (H : Type) (enc : TypeId × Value → H) :
    ReturnsInHanded {} Try.checked os 4 .any (Rows.probeErrorSpec.pre6 enc Try.prog Try.f4 Rows.probeErrorRow.domain false) (Rows.probeErrorSpec.post enc Try.prog Try.f4 false true false false) := by
  refine returnsInHanded_of_change (C := Try.checked) ownGo started (by kernel_rfl) Try.func4
    (ChangeSpec.witness6 (enc := enc) (C := Try.checked) false ⟨#[], #[.agg #[.int .i64 0, .int .i64 0, .int .i64 0, .int .i64 0, .int .i64 0, .int .i64 0], .agg #[.bool false, .slice none 0 0, .bool false, .slice none 0 0], .int .i64 0], []⟩ 8 (by kernel_rfl) (by kernel_rfl) (by kernel_rfl) (by kernel_rfl)) ?_
  intro W base args ds gs before hval hW _ _
  refine law_post (M := M1) (P := Try.prog) (n := 5 + 1 + 1 + 1 + 1) (tb := 4) rfl (by kernel_rfl) laidOut rfl (by kernel_rfl) Try.underlying4 ?_ ?_ ?_ hval hW
  · rw [Try.params4]
    intro t ht
    simp only [List.mem_cons, List.not_mem_nil, or_false] at ht
    rcases ht with rfl | rfl | rfl <;> exact ⟨by kernel_rfl, by kernel_rfl, of_decide_eq_true (by kernel_rfl)⟩
  · rw [Try.params4]
    intro ds hds
    match ds, hds with
    | [d0, d1, d2], _ => rfl
  · rw [Try.params4]
    intro ass hl h
    match ass, hl with
    | [a0, a1, a2], _ =>
      obtain ⟨x, y, z, a, s, r, rfl⟩ := way_ty (h 0 25 a0 rfl rfl)
      obtain ⟨s1, t1, x1, y1, rfl, p1, q1⟩ := rat_ty (h 1 30 a1 rfl rfl)
      obtain ⟨m, rfl, m1, m2⟩ := ZeO Try.underlying2 (h 2 2 a2 rfl rfl)
      simp only [List.zip_cons_cons, List.zip_nil_right, List.map_cons, List.map_nil, pack2, pack25, pack30]
      exact ev4 _ _ _ _ _ _ _ _ _ _ _ ⟨by omega, p1, q1⟩ ⟨m1, m2⟩

theorem probeError_proved : Rows.ProbeErrorSaid :=
  OpenClaim.holds_of_wide 4 Try.f4 rfl rfl rfl rfl rfl rfl rfl ⟨rfl, rfl, rfl, rfl, rfl⟩ rfl rfl rfl rfl rfl (by kernel_rfl) Try.func4 (by kernel_rfl)
    (of_decide_eq_true (by kernel_rfl)) (by unfold Func.isWrapper; first | (rw [if_pos (by decide +kernel)]; kernel_rfl) | (rw [if_neg (by decide +kernel)]; exact ⟨rfl, rfl⟩))
    (fun os started H enc _ => probeError_lifted os started H enc)
#print axioms probeError_proved
end Go.Proofs.Ytabdlpimphgfiaa
