/- 'ProbeDisplaced' returns true for all tables and displacements: the given statement 'Rows.ProbeDisplacedSaid', without conditions. -/
import Derived.Test.YtabdlpimphgfiaaPart39b58f3055
namespace Go.Proofs.Ytabdlpimphgfiaa
open Go.Av Go.RowKit Go.WideShapes Go.ChangeShapes

set_option maxRecDepth 100000 in
theorem probeDisplaced_lifted (os : Os) (started : os.Started) (H : Type) (enc : TypeId × Value → H) :
    ReturnsInHanded {} Try.checked os 7 .any (Rows.probeDisplacedSpec.pre6 enc Try.prog Try.f7 Rows.probeDisplacedRow.domain false) (Rows.probeDisplacedSpec.post enc Try.prog Try.f7 false true false false) := by
  refine returnsInHanded_of_change (C := Try.checked) ownGo started (by kernel_rfl) Try.func7
    (ChangeSpec.witness6 (enc := enc) (C := Try.checked) false ⟨#[], #[.agg #[.int .i64 0, .int .i64 0, .int .i64 0, .int .i64 0, .int .i64 0, .int .i64 0, .int .i64 0, .int .i64 0, .int .i64 0, .int .i64 0, .int .i64 0, .int .i64 0, .int .i64 0, .int .i64 0, .int .i64 0, .int .i64 0, .int .i64 0, .int .i64 0, .slice none 0 0], .int .i64 0, .agg #[.int .i32 0, .int .i32 0, .int .i32 0, .int .i32 0, .bool false, .bool false, .int .u16 0, .int .u16 0]], []⟩ 8 (by kernel_rfl) (by kernel_rfl) (by kernel_rfl) (by kernel_rfl)) ?_
  intro W base args ds gs before hval hW _ _
  refine law_post (M := M1) (P := Try.prog) (n := 5 + 1 + 1 + 1 + 1) (tb := 4) rfl (by kernel_rfl) laidOut rfl (by kernel_rfl) Try.underlying4 ?_ ?_ ?_ hval hW
  · rw [Try.params7]
    intro t ht
    simp only [List.mem_cons, List.not_mem_nil, or_false] at ht
    rcases ht with rfl | rfl | rfl <;> exact ⟨by kernel_rfl, by kernel_rfl, of_decide_eq_true (by kernel_rfl)⟩
  · rw [Try.params7]
    intro ds hds
    match ds, hds with
    | [d0, d1, d2], _ => rfl
  · rw [Try.params7]
    intro ass hl h
    match ass, hl with
    | [a0, a1, a2], _ =>
      obtain ⟨ta0, ta1, ta2, ta3, ta4, ta5, ta6, ta7, ta8, ta9, ta10, ta11, ta12, ta13, ta14, ta15, ta16, ta17, l, rfl⟩ := table_ty (h 0 60 a0 rfl rfl)
      obtain ⟨c, rfl, _⟩ := Zeb Try.underlying2 (h 1 2 a1 rfl rfl)
      obtain ⟨c1, c2, b1, b2, g1, g2, r, m, rfl, hr, hm⟩ := displ_ty (h 2 63 a2 rfl rfl)
      simp only [List.zip_cons_cons, List.zip_nil_right, List.map_cons, List.map_nil, pack2, pack60, pack63]
      exact ev7 false l ta0 ta1 ta2 ta3 ta4 ta5 ta6 ta7 ta8 ta9 ta10 ta11 ta12 ta13 ta14 ta15 ta16 ta17 c c1 c2 b1 b2 g1 g2 r m hr hm

theorem probeDisplaced_proved : Rows.ProbeDisplacedSaid :=
  OpenClaim.holds_of_wide 7 Try.f7 rfl rfl rfl rfl rfl rfl rfl ⟨rfl, rfl, rfl, rfl, rfl⟩ rfl rfl rfl rfl rfl (by kernel_rfl) Try.func7 (by kernel_rfl)
    (of_decide_eq_true (by kernel_rfl)) (by unfold Func.isWrapper; first | (rw [if_pos (by decide +kernel)]; kernel_rfl) | (rw [if_neg (by decide +kernel)]; exact ⟨rfl, rfl⟩))
    (fun os started H enc _ => probeDisplaced_lifted os started H enc)
#print axioms probeDisplaced_proved
end Go.Proofs.Ytabdlpimphgfiaa
