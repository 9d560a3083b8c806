/- 'CycleValid' returns true for every cycle: the given statement 'Rows.CycleValidSaid', without conditions. -/
import Derived.Test.YtfndgoannijhpaaAvLaw
import Derived.Test.YtfndgoannijhpaaCycA
import Derived.Test.YtfndgoannijhpaaAw
namespace Go.Av
open Go.Proofs

theorem ev3 (code r z q rate ini : Int) (high : Bool) : Ev M1 (.pure 3 [cyc code r z q rate ini high]) (.bool true) [] := by
  refine pure_wp Try.f3 fi3 (by kernel_rfl) (by kernel_rfl) (by kernel_rfl) (by kernel_rfl) ?_ rfl
  obtain ⟨X, hX, hl⟩ := depths_ints code r z q rate ini
  have h12 := ev12 code r z q rate ini high
  have h13 := ev13 code r z q rate ini high
  unfold depthsA at h12 h13
  rw [hl] at h12 h13
  apply v3 code r z q rate ini high true (X.map (.int .i64)) (validE code r z q rate ini) (X.map (.int .i64)) (validE code r z q rate ini) (validE code r z q rate ini) (validE code r z q rate ini) true _ ev11
  · intro h; simp at h
  · intro _; exact h12
  · intro _; exact h13
  · intro _; exact ev14 ..
  · intro _; exact ev15 ..
  · intro _ _
    have := ev16 X X false false (by omega)
    simpa using this
  · intro _; exact q_bool (by simp)

theorem cyc_ty {P : Program} {n t : Nat} {fs : Array Field} (hu : P.underlying t = some (.struct fs)) (hf : fs.toList.map (·.type) = [2, 2, 2, 2, 2, 2, 4]) (h2 : P.underlying 2 = some (.int .i64)) (h4 : P.underlying 4 = some .bool) {cs : List AV} (h : Ty P (n + 1 + 1) t cs) :
    ∃ code r z q rate ini high, cs = [.int .i64 code, .int .i64 r, .int .i64 z, .int .i64 q, .int .i64 rate, .int .i64 ini, .bool high] := by
  have h := ty_struct hu h
  rw [hf] at h
  obtain ⟨a0, b0, rfl, h0, a1, b1, rfl, h1, a2, b2, rfl, h2', a3, b3, rfl, h3, a4, b4, rfl, h4', a5, b5, rfl, h5, a6, b6, rfl, h6, rfl⟩ := h
  obtain ⟨x0, rfl, _⟩ := ty_int h2 h0
  obtain ⟨x1, rfl, _⟩ := ty_int h2 h1
  obtain ⟨x2, rfl, _⟩ := ty_int h2 h2'
  obtain ⟨x3, rfl, _⟩ := ty_int h2 h3
  obtain ⟨x4, rfl, _⟩ := ty_int h2 h4'
  obtain ⟨x5, rfl, _⟩ := ty_int h2 h5
  obtain ⟨x6, rfl⟩ := ty_bool h4 h6
  exact ⟨x0, x1, x2, x3, x4, x5, x6, rfl⟩

theorem pack23 (cs : List AV) : packA Try.prog 23 cs = .agg cs := by
  simp [packA, aggT, Try.underlying23]
end Go.Av

namespace Go.Proofs.Ytfndgoannijhpaa
open Go.Av Go.RowKit Go.WideShapes Go.ChangeShapes

theorem own : ownKnob Try.prog.godebug = none := by kernel_rfl
theorem laidOut : laidOutB Try.prog = true := by kernel_rfl

set_option maxRecDepth 100000 in
theorem cycleValid_lifted (os : Os) (started : os.Started) (H : Type) (enc : TypeId × Value → H) :
    ReturnsInHanded {} Try.checked os 3 .any (Rows.cycleValidSpec.pre6 enc Try.prog Try.f3 Rows.cycleValidRow.domain false) (Rows.cycleValidSpec.post enc Try.prog Try.f3 false true false false) := by
  refine returnsInHanded_of_change (C := Try.checked) own started (by kernel_rfl) Try.func3
    (ChangeSpec.witness6 (enc := enc) (C := Try.checked) false ⟨#[], #[.agg #[.int .i64 0, .int .i64 0, .int .i64 0, .int .i64 0, .int .i64 0, .int .i64 0, .bool false]], []⟩ 8 (by kernel_rfl) (by kernel_rfl) (by kernel_rfl) (by kernel_rfl)) ?_
  intro W base args ds gs before hval hW _ _
  refine law_post (M := M1) (P := Try.prog) (n := 6 + 1 + 1) (tb := 4) rfl (by kernel_rfl) laidOut rfl (by kernel_rfl) Try.underlying4 ?_ ?_ ?_ hval hW
  · rw [Try.params3]
    intro t ht
    simp only [List.mem_singleton] at ht
    subst ht
    exact ⟨by kernel_rfl, by kernel_rfl, of_decide_eq_true (by kernel_rfl)⟩
  · rw [Try.params3]
    intro ds hds
    match ds, hds with
    | [d], _ => rfl
  · rw [Try.params3]
    intro ass hl h
    match ass, hl with
    | [a], _ =>
      obtain ⟨x0, x1, x2, x3, x4, x5, x6, rfl⟩ := cyc_ty Try.underlying23 rfl Try.underlying2 Try.underlying4 (h 0 23 a rfl rfl)
      simp only [List.zip_cons_cons, List.zip_nil_right, List.map_cons, List.map_nil, pack23]
      exact ev3 ..

theorem cycleValid_proved : Rows.CycleValidSaid :=
  OpenClaim.holds_of_wide 3 Try.f3 rfl rfl rfl rfl rfl rfl rfl ⟨rfl, rfl, rfl, rfl, rfl⟩ rfl rfl rfl rfl rfl (by kernel_rfl) Try.func3 (by kernel_rfl)
    (of_decide_eq_true (by kernel_rfl)) (by unfold Func.isWrapper; first | (rw [if_pos (by decide +kernel)]; kernel_rfl) | (rw [if_neg (by decide +kernel)]; exact ⟨rfl, rfl⟩))
    (fun os started H enc _ => cycleValid_lifted os started H enc)
#print axioms cycleValid_proved
end Go.Proofs.Ytfndgoannijhpaa
