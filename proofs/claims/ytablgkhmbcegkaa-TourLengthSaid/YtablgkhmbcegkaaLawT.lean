/- ARGUMENTS of the statements about layer 38. -/
import Derived.Test.YtablgkhmbcegkaaAvLaw
import Derived.Test.YtablgkhmbcegkaaTourA
namespace Go.Av
open Go.Proofs
theorem pack31 (cs : List AV) : packA Try.prog 31 cs = .agg cs := by
  simp [packA, aggT, Try.underlying31]
theorem pack22 (x : AV) : packA Try.prog 22 [x] = x := by
  simp [packA, aggT, Try.underlying22]
theorem pack23 (x : AV) : packA Try.prog 23 [x] = x := by
  simp [packA, aggT, Try.underlying23]
theorem pack3 (x : AV) : packA Try.prog 3 [x] = x := by
  simp [packA, aggT, Try.underlying3]
theorem cells31 : Try.prog.cellsOf 31 = 2 := by kernel_rfl
theorem cells3 : Try.prog.cellsOf 3 = 1 := by kernel_rfl
set_option maxRecDepth 100000 in
theorem grids_ty {n : Nat} {cs : List AV} (h : Ty Try.prog (n + 1 + 1 + 1) 22 cs) : ∃ gs : List G2, cs = [.vec false 2 (gs.map G2.a)] := by
  obtain ⟨gs, rfl, _⟩ := ty_list (τ := G2) (enc := G2.a) Try.underlying22 (fun ys hy => by
    have h := ty_struct Try.underlying31 hy
    obtain ⟨a0, b0, rfl, h0, a1, b1, rfl, h1, rfl⟩ := h
    obtain ⟨x0, rfl, _⟩ := ty_int Try.underlying2 h0
    obtain ⟨x1, rfl, _⟩ := ty_int Try.underlying2 h1
    exact ⟨⟨x0, x1⟩, by rw [pack31]; rfl⟩) h
  rw [cells31]; exact ⟨gs, rfl⟩
set_option maxRecDepth 100000 in
theorem ints_ty {n : Nat} {cs : List AV} (h : Ty Try.prog (n + 1 + 1) 23 cs) : ∃ o : List Int, cs = [.vec false 1 (o.map (.int .i64))] := by
  obtain ⟨o, rfl, _⟩ := ty_list (τ := Int) (enc := .int .i64) Try.underlying23 (fun ys hy => by
    obtain ⟨x, rfl, _⟩ := ty_int Try.underlying3 hy
    exact ⟨x, by rw [pack3]⟩) h
  rw [cells3]; exact ⟨o, rfl⟩
theorem laidOut : laidOutB Try.prog = true := by kernel_rfl
theorem ownGo : ownKnob Try.prog.godebug = none := by kernel_rfl
end Go.Av
