/- ARGUMENTS of the statements about layer 44. -/
import Derived.Test.YtfndgoannijhpaaAvLaw
import Derived.Test.YtfndgoannijhpaaCycB
namespace Go.Av
open Go.Proofs

theorem cyc_ty {P : Program} {n t : Nat} {fs : Array Field} (hu : P.underlying t = some (.struct fs)) (hf : fs.toList.map (·.type) = [2, 2, 2, 2, 2, 2, 4]) (h2 : P.underlying 2 = some (.int .i64)) (h4 : P.underlying 4 = some .bool) {cs : List AV} (h : Ty P (n + 1 + 1) t cs) :
    ∃ code r z q rate ini high, cs = [.int .i64 code, .int .i64 r, .int .i64 z, .int .i64 q, .int .i64 rate, .int .i64 ini, .bool high] := by
  have h := ty_struct hu h
  rw [hf] at h
  obtain ⟨a0, b0, rfl, h0, a1, b1, rfl, h1, a2, b2, rfl, h2', a3, b3, rfl, h3, a4, b4, rfl, h4', a5, b5, rfl, h5, a6, b6, rfl, h6, rfl⟩ := h
  obtain ⟨x0, rfl, _⟩ := ty_int h2 h0
  obtain ⟨x1, rfl, _⟩ := ty_int h2 h1
  obtain ⟨x2, rfl, _⟩ := ty_int h2 h2'
  obtain ⟨x3, rfl, _⟩ := ty_int h2 h3
  obtain ⟨x4, rfl, _⟩ := ty_int h2 h4'
  obtain ⟨x5, rfl, _⟩ := ty_int h2 h5
  obtain ⟨x6, rfl⟩ := ty_bool h4 h6
  exact ⟨x0, x1, x2, x3, x4, x5, x6, rfl⟩

theorem ints2_ty {P : Program} {n t : Nat} {fs : Array Field} (hu : P.underlying t = some (.struct fs)) (hf : fs.toList.map (·.type) = [2, 2]) (h2 : P.underlying 2 = some (.int .i64)) {cs : List AV} (h : Ty P (n + 1 + 1) t cs) :
    ∃ x y, cs = [.int .i64 x, .int .i64 y] := by
  have h := ty_struct hu h
  rw [hf] at h
  obtain ⟨a0, b0, rfl, h0, a1, b1, rfl, h1, rfl⟩ := h
  obtain ⟨x0, rfl, _⟩ := ty_int h2 h0
  obtain ⟨x1, rfl, _⟩ := ty_int h2 h1
  exact ⟨x0, x1, rfl⟩

theorem ints3_ty {P : Program} {n t : Nat} {fs : Array Field} (hu : P.underlying t = some (.struct fs)) (hf : fs.toList.map (·.type) = [2, 2, 2]) (h2 : P.underlying 2 = some (.int .i64)) {cs : List AV} (h : Ty P (n + 1 + 1) t cs) :
    ∃ x y z, cs = [.int .i64 x, .int .i64 y, .int .i64 z] := by
  have h := ty_struct hu h
  rw [hf] at h
  obtain ⟨a0, b0, rfl, h0, a1, b1, rfl, h1, a2, b2, rfl, h2', rfl⟩ := h
  obtain ⟨x0, rfl, _⟩ := ty_int h2 h0
  obtain ⟨x1, rfl, _⟩ := ty_int h2 h1
  obtain ⟨x2, rfl, _⟩ := ty_int h2 h2'
  exact ⟨x0, x1, x2, rfl⟩

theorem pack36 (cs : List AV) : packA Try.prog 36 cs = .agg cs := by
  simp [packA, aggT, Try.underlying36]
theorem pack37 (x : AV) : packA Try.prog 37 [x] = x := by
  simp [packA, aggT, Try.underlying37]
theorem pack23 (cs : List AV) : packA Try.prog 23 cs = .agg cs := by
  simp [packA, aggT, Try.underlying23]
theorem pack43 (cs : List AV) : packA Try.prog 43 cs = .agg cs := by
  simp [packA, aggT, Try.underlying43]
theorem cells43 : Try.prog.cellsOf 43 = 2 := by kernel_rfl
set_option maxRecDepth 100000 in
/-- Positions in the plane. -/
theorem grids_ty {n : Nat} {cs : List AV} (h : Ty Try.prog (n + 1 + 1 + 1) 37 cs) : ∃ gs : List G2, cs = [.vec false 2 (gs.map G2.a)] := by
  obtain ⟨gs, rfl, _⟩ := ty_list (τ := G2) (enc := G2.a) Try.underlying37 (fun ys hy => by
    obtain ⟨x, y, rfl⟩ := ints2_ty Try.underlying43 rfl Try.underlying2 hy
    exact ⟨⟨x, y⟩, by rw [pack43]; rfl⟩) h
  rw [cells43]; exact ⟨gs, rfl⟩
theorem laidOut : laidOutB Try.prog = true := by kernel_rfl
theorem ownGo : ownKnob Try.prog.godebug = none := by kernel_rfl
end Go.Av
