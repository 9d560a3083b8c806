/- ARGUMENTS of the statements about Read. -/
import Derived.Test.YtfndgoannijhpaaLawC
import Derived.Test.YtfndgoannijhpaaCycR0
namespace Go.Av
open Go.Proofs
theorem pack54 (cs : List AV) : packA Try.prog 54 cs = .agg cs := by
  simp [packA, aggT, Try.underlying54]
theorem pack94 (cs : List AV) : packA Try.prog 94 cs = .agg cs := by
  simp [packA, aggT, Try.underlying94]
theorem cells94 : Try.prog.cellsOf 94 = 2 := by kernel_rfl
set_option maxRecDepth 100000 in
theorem words_ty {n : Nat} {cs : List AV} (h : Ty Try.prog (n + 1 + 1 + 1) 52 cs) : ∃ ws : List Wd, cs = [.vec false 2 (ws.map Wd.a)] := by
  obtain ⟨ws, rfl, _⟩ := ty_list (τ := Wd) (enc := Wd.a) Try.underlying52 (fun ys hy => by
    have h := ty_struct Try.underlying94 hy
    obtain ⟨a0, b0, rfl, h0, a1, b1, rfl, h1, rfl⟩ := h
    obtain ⟨x0, rfl, _⟩ := ty_int Try.underlying5 h0
    obtain ⟨x1, rfl, _⟩ := ty_int Try.underlying2 h1
    exact ⟨⟨x0, x1⟩, by rw [pack94]; rfl⟩) h
  rw [cells94]; exact ⟨ws, rfl⟩
set_option maxRecDepth 100000 in
theorem block_ty {n : Nat} {cs : List AV} (h : Ty Try.prog (n + 1 + 1 + 1 + 1) 54 cs) : ∃ (sk : Bool) (ws : List Wd) (cm : List UInt8), cs = [.bool sk, .vec false 2 (ws.map Wd.a), .str cm] := by
  have h := ty_struct Try.underlying54 h
  obtain ⟨a0, b0, rfl, h0, a1, b1, rfl, h1, a2, b2, rfl, h2, rfl⟩ := h
  obtain ⟨sk, rfl⟩ := ty_bool Try.underlying4 h0
  obtain ⟨ws, rfl⟩ := words_ty h1
  obtain ⟨cm, rfl, _⟩ := ty_str Try.underlying9 h2
  exact ⟨sk, ws, cm, rfl⟩
end Go.Av
