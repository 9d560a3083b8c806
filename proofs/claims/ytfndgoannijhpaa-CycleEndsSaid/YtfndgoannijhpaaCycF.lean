/- WHAT THE CLOSURE 'to' OF Expand ANSWERS. -/
import Derived.Test.YtfndgoannijhpaaVcE
namespace Go.Av
open Go.Proofs

/-- The kind of a move belongs to its rate. -/
def Sp.kindOk (kind rate : Int) : Prop := kind = if rate > 0 then 2 else 1

theorem evo40 (kind a b c rate x y z : Int) (l : List Mv) (v : Nat) (hl : l.length < 1000000) (hk : Sp.kindOk kind rate) :
    Ev M1 (.own 40 [.int .i64 kind, .agg [.int .i64 a, .int .i64 b, .int .i64 c], .int .i64 rate, .ptr 0 0 0 0, .ptr 1 0 0 0]
      [⟨[.agg [.int .i64 x, .int .i64 y, .int .i64 z]], 3, 0, false, false⟩, ⟨[.row 2 v], 1, 0, false, false⟩, ⟨l.map Mv.a, 7, v, false, true⟩]) (.tup [])
      [⟨[.agg [.int .i64 a, .int .i64 b, .int .i64 c]], 3, 0, false, false⟩, ⟨[.row 2 (Sp.bump v ⟨x, y, z⟩ ⟨a, b, c⟩)], 1, 0, false, false⟩, ⟨(Sp.toL l ⟨x, y, z⟩ ⟨a, b, c⟩ rate).map Mv.a, 7, Sp.bump v ⟨x, y, z⟩ ⟨a, b, c⟩, false, true⟩, ⟨[.agg [.int .i64 a, .int .i64 b, .int .i64 c]], 3, 0, false, false⟩] := by
  refine own_wp' (owncall40 (v40r kind a b c rate x y z l v _ ⟨fun h => ⟨by omega, ?_⟩, fun h => ?_⟩))
  · have : ¬((⟨x, y, z⟩ : Ps) = ⟨a, b, c⟩) := by
      rw [Ps.mk.injEq]; rintro ⟨rfl, rfl, rfl⟩; exact h ⟨rfl, rfl, rfl⟩
    simp [Sp.toL, Sp.bump, this, Mv.a, show kind = _ from hk]
  · obtain ⟨rfl, rfl, rfl⟩ := Classical.not_not.1 h
    simp [Sp.toL, Sp.bump]

theorem evo40_y (kind a b c rate x y z : Int) (h : x = a ∧ y = b ∧ z = c) :
    Ev M1 (.own 40 [.int .i64 kind, .agg [.int .i64 a, .int .i64 b, .int .i64 c], .int .i64 rate, .ptr 0 0 0 0, .ptr 1 0 0 0]
      [⟨[.agg [.int .i64 x, .int .i64 y, .int .i64 z]], 3, 0, false, false⟩, ⟨[.vnil], 1, 0, false, false⟩]) (.tup [])
      [⟨[.agg [.int .i64 a, .int .i64 b, .int .i64 c]], 3, 0, false, false⟩, ⟨[.vnil], 1, 0, false, false⟩, ⟨[.agg [.int .i64 a, .int .i64 b, .int .i64 c]], 3, 0, false, false⟩] := by
  obtain ⟨rfl, rfl, rfl⟩ := h
  exact own_wp' (owncall40 (v40n kind x y z rate x y z _ ⟨fun h => absurd ⟨rfl, rfl, rfl⟩ h, fun _ => ⟨rfl, rfl⟩⟩))

theorem evo40_n (kind a b c rate x y z : Int) (hk : Sp.kindOk kind rate) (h : ¬(x = a ∧ y = b ∧ z = c)) :
    Ev M1 (.own 40 [.int .i64 kind, .agg [.int .i64 a, .int .i64 b, .int .i64 c], .int .i64 rate, .ptr 0 0 0 0, .ptr 1 0 0 0]
      [⟨[.agg [.int .i64 x, .int .i64 y, .int .i64 z]], 3, 0, false, false⟩, ⟨[.vnil], 1, 0, false, false⟩]) (.tup [])
      [⟨[.agg [.int .i64 a, .int .i64 b, .int .i64 c]], 3, 0, false, false⟩, ⟨[.row 3 0], 1, 0, false, false⟩, ⟨[.agg [.int .i64 a, .int .i64 b, .int .i64 c]], 3, 0, false, false⟩, ⟨(Sp.toL [] ⟨x, y, z⟩ ⟨a, b, c⟩ rate).map Mv.a, 7, 0, false, true⟩] := by
  have : ¬((⟨x, y, z⟩ : Ps) = ⟨a, b, c⟩) := by rw [Ps.mk.injEq]; exact h
  refine own_wp' (owncall40 (v40n kind a b c rate x y z _ ⟨fun h' => ?_, fun h' => ?_⟩))
  · simp [Sp.toL, this, Mv.a, show kind = _ from hk]
  · exact absurd (by obtain ⟨e1, e2, e3⟩ := Classical.not_not.1 h'; exact ⟨e1.symm, e2.symm, e3.symm⟩) h
end Go.Av
