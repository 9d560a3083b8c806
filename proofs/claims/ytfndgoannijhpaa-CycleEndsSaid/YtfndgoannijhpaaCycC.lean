/- WHAT 'to' AND 'up' OF THE REFERENCE ANSWER. -/
import Derived.Test.YtfndgoannijhpaaVcB
namespace Go.Av
open Go.Proofs

theorem ev56 (x y z h : Int) : Ev M1 (.pure 56 [.agg [.int .i64 x, .int .i64 y, .int .i64 z], .int .i64 h]) (.agg [.int .i64 x, .int .i64 y, .int .i64 h]) [] :=
  call56 (v56 x y z h _ rfl)

theorem evo55 (x y z a b c rate : Int) (l : List Mv) (v : Nat) (hl : l.length < 1000000) :
    Ev M1 (.own 55 [.agg [.int .i64 x, .int .i64 y, .int .i64 z, .row 0 v], .agg [.int .i64 a, .int .i64 b, .int .i64 c], .int .i64 rate] [⟨l.map Mv.a, 7, v, false, true⟩])
      (.agg [.int .i64 a, .int .i64 b, .int .i64 c, .row 0 (Sp.bump v ⟨x, y, z⟩ ⟨a, b, c⟩)])
      [⟨(Sp.toL l ⟨x, y, z⟩ ⟨a, b, c⟩ rate).map Mv.a, 7, Sp.bump v ⟨x, y, z⟩ ⟨a, b, c⟩, false, true⟩, ⟨[.agg [.int .i64 x, .int .i64 y, .int .i64 z, .row 0 v]], 4, 0, false, false⟩, ⟨[.agg [.int .i64 a, .int .i64 b, .int .i64 c]], 3, 0, false, false⟩, ⟨[.agg [.int .i64 a, .int .i64 b, .int .i64 c, .row 0 (Sp.bump v ⟨x, y, z⟩ ⟨a, b, c⟩)]], 4, 0, false, false⟩] := by
  have hl' : (l.length + 1) * 56 ≤ 1099511627776 := by omega
  refine own_wp' (owncall55 (v55r x y z a b c rate l v _ ⟨?_, fun h => ⟨fun hr => ⟨hl', ?_⟩, fun hr => ⟨hl', ?_⟩⟩⟩))
  · rintro ⟨rfl, rfl, rfl⟩
    simp [Sp.toL, Sp.bump]
  · have : ¬((⟨x, y, z⟩ : Ps) = ⟨a, b, c⟩) := by simpa using h
    simp [Sp.toL, Sp.bump, this, hr, Mv.a]
  · have : ¬((⟨x, y, z⟩ : Ps) = ⟨a, b, c⟩) := by simpa using h
    simp [Sp.toL, Sp.bump, this, hr, Mv.a]

theorem evo55_y (x y z a b c rate : Int) (h : x = a ∧ y = b ∧ z = c) :
    Ev M1 (.own 55 [.agg [.int .i64 x, .int .i64 y, .int .i64 z, .vnil], .agg [.int .i64 a, .int .i64 b, .int .i64 c], .int .i64 rate] [])
      (.agg [.int .i64 a, .int .i64 b, .int .i64 c, .vnil])
      [⟨[.agg [.int .i64 x, .int .i64 y, .int .i64 z, .vnil]], 4, 0, false, false⟩, ⟨[.agg [.int .i64 a, .int .i64 b, .int .i64 c]], 3, 0, false, false⟩, ⟨[.agg [.int .i64 a, .int .i64 b, .int .i64 c, .vnil]], 4, 0, false, false⟩] := by
  refine own_wp' (owncall55 (v55n x y z a b c rate _ ⟨?_, fun h' => absurd h h'⟩))
  intro _
  obtain ⟨rfl, rfl, rfl⟩ := h
  exact ⟨rfl, rfl⟩

theorem evo55_n (x y z a b c rate : Int) (h : ¬(x = a ∧ y = b ∧ z = c)) :
    Ev M1 (.own 55 [.agg [.int .i64 x, .int .i64 y, .int .i64 z, .vnil], .agg [.int .i64 a, .int .i64 b, .int .i64 c], .int .i64 rate] [])
      (.agg [.int .i64 a, .int .i64 b, .int .i64 c, .row 3 0])
      [⟨[.agg [.int .i64 x, .int .i64 y, .int .i64 z, .vnil]], 4, 0, false, false⟩, ⟨[.agg [.int .i64 a, .int .i64 b, .int .i64 c]], 3, 0, false, false⟩, ⟨[.agg [.int .i64 a, .int .i64 b, .int .i64 c, .row 3 0]], 4, 0, false, false⟩, ⟨(Sp.toL [] ⟨x, y, z⟩ ⟨a, b, c⟩ rate).map Mv.a, 7, 0, false, true⟩] := by
  have : ¬((⟨x, y, z⟩ : Ps) = ⟨a, b, c⟩) := by simpa using h
  refine own_wp' (owncall55 (v55n x y z a b c rate _ ⟨fun h' => absurd h' h, fun _ => ⟨fun hr => ?_, fun hr => ?_⟩⟩))
  · simp [Sp.toL, this, hr, Mv.a]
  · simp [Sp.toL, this, hr, Mv.a]
end Go.Av
