/-
  No cell of these rows narrows 'for every input' (looked for: loops, veiled, ifaces, maps, wideKeys, modest, calm, conditions, laid).
  DERIVED. THE GIVEN ROWS OF THIS SEAT. 4 by the template 'for every input the law returns true; each argument reads behind the call as it read before'; 0 by the template 'total and deterministic' (their statements: YtmkjjnbbbabnhaaTotals.lean).
  GIVEN WITH THE SEED: the statements are not yours to turn. If you find one false, say at which input.
  Laid BY PROGRAM, IN A SANDBOX (cutbox-rows.mjs): the forced cells as the released guide's own fill.sh prints them over the translation d6049aa6efc28b48… (all of the seat's roots in one cut). By AI agents, Wed Nov 11 2026. No macro, syntax, notation, axiom, sorry.
-/
import Derived.Test.YtmkjjnbbbabnhaaChecked
import GoSem.Claim
import GoSem.ClaimJoined
import GoSem.ClaimMapViews
import Derived.JoinedTies
import Derived.KernelRfl
namespace Go.Proofs.Ytmkjjnbbbabnhaa
/- THE CELL 'sum', in the pinned program and in every row, IS THE sha256 OF THE DUMP (.gsa) THAT YtmkjjnbbbabnhaaProg.lean LOADS. Nothing in Lean hashes anything: it is a label: what it is worth is what the hold of that sum in a sandbox is worth. -/
noncomputable def Try.pinned : Pinned := { name := "ytmkjjnbbbabnhaa", sum := "d6049aa6efc28b48044fb8854e8c97906108141512b035a16c88c8d9e7cbb49a", checked := Try.checked }
namespace Rows
def none {H : Type} : Left H := { results := [], args := [] }

/-- 'swarflaw48.LookaheadSpeeds': WHATEVER THE INPUT: true; the input reads as it did. -/
def lookaheadSpeedsSpec : ChangeSpec := { name := "lookaheadSpeeds", fn := fun _ => fun
  | [d1, d2] => { results := [.lit (.bool true)], args := [d1, d2] }
  | _ => none }
def lookaheadSpeedsRow : OpenClaim := { program := "ytmkjjnbbbabnhaa", sum := "d6049aa6efc28b48044fb8854e8c97906108141512b035a16c88c8d9e7cbb49a", func := "swarf/swarflaw48.LookaheadSpeeds", spec := "lookaheadSpeeds", unfollowed := true, recurses := true, apart := false }
def LookaheadSpeedsSaid : Prop := lookaheadSpeedsRow.holds Try.pinned (OpenSpec.ofChange lookaheadSpeedsSpec)

/-- ITS FALSE NEIGHBOUR: 'it returns false'. Refute it at one input. -/
def lookaheadSpeedsWrong : ChangeSpec := { name := "lookaheadSpeeds", fn := fun _ => fun
  | [d1, d2] => { results := [.lit (.bool false)], args := [d1, d2] }
  | _ => none }
def LookaheadSpeedsWrongFalsely : Prop := lookaheadSpeedsRow.holds Try.pinned (OpenSpec.ofChange lookaheadSpeedsWrong)

/-- 'swarflaw48.LookaheadFaster': WHATEVER THE INPUT: true; the input reads as it did. -/
def lookaheadFasterSpec : ChangeSpec := { name := "lookaheadFaster", fn := fun _ => fun
  | [d1, d2, d3] => { results := [.lit (.bool true)], args := [d1, d2, d3] }
  | _ => none }
def lookaheadFasterRow : OpenClaim := { program := "ytmkjjnbbbabnhaa", sum := "d6049aa6efc28b48044fb8854e8c97906108141512b035a16c88c8d9e7cbb49a", func := "swarf/swarflaw48.LookaheadFaster", spec := "lookaheadFaster", unfollowed := true, recurses := true, apart := false }
def LookaheadFasterSaid : Prop := lookaheadFasterRow.holds Try.pinned (OpenSpec.ofChange lookaheadFasterSpec)

/-- ITS FALSE NEIGHBOUR: 'it returns false'. Refute it at one input. -/
def lookaheadFasterWrong : ChangeSpec := { name := "lookaheadFaster", fn := fun _ => fun
  | [d1, d2, d3] => { results := [.lit (.bool false)], args := [d1, d2, d3] }
  | _ => none }
def LookaheadFasterWrongFalsely : Prop := lookaheadFasterRow.holds Try.pinned (OpenSpec.ofChange lookaheadFasterWrong)

/-- 'swarflaw48.LookaheadGreatest': WHATEVER THE INPUT: true; the input reads as it did. -/
def lookaheadGreatestSpec : ChangeSpec := { name := "lookaheadGreatest", fn := fun _ => fun
  | [d1, d2, d3] => { results := [.lit (.bool true)], args := [d1, d2, d3] }
  | _ => none }
def lookaheadGreatestRow : OpenClaim := { program := "ytmkjjnbbbabnhaa", sum := "d6049aa6efc28b48044fb8854e8c97906108141512b035a16c88c8d9e7cbb49a", func := "swarf/swarflaw48.LookaheadGreatest", spec := "lookaheadGreatest", unfollowed := true, recurses := true, apart := false }
def LookaheadGreatestSaid : Prop := lookaheadGreatestRow.holds Try.pinned (OpenSpec.ofChange lookaheadGreatestSpec)

/-- ITS FALSE NEIGHBOUR: 'it returns false'. Refute it at one input. -/
def lookaheadGreatestWrong : ChangeSpec := { name := "lookaheadGreatest", fn := fun _ => fun
  | [d1, d2, d3] => { results := [.lit (.bool false)], args := [d1, d2, d3] }
  | _ => none }
def LookaheadGreatestWrongFalsely : Prop := lookaheadGreatestRow.holds Try.pinned (OpenSpec.ofChange lookaheadGreatestWrong)

/-- 'swarflaw48.LookaheadFeasible': WHATEVER THE INPUT: true; the input reads as it did. -/
def lookaheadFeasibleSpec : ChangeSpec := { name := "lookaheadFeasible", fn := fun _ => fun
  | [d1, d2, d3] => { results := [.lit (.bool true)], args := [d1, d2, d3] }
  | _ => none }
def lookaheadFeasibleRow : OpenClaim := { program := "ytmkjjnbbbabnhaa", sum := "d6049aa6efc28b48044fb8854e8c97906108141512b035a16c88c8d9e7cbb49a", func := "swarf/swarflaw48.LookaheadFeasible", spec := "lookaheadFeasible", unfollowed := true, recurses := true, apart := false }
def LookaheadFeasibleSaid : Prop := lookaheadFeasibleRow.holds Try.pinned (OpenSpec.ofChange lookaheadFeasibleSpec)

/-- ITS FALSE NEIGHBOUR: 'it returns false'. Refute it at one input. -/
def lookaheadFeasibleWrong : ChangeSpec := { name := "lookaheadFeasible", fn := fun _ => fun
  | [d1, d2, d3] => { results := [.lit (.bool false)], args := [d1, d2, d3] }
  | _ => none }
def LookaheadFeasibleWrongFalsely : Prop := lookaheadFeasibleRow.holds Try.pinned (OpenSpec.ofChange lookaheadFeasibleWrong)

/- THE SECOND FORM. 'bulk': how many values and letters a reading holds, each counted each time it is reached (what is shared counts as often as it is met; a slice's spare places count too). A statement '..UptoSaid' is the law's where the arguments, and the package variables that the reading takes, are together of bulk at most 1048576: NARROWER than '..Said'. Prove '..Said' where nothing that the law and all that it calls make is longer than what came in: it says more and counts as full. Else prove '..UptoSaid'. A law counts once. -/
mutual
def uptoBulk {H : Type} : DataW H → Nat
  | .lit (.string bytes) => bytes.length + 1
  | .lit _ => 1
  | .nil => 1
  | .ptr d => uptoBulk d + 1
  | .slice elems spare => uptoBulkAll elems + uptoBulkAll spare + 1
  | .agg parts => uptoBulkAll parts + 1
  | .iface _ d => uptoBulk d + 1
  | .map entries => uptoBulkEntries entries + 1
  | .held _ => 1
def uptoBulkAll {H : Type} : List (DataW H) → Nat
  | [] => 0
  | d :: r => uptoBulk d + uptoBulkAll r
def uptoBulkEntries {H : Type} : List (Lit × DataW H) → Nat
  | [] => 0
  | x :: r => uptoBulkEntry x + uptoBulkEntries r
def uptoBulkEntry {H : Type} : Lit × DataW H → Nat
  | (.string bytes, d) => bytes.length + uptoBulk d + 1
  | (_, d) => uptoBulk d + 1
 end
def uptoSmall : (H : Type) → List (DataW H) → Bool := fun _ ds => decide (uptoBulkAll ds ≤ 1048576)
def OpenSpec.upto (s : _root_.Go.ChangeSpec) : _root_.Go.OpenSpec := { _root_.Go.OpenSpec.ofChange s with cond := some uptoSmall }

/-- 'swarflaw48.LookaheadSpeeds', WHERE WHAT IT READS IS OF BULK AT MOST 1048576: true; the input reads as it did. -/
def lookaheadSpeedsUptoRow : OpenClaim := { program := "ytmkjjnbbbabnhaa", sum := "d6049aa6efc28b48044fb8854e8c97906108141512b035a16c88c8d9e7cbb49a", func := "swarf/swarflaw48.LookaheadSpeeds", spec := "lookaheadSpeeds", unfollowed := true, recurses := true, apart := false, narrowed := true }
def LookaheadSpeedsUptoSaid : Prop := lookaheadSpeedsUptoRow.holds Try.pinned (OpenSpec.upto lookaheadSpeedsSpec)

/-- 'swarflaw48.LookaheadFaster', WHERE WHAT IT READS IS OF BULK AT MOST 1048576: true; the input reads as it did. -/
def lookaheadFasterUptoRow : OpenClaim := { program := "ytmkjjnbbbabnhaa", sum := "d6049aa6efc28b48044fb8854e8c97906108141512b035a16c88c8d9e7cbb49a", func := "swarf/swarflaw48.LookaheadFaster", spec := "lookaheadFaster", unfollowed := true, recurses := true, apart := false, narrowed := true }
def LookaheadFasterUptoSaid : Prop := lookaheadFasterUptoRow.holds Try.pinned (OpenSpec.upto lookaheadFasterSpec)

/-- 'swarflaw48.LookaheadGreatest', WHERE WHAT IT READS IS OF BULK AT MOST 1048576: true; the input reads as it did. -/
def lookaheadGreatestUptoRow : OpenClaim := { program := "ytmkjjnbbbabnhaa", sum := "d6049aa6efc28b48044fb8854e8c97906108141512b035a16c88c8d9e7cbb49a", func := "swarf/swarflaw48.LookaheadGreatest", spec := "lookaheadGreatest", unfollowed := true, recurses := true, apart := false, narrowed := true }
def LookaheadGreatestUptoSaid : Prop := lookaheadGreatestUptoRow.holds Try.pinned (OpenSpec.upto lookaheadGreatestSpec)

/-- 'swarflaw48.LookaheadFeasible', WHERE WHAT IT READS IS OF BULK AT MOST 1048576: true; the input reads as it did. -/
def lookaheadFeasibleUptoRow : OpenClaim := { program := "ytmkjjnbbbabnhaa", sum := "d6049aa6efc28b48044fb8854e8c97906108141512b035a16c88c8d9e7cbb49a", func := "swarf/swarflaw48.LookaheadFeasible", spec := "lookaheadFeasible", unfollowed := true, recurses := true, apart := false, narrowed := true }
def LookaheadFeasibleUptoSaid : Prop := lookaheadFeasibleUptoRow.holds Try.pinned (OpenSpec.upto lookaheadFeasibleSpec)

end Rows
end Go.Proofs.Ytmkjjnbbbabnhaa
