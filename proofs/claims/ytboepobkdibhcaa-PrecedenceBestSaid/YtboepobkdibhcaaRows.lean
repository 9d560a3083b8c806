/-
  No cell of these rows narrows 'for every input' (looked for: loops, veiled, ifaces, maps, wideKeys, modest, calm, conditions, laid).
  DERIVED. THE GIVEN ROWS OF THIS SEAT. 9 by the template 'for every input the law returns true; each argument reads behind the call as it read before'; 0 by the template 'total and deterministic' (their statements: YtboepobkdibhcaaTotals.lean).
  GIVEN WITH THE SEED: the statements are not yours to turn. If you find one false, say at which input.
  Laid BY PROGRAM, IN A SANDBOX (cutbox-rows.mjs): the forced cells as the released guide's own fill.sh prints them over the translation 8f75c8a13226e22f… (all of the seat's roots in one cut). By AI agents, Wed Nov 11 2026. No macro, syntax, notation, axiom, sorry.
-/
import Derived.Test.YtboepobkdibhcaaChecked
import GoSem.Claim
import GoSem.ClaimJoined
import GoSem.ClaimMapViews
import Derived.JoinedTies
import Derived.KernelRfl
namespace Go.Proofs.Ytboepobkdibhcaa
/- THE CELL 'sum', in the pinned program and in every row, IS THE sha256 OF THE DUMP (.gsa) THAT YtboepobkdibhcaaProg.lean LOADS. Nothing in Lean hashes anything: it is a label: what it is worth is what the hold of that sum in a sandbox is worth. -/
noncomputable def Try.pinned : Pinned := { name := "ytboepobkdibhcaa", sum := "8f75c8a13226e22fd820b53e134b4e713ad8ef5f1c032262e815a7ff3e52370d", checked := Try.checked }
namespace Rows
def none {H : Type} : Left H := { results := [], args := [] }

/-- 'swarflaw29.PrecedenceValid': WHATEVER THE INPUT: true; the input reads as it did. -/
def precedenceValidSpec : ChangeSpec := { name := "precedenceValid", fn := fun _ => fun
  | [d1, d2, d3] => { results := [.lit (.bool true)], args := [d1, d2, d3] }
  | _ => none }
def precedenceValidRow : OpenClaim := { program := "ytboepobkdibhcaa", sum := "8f75c8a13226e22fd820b53e134b4e713ad8ef5f1c032262e815a7ff3e52370d", func := "swarf/swarflaw29.PrecedenceValid", spec := "precedenceValid", unfollowed := true, recurses := true, apart := false }
def PrecedenceValidSaid : Prop := precedenceValidRow.holds Try.pinned (OpenSpec.ofChange precedenceValidSpec)

/-- ITS FALSE NEIGHBOUR: 'it returns false'. Refute it at one input. -/
def precedenceValidWrong : ChangeSpec := { name := "precedenceValid", fn := fun _ => fun
  | [d1, d2, d3] => { results := [.lit (.bool false)], args := [d1, d2, d3] }
  | _ => none }
def PrecedenceValidWrongFalsely : Prop := precedenceValidRow.holds Try.pinned (OpenSpec.ofChange precedenceValidWrong)

/-- 'swarflaw29.PrecedenceCycle': WHATEVER THE INPUT: true; the input reads as it did. -/
def precedenceCycleSpec : ChangeSpec := { name := "precedenceCycle", fn := fun _ => fun
  | [d1, d2] => { results := [.lit (.bool true)], args := [d1, d2] }
  | _ => none }
def precedenceCycleRow : OpenClaim := { program := "ytboepobkdibhcaa", sum := "8f75c8a13226e22fd820b53e134b4e713ad8ef5f1c032262e815a7ff3e52370d", func := "swarf/swarflaw29.PrecedenceCycle", spec := "precedenceCycle", unfollowed := true, recurses := true, apart := false }
def PrecedenceCycleSaid : Prop := precedenceCycleRow.holds Try.pinned (OpenSpec.ofChange precedenceCycleSpec)

/-- ITS FALSE NEIGHBOUR: 'it returns false'. Refute it at one input. -/
def precedenceCycleWrong : ChangeSpec := { name := "precedenceCycle", fn := fun _ => fun
  | [d1, d2] => { results := [.lit (.bool false)], args := [d1, d2] }
  | _ => none }
def PrecedenceCycleWrongFalsely : Prop := precedenceCycleRow.holds Try.pinned (OpenSpec.ofChange precedenceCycleWrong)

/-- 'swarflaw29.PrecedenceOrder': WHATEVER THE INPUT: true; the input reads as it did. -/
def precedenceOrderSpec : ChangeSpec := { name := "precedenceOrder", fn := fun _ => fun
  | [d1, d2] => { results := [.lit (.bool true)], args := [d1, d2] }
  | _ => none }
def precedenceOrderRow : OpenClaim := { program := "ytboepobkdibhcaa", sum := "8f75c8a13226e22fd820b53e134b4e713ad8ef5f1c032262e815a7ff3e52370d", func := "swarf/swarflaw29.PrecedenceOrder", spec := "precedenceOrder", unfollowed := true, recurses := true, apart := false }
def PrecedenceOrderSaid : Prop := precedenceOrderRow.holds Try.pinned (OpenSpec.ofChange precedenceOrderSpec)

/-- ITS FALSE NEIGHBOUR: 'it returns false'. Refute it at one input. -/
def precedenceOrderWrong : ChangeSpec := { name := "precedenceOrder", fn := fun _ => fun
  | [d1, d2] => { results := [.lit (.bool false)], args := [d1, d2] }
  | _ => none }
def PrecedenceOrderWrongFalsely : Prop := precedenceOrderRow.holds Try.pinned (OpenSpec.ofChange precedenceOrderWrong)

/-- 'swarflaw29.PrecedenceBest': WHATEVER THE INPUT: true; the input reads as it did. -/
def precedenceBestSpec : ChangeSpec := { name := "precedenceBest", fn := fun _ => fun
  | [d1, d2, d3] => { results := [.lit (.bool true)], args := [d1, d2, d3] }
  | _ => none }
def precedenceBestRow : OpenClaim := { program := "ytboepobkdibhcaa", sum := "8f75c8a13226e22fd820b53e134b4e713ad8ef5f1c032262e815a7ff3e52370d", func := "swarf/swarflaw29.PrecedenceBest", spec := "precedenceBest", unfollowed := true, recurses := true, apart := false }
def PrecedenceBestSaid : Prop := precedenceBestRow.holds Try.pinned (OpenSpec.ofChange precedenceBestSpec)

/-- ITS FALSE NEIGHBOUR: 'it returns false'. Refute it at one input. -/
def precedenceBestWrong : ChangeSpec := { name := "precedenceBest", fn := fun _ => fun
  | [d1, d2, d3] => { results := [.lit (.bool false)], args := [d1, d2, d3] }
  | _ => none }
def PrecedenceBestWrongFalsely : Prop := precedenceBestRow.holds Try.pinned (OpenSpec.ofChange precedenceBestWrong)

/-- 'swarflaw29.PrecedenceFewest': WHATEVER THE INPUT: true; the input reads as it did. -/
def precedenceFewestSpec : ChangeSpec := { name := "precedenceFewest", fn := fun _ => fun
  | [d1, d2, d3] => { results := [.lit (.bool true)], args := [d1, d2, d3] }
  | _ => none }
def precedenceFewestRow : OpenClaim := { program := "ytboepobkdibhcaa", sum := "8f75c8a13226e22fd820b53e134b4e713ad8ef5f1c032262e815a7ff3e52370d", func := "swarf/swarflaw29.PrecedenceFewest", spec := "precedenceFewest", unfollowed := true, recurses := true, apart := false }
def PrecedenceFewestSaid : Prop := precedenceFewestRow.holds Try.pinned (OpenSpec.ofChange precedenceFewestSpec)

/-- ITS FALSE NEIGHBOUR: 'it returns false'. Refute it at one input. -/
def precedenceFewestWrong : ChangeSpec := { name := "precedenceFewest", fn := fun _ => fun
  | [d1, d2, d3] => { results := [.lit (.bool false)], args := [d1, d2, d3] }
  | _ => none }
def PrecedenceFewestWrongFalsely : Prop := precedenceFewestRow.holds Try.pinned (OpenSpec.ofChange precedenceFewestWrong)

/-- 'swarflaw29.PrecedenceChanges': WHATEVER THE INPUT: true; the input reads as it did. -/
def precedenceChangesSpec : ChangeSpec := { name := "precedenceChanges", fn := fun _ => fun
  | [d1, d2] => { results := [.lit (.bool true)], args := [d1, d2] }
  | _ => none }
def precedenceChangesRow : OpenClaim := { program := "ytboepobkdibhcaa", sum := "8f75c8a13226e22fd820b53e134b4e713ad8ef5f1c032262e815a7ff3e52370d", func := "swarf/swarflaw29.PrecedenceChanges", spec := "precedenceChanges", unfollowed := true, recurses := true, apart := false }
def PrecedenceChangesSaid : Prop := precedenceChangesRow.holds Try.pinned (OpenSpec.ofChange precedenceChangesSpec)

/-- ITS FALSE NEIGHBOUR: 'it returns false'. Refute it at one input. -/
def precedenceChangesWrong : ChangeSpec := { name := "precedenceChanges", fn := fun _ => fun
  | [d1, d2] => { results := [.lit (.bool false)], args := [d1, d2] }
  | _ => none }
def PrecedenceChangesWrongFalsely : Prop := precedenceChangesRow.holds Try.pinned (OpenSpec.ofChange precedenceChangesWrong)

/-- 'swarflaw29.PrecedenceClosure': WHATEVER THE INPUT: true; the input reads as it did. -/
def precedenceClosureSpec : ChangeSpec := { name := "precedenceClosure", fn := fun _ => fun
  | [d1, d2] => { results := [.lit (.bool true)], args := [d1, d2] }
  | _ => none }
def precedenceClosureRow : OpenClaim := { program := "ytboepobkdibhcaa", sum := "8f75c8a13226e22fd820b53e134b4e713ad8ef5f1c032262e815a7ff3e52370d", func := "swarf/swarflaw29.PrecedenceClosure", spec := "precedenceClosure", unfollowed := true, recurses := true, apart := false }
def PrecedenceClosureSaid : Prop := precedenceClosureRow.holds Try.pinned (OpenSpec.ofChange precedenceClosureSpec)

/-- ITS FALSE NEIGHBOUR: 'it returns false'. Refute it at one input. -/
def precedenceClosureWrong : ChangeSpec := { name := "precedenceClosure", fn := fun _ => fun
  | [d1, d2] => { results := [.lit (.bool false)], args := [d1, d2] }
  | _ => none }
def PrecedenceClosureWrongFalsely : Prop := precedenceClosureRow.holds Try.pinned (OpenSpec.ofChange precedenceClosureWrong)

/-- 'swarflaw29.PrecedenceReduced': WHATEVER THE INPUT: true; the input reads as it did. -/
def precedenceReducedSpec : ChangeSpec := { name := "precedenceReduced", fn := fun _ => fun
  | [d1, d2, d3] => { results := [.lit (.bool true)], args := [d1, d2, d3] }
  | _ => none }
def precedenceReducedRow : OpenClaim := { program := "ytboepobkdibhcaa", sum := "8f75c8a13226e22fd820b53e134b4e713ad8ef5f1c032262e815a7ff3e52370d", func := "swarf/swarflaw29.PrecedenceReduced", spec := "precedenceReduced", unfollowed := true, recurses := true, apart := false }
def PrecedenceReducedSaid : Prop := precedenceReducedRow.holds Try.pinned (OpenSpec.ofChange precedenceReducedSpec)

/-- ITS FALSE NEIGHBOUR: 'it returns false'. Refute it at one input. -/
def precedenceReducedWrong : ChangeSpec := { name := "precedenceReduced", fn := fun _ => fun
  | [d1, d2, d3] => { results := [.lit (.bool false)], args := [d1, d2, d3] }
  | _ => none }
def PrecedenceReducedWrongFalsely : Prop := precedenceReducedRow.holds Try.pinned (OpenSpec.ofChange precedenceReducedWrong)

/-- 'swarflaw29.PrecedenceLinear': WHATEVER THE INPUT: true; the input reads as it did. -/
def precedenceLinearSpec : ChangeSpec := { name := "precedenceLinear", fn := fun _ => fun
  | [d1, d2, d3] => { results := [.lit (.bool true)], args := [d1, d2, d3] }
  | _ => none }
def precedenceLinearRow : OpenClaim := { program := "ytboepobkdibhcaa", sum := "8f75c8a13226e22fd820b53e134b4e713ad8ef5f1c032262e815a7ff3e52370d", func := "swarf/swarflaw29.PrecedenceLinear", spec := "precedenceLinear", unfollowed := true, recurses := true, apart := false }
def PrecedenceLinearSaid : Prop := precedenceLinearRow.holds Try.pinned (OpenSpec.ofChange precedenceLinearSpec)

/-- ITS FALSE NEIGHBOUR: 'it returns false'. Refute it at one input. -/
def precedenceLinearWrong : ChangeSpec := { name := "precedenceLinear", fn := fun _ => fun
  | [d1, d2, d3] => { results := [.lit (.bool false)], args := [d1, d2, d3] }
  | _ => none }
def PrecedenceLinearWrongFalsely : Prop := precedenceLinearRow.holds Try.pinned (OpenSpec.ofChange precedenceLinearWrong)

/- THE SECOND FORM. 'bulk': how many values and letters a reading holds, each counted each time it is reached (what is shared counts as often as it is met; a slice's spare places count too). A statement '..UptoSaid' is the law's where the arguments, and the package variables that the reading takes, are together of bulk at most 1048576: NARROWER than '..Said'. Prove '..Said' where nothing that the law and all that it calls make is longer than what came in: it says more and counts as full. Else prove '..UptoSaid'. A law counts once. -/
mutual
def uptoBulk {H : Type} : DataW H → Nat
  | .lit (.string bytes) => bytes.length + 1
  | .lit _ => 1
  | .nil => 1
  | .ptr d => uptoBulk d + 1
  | .slice elems spare => uptoBulkAll elems + uptoBulkAll spare + 1
  | .agg parts => uptoBulkAll parts + 1
  | .iface _ d => uptoBulk d + 1
  | .map entries => uptoBulkEntries entries + 1
  | .held _ => 1
def uptoBulkAll {H : Type} : List (DataW H) → Nat
  | [] => 0
  | d :: r => uptoBulk d + uptoBulkAll r
def uptoBulkEntries {H : Type} : List (Lit × DataW H) → Nat
  | [] => 0
  | x :: r => uptoBulkEntry x + uptoBulkEntries r
def uptoBulkEntry {H : Type} : Lit × DataW H → Nat
  | (.string bytes, d) => bytes.length + uptoBulk d + 1
  | (_, d) => uptoBulk d + 1
 end
def uptoSmall : (H : Type) → List (DataW H) → Bool := fun _ ds => decide (uptoBulkAll ds ≤ 1048576)
def OpenSpec.upto (s : _root_.Go.ChangeSpec) : _root_.Go.OpenSpec := { _root_.Go.OpenSpec.ofChange s with cond := some uptoSmall }

/-- 'swarflaw29.PrecedenceValid', WHERE WHAT IT READS IS OF BULK AT MOST 1048576: true; the input reads as it did. -/
def precedenceValidUptoRow : OpenClaim := { program := "ytboepobkdibhcaa", sum := "8f75c8a13226e22fd820b53e134b4e713ad8ef5f1c032262e815a7ff3e52370d", func := "swarf/swarflaw29.PrecedenceValid", spec := "precedenceValid", unfollowed := true, recurses := true, apart := false, narrowed := true }
def PrecedenceValidUptoSaid : Prop := precedenceValidUptoRow.holds Try.pinned (OpenSpec.upto precedenceValidSpec)

/-- 'swarflaw29.PrecedenceCycle', WHERE WHAT IT READS IS OF BULK AT MOST 1048576: true; the input reads as it did. -/
def precedenceCycleUptoRow : OpenClaim := { program := "ytboepobkdibhcaa", sum := "8f75c8a13226e22fd820b53e134b4e713ad8ef5f1c032262e815a7ff3e52370d", func := "swarf/swarflaw29.PrecedenceCycle", spec := "precedenceCycle", unfollowed := true, recurses := true, apart := false, narrowed := true }
def PrecedenceCycleUptoSaid : Prop := precedenceCycleUptoRow.holds Try.pinned (OpenSpec.upto precedenceCycleSpec)

/-- 'swarflaw29.PrecedenceOrder', WHERE WHAT IT READS IS OF BULK AT MOST 1048576: true; the input reads as it did. -/
def precedenceOrderUptoRow : OpenClaim := { program := "ytboepobkdibhcaa", sum := "8f75c8a13226e22fd820b53e134b4e713ad8ef5f1c032262e815a7ff3e52370d", func := "swarf/swarflaw29.PrecedenceOrder", spec := "precedenceOrder", unfollowed := true, recurses := true, apart := false, narrowed := true }
def PrecedenceOrderUptoSaid : Prop := precedenceOrderUptoRow.holds Try.pinned (OpenSpec.upto precedenceOrderSpec)

/-- 'swarflaw29.PrecedenceBest', WHERE WHAT IT READS IS OF BULK AT MOST 1048576: true; the input reads as it did. -/
def precedenceBestUptoRow : OpenClaim := { program := "ytboepobkdibhcaa", sum := "8f75c8a13226e22fd820b53e134b4e713ad8ef5f1c032262e815a7ff3e52370d", func := "swarf/swarflaw29.PrecedenceBest", spec := "precedenceBest", unfollowed := true, recurses := true, apart := false, narrowed := true }
def PrecedenceBestUptoSaid : Prop := precedenceBestUptoRow.holds Try.pinned (OpenSpec.upto precedenceBestSpec)

/-- 'swarflaw29.PrecedenceFewest', WHERE WHAT IT READS IS OF BULK AT MOST 1048576: true; the input reads as it did. -/
def precedenceFewestUptoRow : OpenClaim := { program := "ytboepobkdibhcaa", sum := "8f75c8a13226e22fd820b53e134b4e713ad8ef5f1c032262e815a7ff3e52370d", func := "swarf/swarflaw29.PrecedenceFewest", spec := "precedenceFewest", unfollowed := true, recurses := true, apart := false, narrowed := true }
def PrecedenceFewestUptoSaid : Prop := precedenceFewestUptoRow.holds Try.pinned (OpenSpec.upto precedenceFewestSpec)

/-- 'swarflaw29.PrecedenceChanges', WHERE WHAT IT READS IS OF BULK AT MOST 1048576: true; the input reads as it did. -/
def precedenceChangesUptoRow : OpenClaim := { program := "ytboepobkdibhcaa", sum := "8f75c8a13226e22fd820b53e134b4e713ad8ef5f1c032262e815a7ff3e52370d", func := "swarf/swarflaw29.PrecedenceChanges", spec := "precedenceChanges", unfollowed := true, recurses := true, apart := false, narrowed := true }
def PrecedenceChangesUptoSaid : Prop := precedenceChangesUptoRow.holds Try.pinned (OpenSpec.upto precedenceChangesSpec)

/-- 'swarflaw29.PrecedenceClosure', WHERE WHAT IT READS IS OF BULK AT MOST 1048576: true; the input reads as it did. -/
def precedenceClosureUptoRow : OpenClaim := { program := "ytboepobkdibhcaa", sum := "8f75c8a13226e22fd820b53e134b4e713ad8ef5f1c032262e815a7ff3e52370d", func := "swarf/swarflaw29.PrecedenceClosure", spec := "precedenceClosure", unfollowed := true, recurses := true, apart := false, narrowed := true }
def PrecedenceClosureUptoSaid : Prop := precedenceClosureUptoRow.holds Try.pinned (OpenSpec.upto precedenceClosureSpec)

/-- 'swarflaw29.PrecedenceReduced', WHERE WHAT IT READS IS OF BULK AT MOST 1048576: true; the input reads as it did. -/
def precedenceReducedUptoRow : OpenClaim := { program := "ytboepobkdibhcaa", sum := "8f75c8a13226e22fd820b53e134b4e713ad8ef5f1c032262e815a7ff3e52370d", func := "swarf/swarflaw29.PrecedenceReduced", spec := "precedenceReduced", unfollowed := true, recurses := true, apart := false, narrowed := true }
def PrecedenceReducedUptoSaid : Prop := precedenceReducedUptoRow.holds Try.pinned (OpenSpec.upto precedenceReducedSpec)

/-- 'swarflaw29.PrecedenceLinear', WHERE WHAT IT READS IS OF BULK AT MOST 1048576: true; the input reads as it did. -/
def precedenceLinearUptoRow : OpenClaim := { program := "ytboepobkdibhcaa", sum := "8f75c8a13226e22fd820b53e134b4e713ad8ef5f1c032262e815a7ff3e52370d", func := "swarf/swarflaw29.PrecedenceLinear", spec := "precedenceLinear", unfollowed := true, recurses := true, apart := false, narrowed := true }
def PrecedenceLinearUptoSaid : Prop := precedenceLinearUptoRow.holds Try.pinned (OpenSpec.upto precedenceLinearSpec)

end Rows
end Go.Proofs.Ytboepobkdibhcaa
