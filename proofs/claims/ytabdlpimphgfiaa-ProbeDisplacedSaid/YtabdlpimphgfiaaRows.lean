/-
  No cell of these rows narrows 'for every input' (looked for: loops, veiled, ifaces, maps, wideKeys, modest, calm, conditions, laid).
  DERIVED. THE GIVEN ROWS OF THIS SEAT. 5 by the template 'for every input the law returns true; each argument reads behind the call as it read before'; 0 by the template 'total and deterministic' (their statements: YtabdlpimphgfiaaTotals.lean).
  GIVEN WITH THE SEED: the statements are not yours to turn. If you find one false, say at which input.
  Laid BY PROGRAM, IN A SANDBOX (cutbox-rows.mjs): the forced cells as the released guide's own fill.sh prints them over the translation 8c7f73a6469be148… (all of the seat's roots in one cut). By AI agents, Wed Nov 11 2026. No macro, syntax, notation, axiom, sorry.
-/
import Derived.Test.YtabdlpimphgfiaaChecked
import GoSem.Claim
import GoSem.ClaimJoined
import GoSem.ClaimMapViews
import Derived.JoinedTies
import Derived.KernelRfl
namespace Go.Proofs.Ytabdlpimphgfiaa
/- THE CELL 'sum', in the pinned program and in every row, IS THE sha256 OF THE DUMP (.gsa) THAT YtabdlpimphgfiaaProg.lean LOADS. Nothing in Lean hashes anything: it is a label: what it is worth is what the hold of that sum in a sandbox is worth. -/
noncomputable def Try.pinned : Pinned := { name := "ytabdlpimphgfiaa", sum := "8c7f73a6469be1487c93af44872f71afb6c4651edb93cd4bbb9707ab3ea65f30", checked := Try.checked }
namespace Rows
def none {H : Type} : Left H := { results := [], args := [] }

/-- 'swarflaw51.ProbeTouch': WHATEVER THE INPUT: true; the input reads as it did. -/
def probeTouchSpec : ChangeSpec := { name := "probeTouch", fn := fun _ => fun
  | [d1, d2, d3] => { results := [.lit (.bool true)], args := [d1, d2, d3] }
  | _ => none }
def probeTouchRow : OpenClaim := { program := "ytabdlpimphgfiaa", sum := "8c7f73a6469be1487c93af44872f71afb6c4651edb93cd4bbb9707ab3ea65f30", func := "swarf/swarflaw51.ProbeTouch", spec := "probeTouch", apart := false }
def ProbeTouchSaid : Prop := probeTouchRow.holds Try.pinned (OpenSpec.ofChange probeTouchSpec)

/-- ITS FALSE NEIGHBOUR: 'it returns false'. Refute it at one input. -/
def probeTouchWrong : ChangeSpec := { name := "probeTouch", fn := fun _ => fun
  | [d1, d2, d3] => { results := [.lit (.bool false)], args := [d1, d2, d3] }
  | _ => none }
def ProbeTouchWrongFalsely : Prop := probeTouchRow.holds Try.pinned (OpenSpec.ofChange probeTouchWrong)

/-- 'swarflaw51.ProbeError': WHATEVER THE INPUT: true; the input reads as it did. -/
def probeErrorSpec : ChangeSpec := { name := "probeError", fn := fun _ => fun
  | [d1, d2, d3] => { results := [.lit (.bool true)], args := [d1, d2, d3] }
  | _ => none }
def probeErrorRow : OpenClaim := { program := "ytabdlpimphgfiaa", sum := "8c7f73a6469be1487c93af44872f71afb6c4651edb93cd4bbb9707ab3ea65f30", func := "swarf/swarflaw51.ProbeError", spec := "probeError", apart := false }
def ProbeErrorSaid : Prop := probeErrorRow.holds Try.pinned (OpenSpec.ofChange probeErrorSpec)

/-- ITS FALSE NEIGHBOUR: 'it returns false'. Refute it at one input. -/
def probeErrorWrong : ChangeSpec := { name := "probeError", fn := fun _ => fun
  | [d1, d2, d3] => { results := [.lit (.bool false)], args := [d1, d2, d3] }
  | _ => none }
def ProbeErrorWrongFalsely : Prop := probeErrorRow.holds Try.pinned (OpenSpec.ofChange probeErrorWrong)

/-- 'swarflaw51.ProbeHole': WHATEVER THE INPUT: true; the input reads as it did. -/
def probeHoleSpec : ChangeSpec := { name := "probeHole", fn := fun _ => fun
  | [d1, d2, d3] => { results := [.lit (.bool true)], args := [d1, d2, d3] }
  | _ => none }
def probeHoleRow : OpenClaim := { program := "ytabdlpimphgfiaa", sum := "8c7f73a6469be1487c93af44872f71afb6c4651edb93cd4bbb9707ab3ea65f30", func := "swarf/swarflaw51.ProbeHole", spec := "probeHole", unfollowed := true, recurses := true, apart := false }
def ProbeHoleSaid : Prop := probeHoleRow.holds Try.pinned (OpenSpec.ofChange probeHoleSpec)

/-- ITS FALSE NEIGHBOUR: 'it returns false'. Refute it at one input. -/
def probeHoleWrong : ChangeSpec := { name := "probeHole", fn := fun _ => fun
  | [d1, d2, d3] => { results := [.lit (.bool false)], args := [d1, d2, d3] }
  | _ => none }
def ProbeHoleWrongFalsely : Prop := probeHoleRow.holds Try.pinned (OpenSpec.ofChange probeHoleWrong)

/-- 'swarflaw51.ProbeWall': WHATEVER THE INPUT: true; the input reads as it did. -/
def probeWallSpec : ChangeSpec := { name := "probeWall", fn := fun _ => fun
  | [d1, d2, d3] => { results := [.lit (.bool true)], args := [d1, d2, d3] }
  | _ => none }
def probeWallRow : OpenClaim := { program := "ytabdlpimphgfiaa", sum := "8c7f73a6469be1487c93af44872f71afb6c4651edb93cd4bbb9707ab3ea65f30", func := "swarf/swarflaw51.ProbeWall", spec := "probeWall", apart := false }
def ProbeWallSaid : Prop := probeWallRow.holds Try.pinned (OpenSpec.ofChange probeWallSpec)

/-- ITS FALSE NEIGHBOUR: 'it returns false'. Refute it at one input. -/
def probeWallWrong : ChangeSpec := { name := "probeWall", fn := fun _ => fun
  | [d1, d2, d3] => { results := [.lit (.bool false)], args := [d1, d2, d3] }
  | _ => none }
def ProbeWallWrongFalsely : Prop := probeWallRow.holds Try.pinned (OpenSpec.ofChange probeWallWrong)

/-- 'swarflaw51.ProbeDisplaced': WHATEVER THE INPUT: true; the input reads as it did. -/
def probeDisplacedSpec : ChangeSpec := { name := "probeDisplaced", fn := fun _ => fun
  | [d1, d2, d3] => { results := [.lit (.bool true)], args := [d1, d2, d3] }
  | _ => none }
def probeDisplacedRow : OpenClaim := { program := "ytabdlpimphgfiaa", sum := "8c7f73a6469be1487c93af44872f71afb6c4651edb93cd4bbb9707ab3ea65f30", func := "swarf/swarflaw51.ProbeDisplaced", spec := "probeDisplaced", unfollowed := true, recurses := true, apart := false }
def ProbeDisplacedSaid : Prop := probeDisplacedRow.holds Try.pinned (OpenSpec.ofChange probeDisplacedSpec)

/-- ITS FALSE NEIGHBOUR: 'it returns false'. Refute it at one input. -/
def probeDisplacedWrong : ChangeSpec := { name := "probeDisplaced", fn := fun _ => fun
  | [d1, d2, d3] => { results := [.lit (.bool false)], args := [d1, d2, d3] }
  | _ => none }
def ProbeDisplacedWrongFalsely : Prop := probeDisplacedRow.holds Try.pinned (OpenSpec.ofChange probeDisplacedWrong)

/- THE SECOND FORM. 'bulk': how many values and letters a reading holds, each counted each time it is reached (what is shared counts as often as it is met; a slice's spare places count too). A statement '..UptoSaid' is the law's where the arguments, and the package variables that the reading takes, are together of bulk at most 1048576: NARROWER than '..Said'. Prove '..Said' where nothing that the law and all that it calls make is longer than what came in: it says more and counts as full. Else prove '..UptoSaid'. A law counts once. -/
mutual
def uptoBulk {H : Type} : DataW H → Nat
  | .lit (.string bytes) => bytes.length + 1
  | .lit _ => 1
  | .nil => 1
  | .ptr d => uptoBulk d + 1
  | .slice elems spare => uptoBulkAll elems + uptoBulkAll spare + 1
  | .agg parts => uptoBulkAll parts + 1
  | .iface _ d => uptoBulk d + 1
  | .map entries => uptoBulkEntries entries + 1
  | .held _ => 1
def uptoBulkAll {H : Type} : List (DataW H) → Nat
  | [] => 0
  | d :: r => uptoBulk d + uptoBulkAll r
def uptoBulkEntries {H : Type} : List (Lit × DataW H) → Nat
  | [] => 0
  | x :: r => uptoBulkEntry x + uptoBulkEntries r
def uptoBulkEntry {H : Type} : Lit × DataW H → Nat
  | (.string bytes, d) => bytes.length + uptoBulk d + 1
  | (_, d) => uptoBulk d + 1
 end
def uptoSmall : (H : Type) → List (DataW H) → Bool := fun _ ds => decide (uptoBulkAll ds ≤ 1048576)
def OpenSpec.upto (s : _root_.Go.ChangeSpec) : _root_.Go.OpenSpec := { _root_.Go.OpenSpec.ofChange s with cond := some uptoSmall }

/-- 'swarflaw51.ProbeTouch', WHERE WHAT IT READS IS OF BULK AT MOST 1048576: true; the input reads as it did. -/
def probeTouchUptoRow : OpenClaim := { program := "ytabdlpimphgfiaa", sum := "8c7f73a6469be1487c93af44872f71afb6c4651edb93cd4bbb9707ab3ea65f30", func := "swarf/swarflaw51.ProbeTouch", spec := "probeTouch", apart := false, narrowed := true }
def ProbeTouchUptoSaid : Prop := probeTouchUptoRow.holds Try.pinned (OpenSpec.upto probeTouchSpec)

/-- 'swarflaw51.ProbeError', WHERE WHAT IT READS IS OF BULK AT MOST 1048576: true; the input reads as it did. -/
def probeErrorUptoRow : OpenClaim := { program := "ytabdlpimphgfiaa", sum := "8c7f73a6469be1487c93af44872f71afb6c4651edb93cd4bbb9707ab3ea65f30", func := "swarf/swarflaw51.ProbeError", spec := "probeError", apart := false, narrowed := true }
def ProbeErrorUptoSaid : Prop := probeErrorUptoRow.holds Try.pinned (OpenSpec.upto probeErrorSpec)

/-- 'swarflaw51.ProbeHole', WHERE WHAT IT READS IS OF BULK AT MOST 1048576: true; the input reads as it did. -/
def probeHoleUptoRow : OpenClaim := { program := "ytabdlpimphgfiaa", sum := "8c7f73a6469be1487c93af44872f71afb6c4651edb93cd4bbb9707ab3ea65f30", func := "swarf/swarflaw51.ProbeHole", spec := "probeHole", unfollowed := true, recurses := true, apart := false, narrowed := true }
def ProbeHoleUptoSaid : Prop := probeHoleUptoRow.holds Try.pinned (OpenSpec.upto probeHoleSpec)

/-- 'swarflaw51.ProbeWall', WHERE WHAT IT READS IS OF BULK AT MOST 1048576: true; the input reads as it did. -/
def probeWallUptoRow : OpenClaim := { program := "ytabdlpimphgfiaa", sum := "8c7f73a6469be1487c93af44872f71afb6c4651edb93cd4bbb9707ab3ea65f30", func := "swarf/swarflaw51.ProbeWall", spec := "probeWall", apart := false, narrowed := true }
def ProbeWallUptoSaid : Prop := probeWallUptoRow.holds Try.pinned (OpenSpec.upto probeWallSpec)

/-- 'swarflaw51.ProbeDisplaced', WHERE WHAT IT READS IS OF BULK AT MOST 1048576: true; the input reads as it did. -/
def probeDisplacedUptoRow : OpenClaim := { program := "ytabdlpimphgfiaa", sum := "8c7f73a6469be1487c93af44872f71afb6c4651edb93cd4bbb9707ab3ea65f30", func := "swarf/swarflaw51.ProbeDisplaced", spec := "probeDisplaced", unfollowed := true, recurses := true, apart := false, narrowed := true }
def ProbeDisplacedUptoSaid : Prop := probeDisplacedUptoRow.holds Try.pinned (OpenSpec.upto probeDisplacedSpec)

end Rows
end Go.Proofs.Ytabdlpimphgfiaa
