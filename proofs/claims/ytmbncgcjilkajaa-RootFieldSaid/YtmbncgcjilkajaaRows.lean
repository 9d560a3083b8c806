/-
  No cell of these rows narrows 'for every input' (looked for: loops, veiled, ifaces, maps, wideKeys, modest, calm, conditions, laid).
  DERIVED. THE GIVEN ROWS OF THIS SEAT. 3 by the template 'for every input the law returns true; each argument reads behind the call as it read before'; 0 by the template 'total and deterministic' (their statements: YtmbncgcjilkajaaTotals.lean).
  GIVEN WITH THE SEED: the statements are not yours to turn. If you find one false, say at which input.
  Laid BY PROGRAM, IN A SANDBOX (cutbox-rows.mjs): the forced cells as the released guide's own fill.sh prints them over the translation 54e66c377a580f1a… (all of the seat's roots in one cut). By AI agents, Wed Nov 11 2026. No macro, syntax, notation, axiom, sorry.
-/
import Derived.Test.YtmbncgcjilkajaaChecked
import GoSem.Claim
import GoSem.ClaimJoined
import GoSem.ClaimMapViews
import Derived.JoinedTies
import Derived.KernelRfl
namespace Go.Proofs.Ytmbncgcjilkajaa
/- THE CELL 'sum', in the pinned program and in every row, IS THE sha256 OF THE DUMP (.gsa) THAT YtmbncgcjilkajaaProg.lean LOADS. Nothing in Lean hashes anything: it is a label: what it is worth is what the hold of that sum in a sandbox is worth. -/
noncomputable def Try.pinned : Pinned := { name := "ytmbncgcjilkajaa", sum := "54e66c377a580f1a97d27f8d8dc2c1a2604cfe3ec45fe96fe4fd61530c0bbe01", checked := Try.checked }
namespace Rows
def none {H : Type} : Left H := { results := [], args := [] }

/-- 'swarflaw03.RootMake': WHATEVER THE INPUT: true; the input reads as it did. -/
def rootMakeSpec : ChangeSpec := { name := "rootMake", fn := fun _ => fun
  | [d1, d2, d3] => { results := [.lit (.bool true)], args := [d1, d2, d3] }
  | _ => none }
def rootMakeRow : OpenClaim := { program := "ytmbncgcjilkajaa", sum := "54e66c377a580f1a97d27f8d8dc2c1a2604cfe3ec45fe96fe4fd61530c0bbe01", func := "swarf/swarflaw03.RootMake", spec := "rootMake", apart := false }
def RootMakeSaid : Prop := rootMakeRow.holds Try.pinned (OpenSpec.ofChange rootMakeSpec)

/-- ITS FALSE NEIGHBOUR: 'it returns false'. Refute it at one input. -/
def rootMakeWrong : ChangeSpec := { name := "rootMake", fn := fun _ => fun
  | [d1, d2, d3] => { results := [.lit (.bool false)], args := [d1, d2, d3] }
  | _ => none }
def RootMakeWrongFalsely : Prop := rootMakeRow.holds Try.pinned (OpenSpec.ofChange rootMakeWrong)

/-- 'swarflaw03.RootValid': WHATEVER THE INPUT: true; the input reads as it did. -/
def rootValidSpec : ChangeSpec := { name := "rootValid", fn := fun _ => fun
  | [d] => { results := [.lit (.bool true)], args := [d] }
  | _ => none }
def rootValidRow : OpenClaim := { program := "ytmbncgcjilkajaa", sum := "54e66c377a580f1a97d27f8d8dc2c1a2604cfe3ec45fe96fe4fd61530c0bbe01", func := "swarf/swarflaw03.RootValid", spec := "rootValid", apart := false }
def RootValidSaid : Prop := rootValidRow.holds Try.pinned (OpenSpec.ofChange rootValidSpec)

/-- ITS FALSE NEIGHBOUR: 'it returns false'. Refute it at one input. -/
def rootValidWrong : ChangeSpec := { name := "rootValid", fn := fun _ => fun
  | [d] => { results := [.lit (.bool false)], args := [d] }
  | _ => none }
def RootValidWrongFalsely : Prop := rootValidRow.holds Try.pinned (OpenSpec.ofChange rootValidWrong)

/-- 'swarflaw03.RootField': WHATEVER THE INPUT: true; the input reads as it did. -/
def rootFieldSpec : ChangeSpec := { name := "rootField", fn := fun _ => fun
  | [d] => { results := [.lit (.bool true)], args := [d] }
  | _ => none }
def rootFieldRow : OpenClaim := { program := "ytmbncgcjilkajaa", sum := "54e66c377a580f1a97d27f8d8dc2c1a2604cfe3ec45fe96fe4fd61530c0bbe01", func := "swarf/swarflaw03.RootField", spec := "rootField", apart := false }
def RootFieldSaid : Prop := rootFieldRow.holds Try.pinned (OpenSpec.ofChange rootFieldSpec)

/-- ITS FALSE NEIGHBOUR: 'it returns false'. Refute it at one input. -/
def rootFieldWrong : ChangeSpec := { name := "rootField", fn := fun _ => fun
  | [d] => { results := [.lit (.bool false)], args := [d] }
  | _ => none }
def RootFieldWrongFalsely : Prop := rootFieldRow.holds Try.pinned (OpenSpec.ofChange rootFieldWrong)

/- THE SECOND FORM. 'bulk': how many values and letters a reading holds, each counted each time it is reached (what is shared counts as often as it is met; a slice's spare places count too). A statement '..UptoSaid' is the law's where the arguments, and the package variables that the reading takes, are together of bulk at most 1048576: NARROWER than '..Said'. Prove '..Said' where nothing that the law and all that it calls make is longer than what came in: it says more and counts as full. Else prove '..UptoSaid'. A law counts once. -/
mutual
def uptoBulk {H : Type} : DataW H → Nat
  | .lit (.string bytes) => bytes.length + 1
  | .lit _ => 1
  | .nil => 1
  | .ptr d => uptoBulk d + 1
  | .slice elems spare => uptoBulkAll elems + uptoBulkAll spare + 1
  | .agg parts => uptoBulkAll parts + 1
  | .iface _ d => uptoBulk d + 1
  | .map entries => uptoBulkEntries entries + 1
  | .held _ => 1
def uptoBulkAll {H : Type} : List (DataW H) → Nat
  | [] => 0
  | d :: r => uptoBulk d + uptoBulkAll r
def uptoBulkEntries {H : Type} : List (Lit × DataW H) → Nat
  | [] => 0
  | x :: r => uptoBulkEntry x + uptoBulkEntries r
def uptoBulkEntry {H : Type} : Lit × DataW H → Nat
  | (.string bytes, d) => bytes.length + uptoBulk d + 1
  | (_, d) => uptoBulk d + 1
 end
def uptoSmall : (H : Type) → List (DataW H) → Bool := fun _ ds => decide (uptoBulkAll ds ≤ 1048576)
def OpenSpec.upto (s : _root_.Go.ChangeSpec) : _root_.Go.OpenSpec := { _root_.Go.OpenSpec.ofChange s with cond := some uptoSmall }

/-- 'swarflaw03.RootMake', WHERE WHAT IT READS IS OF BULK AT MOST 1048576: true; the input reads as it did. -/
def rootMakeUptoRow : OpenClaim := { program := "ytmbncgcjilkajaa", sum := "54e66c377a580f1a97d27f8d8dc2c1a2604cfe3ec45fe96fe4fd61530c0bbe01", func := "swarf/swarflaw03.RootMake", spec := "rootMake", apart := false, narrowed := true }
def RootMakeUptoSaid : Prop := rootMakeUptoRow.holds Try.pinned (OpenSpec.upto rootMakeSpec)

/-- 'swarflaw03.RootValid', WHERE WHAT IT READS IS OF BULK AT MOST 1048576: true; the input reads as it did. -/
def rootValidUptoRow : OpenClaim := { program := "ytmbncgcjilkajaa", sum := "54e66c377a580f1a97d27f8d8dc2c1a2604cfe3ec45fe96fe4fd61530c0bbe01", func := "swarf/swarflaw03.RootValid", spec := "rootValid", apart := false, narrowed := true }
def RootValidUptoSaid : Prop := rootValidUptoRow.holds Try.pinned (OpenSpec.upto rootValidSpec)

/-- 'swarflaw03.RootField', WHERE WHAT IT READS IS OF BULK AT MOST 1048576: true; the input reads as it did. -/
def rootFieldUptoRow : OpenClaim := { program := "ytmbncgcjilkajaa", sum := "54e66c377a580f1a97d27f8d8dc2c1a2604cfe3ec45fe96fe4fd61530c0bbe01", func := "swarf/swarflaw03.RootField", spec := "rootField", apart := false, narrowed := true }
def RootFieldUptoSaid : Prop := rootFieldUptoRow.holds Try.pinned (OpenSpec.upto rootFieldSpec)

end Rows
end Go.Proofs.Ytmbncgcjilkajaa
