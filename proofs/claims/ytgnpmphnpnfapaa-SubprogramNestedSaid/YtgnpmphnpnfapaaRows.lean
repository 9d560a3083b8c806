/-
  No cell of these rows narrows 'for every input' (looked for: loops, veiled, ifaces, maps, wideKeys, modest, calm, conditions, laid).
  DERIVED. THE GIVEN ROWS OF THIS SEAT. 8 by the template 'for every input the law returns true; each argument reads behind the call as it read before'; 0 by the template 'total and deterministic' (their statements: YtgnpmphnpnfapaaTotals.lean).
  GIVEN WITH THE SEED: the statements are not yours to turn. If you find one false, say at which input.
  Laid BY PROGRAM, IN A SANDBOX (cutbox-rows.mjs): the forced cells as the released guide's own fill.sh prints them over the translation 303761c80cf38205… (all of the seat's roots in one cut). By AI agents, Wed Nov 11 2026. No macro, syntax, notation, axiom, sorry.
-/
import Derived.Test.YtgnpmphnpnfapaaChecked
import GoSem.Claim
import GoSem.ClaimJoined
import GoSem.ClaimMapViews
import Derived.JoinedTies
import Derived.KernelRfl
namespace Go.Proofs.Ytgnpmphnpnfapaa
/- THE CELL 'sum', in the pinned program and in every row, IS THE sha256 OF THE DUMP (.gsa) THAT YtgnpmphnpnfapaaProg.lean LOADS. Nothing in Lean hashes anything: it is a label: what it is worth is what the hold of that sum in a sandbox is worth. -/
noncomputable def Try.pinned : Pinned := { name := "ytgnpmphnpnfapaa", sum := "303761c80cf38205afabd42b371bc6e349db87f71cbacd295287cac668de7929", checked := Try.checked }
namespace Rows
def none {H : Type} : Left H := { results := [], args := [] }

/-- 'swarflaw43.SubprogramCall': WHATEVER THE INPUT: true; the input reads as it did. -/
def subprogramCallSpec : ChangeSpec := { name := "subprogramCall", fn := fun _ => fun
  | [d] => { results := [.lit (.bool true)], args := [d] }
  | _ => none }
def subprogramCallRow : OpenClaim := { program := "ytgnpmphnpnfapaa", sum := "303761c80cf38205afabd42b371bc6e349db87f71cbacd295287cac668de7929", func := "swarf/swarflaw43.SubprogramCall", spec := "subprogramCall", unfollowed := true, recurses := true, apart := false }
def SubprogramCallSaid : Prop := subprogramCallRow.holds Try.pinned (OpenSpec.ofChange subprogramCallSpec)

/-- ITS FALSE NEIGHBOUR: 'it returns false'. Refute it at one input. -/
def subprogramCallWrong : ChangeSpec := { name := "subprogramCall", fn := fun _ => fun
  | [d] => { results := [.lit (.bool false)], args := [d] }
  | _ => none }
def SubprogramCallWrongFalsely : Prop := subprogramCallRow.holds Try.pinned (OpenSpec.ofChange subprogramCallWrong)

/-- 'swarflaw43.SubprogramInline': WHATEVER THE INPUT: true; the input reads as it did. -/
def subprogramInlineSpec : ChangeSpec := { name := "subprogramInline", fn := fun _ => fun
  | [d1, d2] => { results := [.lit (.bool true)], args := [d1, d2] }
  | _ => none }
def subprogramInlineRow : OpenClaim := { program := "ytgnpmphnpnfapaa", sum := "303761c80cf38205afabd42b371bc6e349db87f71cbacd295287cac668de7929", func := "swarf/swarflaw43.SubprogramInline", spec := "subprogramInline", unfollowed := true, recurses := true, apart := false }
def SubprogramInlineSaid : Prop := subprogramInlineRow.holds Try.pinned (OpenSpec.ofChange subprogramInlineSpec)

/-- ITS FALSE NEIGHBOUR: 'it returns false'. Refute it at one input. -/
def subprogramInlineWrong : ChangeSpec := { name := "subprogramInline", fn := fun _ => fun
  | [d1, d2] => { results := [.lit (.bool false)], args := [d1, d2] }
  | _ => none }
def SubprogramInlineWrongFalsely : Prop := subprogramInlineRow.holds Try.pinned (OpenSpec.ofChange subprogramInlineWrong)

/-- 'swarflaw43.SubprogramFold': WHATEVER THE INPUT: true; the input reads as it did. -/
def subprogramFoldSpec : ChangeSpec := { name := "subprogramFold", fn := fun _ => fun
  | [d1, d2, d3] => { results := [.lit (.bool true)], args := [d1, d2, d3] }
  | _ => none }
def subprogramFoldRow : OpenClaim := { program := "ytgnpmphnpnfapaa", sum := "303761c80cf38205afabd42b371bc6e349db87f71cbacd295287cac668de7929", func := "swarf/swarflaw43.SubprogramFold", spec := "subprogramFold", unfollowed := true, recurses := true, apart := false }
def SubprogramFoldSaid : Prop := subprogramFoldRow.holds Try.pinned (OpenSpec.ofChange subprogramFoldSpec)

/-- ITS FALSE NEIGHBOUR: 'it returns false'. Refute it at one input. -/
def subprogramFoldWrong : ChangeSpec := { name := "subprogramFold", fn := fun _ => fun
  | [d1, d2, d3] => { results := [.lit (.bool false)], args := [d1, d2, d3] }
  | _ => none }
def SubprogramFoldWrongFalsely : Prop := subprogramFoldRow.holds Try.pinned (OpenSpec.ofChange subprogramFoldWrong)

/-- 'swarflaw43.SubprogramFolded': WHATEVER THE INPUT: true; the input reads as it did. -/
def subprogramFoldedSpec : ChangeSpec := { name := "subprogramFolded", fn := fun _ => fun
  | [d1, d2, d3] => { results := [.lit (.bool true)], args := [d1, d2, d3] }
  | _ => none }
def subprogramFoldedRow : OpenClaim := { program := "ytgnpmphnpnfapaa", sum := "303761c80cf38205afabd42b371bc6e349db87f71cbacd295287cac668de7929", func := "swarf/swarflaw43.SubprogramFolded", spec := "subprogramFolded", unfollowed := true, recurses := true, apart := false }
def SubprogramFoldedSaid : Prop := subprogramFoldedRow.holds Try.pinned (OpenSpec.ofChange subprogramFoldedSpec)

/-- ITS FALSE NEIGHBOUR: 'it returns false'. Refute it at one input. -/
def subprogramFoldedWrong : ChangeSpec := { name := "subprogramFolded", fn := fun _ => fun
  | [d1, d2, d3] => { results := [.lit (.bool false)], args := [d1, d2, d3] }
  | _ => none }
def SubprogramFoldedWrongFalsely : Prop := subprogramFoldedRow.holds Try.pinned (OpenSpec.ofChange subprogramFoldedWrong)

/-- 'swarflaw43.SubprogramExpand': WHATEVER THE INPUT: true; the input reads as it did. -/
def subprogramExpandSpec : ChangeSpec := { name := "subprogramExpand", fn := fun _ => fun
  | [d] => { results := [.lit (.bool true)], args := [d] }
  | _ => none }
def subprogramExpandRow : OpenClaim := { program := "ytgnpmphnpnfapaa", sum := "303761c80cf38205afabd42b371bc6e349db87f71cbacd295287cac668de7929", func := "swarf/swarflaw43.SubprogramExpand", spec := "subprogramExpand", unfollowed := true, recurses := true, apart := false }
def SubprogramExpandSaid : Prop := subprogramExpandRow.holds Try.pinned (OpenSpec.ofChange subprogramExpandSpec)

/-- ITS FALSE NEIGHBOUR: 'it returns false'. Refute it at one input. -/
def subprogramExpandWrong : ChangeSpec := { name := "subprogramExpand", fn := fun _ => fun
  | [d] => { results := [.lit (.bool false)], args := [d] }
  | _ => none }
def SubprogramExpandWrongFalsely : Prop := subprogramExpandRow.holds Try.pinned (OpenSpec.ofChange subprogramExpandWrong)

/-- 'swarflaw43.SubprogramNested': WHATEVER THE INPUT: true; the input reads as it did. -/
def subprogramNestedSpec : ChangeSpec := { name := "subprogramNested", fn := fun _ => fun
  | [d1, d2, d3] => { results := [.lit (.bool true)], args := [d1, d2, d3] }
  | _ => none }
def subprogramNestedRow : OpenClaim := { program := "ytgnpmphnpnfapaa", sum := "303761c80cf38205afabd42b371bc6e349db87f71cbacd295287cac668de7929", func := "swarf/swarflaw43.SubprogramNested", spec := "subprogramNested", unfollowed := true, recurses := true, apart := false }
def SubprogramNestedSaid : Prop := subprogramNestedRow.holds Try.pinned (OpenSpec.ofChange subprogramNestedSpec)

/-- ITS FALSE NEIGHBOUR: 'it returns false'. Refute it at one input. -/
def subprogramNestedWrong : ChangeSpec := { name := "subprogramNested", fn := fun _ => fun
  | [d1, d2, d3] => { results := [.lit (.bool false)], args := [d1, d2, d3] }
  | _ => none }
def SubprogramNestedWrongFalsely : Prop := subprogramNestedRow.holds Try.pinned (OpenSpec.ofChange subprogramNestedWrong)

/-- 'swarflaw43.SubprogramSplit': WHATEVER THE INPUT: true; the input reads as it did. -/
def subprogramSplitSpec : ChangeSpec := { name := "subprogramSplit", fn := fun _ => fun
  | [d] => { results := [.lit (.bool true)], args := [d] }
  | _ => none }
def subprogramSplitRow : OpenClaim := { program := "ytgnpmphnpnfapaa", sum := "303761c80cf38205afabd42b371bc6e349db87f71cbacd295287cac668de7929", func := "swarf/swarflaw43.SubprogramSplit", spec := "subprogramSplit", unfollowed := true, recurses := true, apart := false }
def SubprogramSplitSaid : Prop := subprogramSplitRow.holds Try.pinned (OpenSpec.ofChange subprogramSplitSpec)

/-- ITS FALSE NEIGHBOUR: 'it returns false'. Refute it at one input. -/
def subprogramSplitWrong : ChangeSpec := { name := "subprogramSplit", fn := fun _ => fun
  | [d] => { results := [.lit (.bool false)], args := [d] }
  | _ => none }
def SubprogramSplitWrongFalsely : Prop := subprogramSplitRow.holds Try.pinned (OpenSpec.ofChange subprogramSplitWrong)

/-- 'swarflaw43.SubprogramJoin': WHATEVER THE INPUT: true; the input reads as it did. -/
def subprogramJoinSpec : ChangeSpec := { name := "subprogramJoin", fn := fun _ => fun
  | [d] => { results := [.lit (.bool true)], args := [d] }
  | _ => none }
def subprogramJoinRow : OpenClaim := { program := "ytgnpmphnpnfapaa", sum := "303761c80cf38205afabd42b371bc6e349db87f71cbacd295287cac668de7929", func := "swarf/swarflaw43.SubprogramJoin", spec := "subprogramJoin", unfollowed := true, recurses := true, apart := false }
def SubprogramJoinSaid : Prop := subprogramJoinRow.holds Try.pinned (OpenSpec.ofChange subprogramJoinSpec)

/-- ITS FALSE NEIGHBOUR: 'it returns false'. Refute it at one input. -/
def subprogramJoinWrong : ChangeSpec := { name := "subprogramJoin", fn := fun _ => fun
  | [d] => { results := [.lit (.bool false)], args := [d] }
  | _ => none }
def SubprogramJoinWrongFalsely : Prop := subprogramJoinRow.holds Try.pinned (OpenSpec.ofChange subprogramJoinWrong)

/- THE SECOND FORM. 'bulk': how many values and letters a reading holds, each counted each time it is reached (what is shared counts as often as it is met; a slice's spare places count too). A statement '..UptoSaid' is the law's where the arguments, and the package variables that the reading takes, are together of bulk at most 1048576: NARROWER than '..Said'. Prove '..Said' where nothing that the law and all that it calls make is longer than what came in: it says more and counts as full. Else prove '..UptoSaid'. A law counts once. -/
mutual
def uptoBulk {H : Type} : DataW H → Nat
  | .lit (.string bytes) => bytes.length + 1
  | .lit _ => 1
  | .nil => 1
  | .ptr d => uptoBulk d + 1
  | .slice elems spare => uptoBulkAll elems + uptoBulkAll spare + 1
  | .agg parts => uptoBulkAll parts + 1
  | .iface _ d => uptoBulk d + 1
  | .map entries => uptoBulkEntries entries + 1
  | .held _ => 1
def uptoBulkAll {H : Type} : List (DataW H) → Nat
  | [] => 0
  | d :: r => uptoBulk d + uptoBulkAll r
def uptoBulkEntries {H : Type} : List (Lit × DataW H) → Nat
  | [] => 0
  | x :: r => uptoBulkEntry x + uptoBulkEntries r
def uptoBulkEntry {H : Type} : Lit × DataW H → Nat
  | (.string bytes, d) => bytes.length + uptoBulk d + 1
  | (_, d) => uptoBulk d + 1
 end
def uptoSmall : (H : Type) → List (DataW H) → Bool := fun _ ds => decide (uptoBulkAll ds ≤ 1048576)
def OpenSpec.upto (s : _root_.Go.ChangeSpec) : _root_.Go.OpenSpec := { _root_.Go.OpenSpec.ofChange s with cond := some uptoSmall }

/-- 'swarflaw43.SubprogramCall', WHERE WHAT IT READS IS OF BULK AT MOST 1048576: true; the input reads as it did. -/
def subprogramCallUptoRow : OpenClaim := { program := "ytgnpmphnpnfapaa", sum := "303761c80cf38205afabd42b371bc6e349db87f71cbacd295287cac668de7929", func := "swarf/swarflaw43.SubprogramCall", spec := "subprogramCall", unfollowed := true, recurses := true, apart := false, narrowed := true }
def SubprogramCallUptoSaid : Prop := subprogramCallUptoRow.holds Try.pinned (OpenSpec.upto subprogramCallSpec)

/-- 'swarflaw43.SubprogramInline', WHERE WHAT IT READS IS OF BULK AT MOST 1048576: true; the input reads as it did. -/
def subprogramInlineUptoRow : OpenClaim := { program := "ytgnpmphnpnfapaa", sum := "303761c80cf38205afabd42b371bc6e349db87f71cbacd295287cac668de7929", func := "swarf/swarflaw43.SubprogramInline", spec := "subprogramInline", unfollowed := true, recurses := true, apart := false, narrowed := true }
def SubprogramInlineUptoSaid : Prop := subprogramInlineUptoRow.holds Try.pinned (OpenSpec.upto subprogramInlineSpec)

/-- 'swarflaw43.SubprogramFold', WHERE WHAT IT READS IS OF BULK AT MOST 1048576: true; the input reads as it did. -/
def subprogramFoldUptoRow : OpenClaim := { program := "ytgnpmphnpnfapaa", sum := "303761c80cf38205afabd42b371bc6e349db87f71cbacd295287cac668de7929", func := "swarf/swarflaw43.SubprogramFold", spec := "subprogramFold", unfollowed := true, recurses := true, apart := false, narrowed := true }
def SubprogramFoldUptoSaid : Prop := subprogramFoldUptoRow.holds Try.pinned (OpenSpec.upto subprogramFoldSpec)

/-- 'swarflaw43.SubprogramFolded', WHERE WHAT IT READS IS OF BULK AT MOST 1048576: true; the input reads as it did. -/
def subprogramFoldedUptoRow : OpenClaim := { program := "ytgnpmphnpnfapaa", sum := "303761c80cf38205afabd42b371bc6e349db87f71cbacd295287cac668de7929", func := "swarf/swarflaw43.SubprogramFolded", spec := "subprogramFolded", unfollowed := true, recurses := true, apart := false, narrowed := true }
def SubprogramFoldedUptoSaid : Prop := subprogramFoldedUptoRow.holds Try.pinned (OpenSpec.upto subprogramFoldedSpec)

/-- 'swarflaw43.SubprogramExpand', WHERE WHAT IT READS IS OF BULK AT MOST 1048576: true; the input reads as it did. -/
def subprogramExpandUptoRow : OpenClaim := { program := "ytgnpmphnpnfapaa", sum := "303761c80cf38205afabd42b371bc6e349db87f71cbacd295287cac668de7929", func := "swarf/swarflaw43.SubprogramExpand", spec := "subprogramExpand", unfollowed := true, recurses := true, apart := false, narrowed := true }
def SubprogramExpandUptoSaid : Prop := subprogramExpandUptoRow.holds Try.pinned (OpenSpec.upto subprogramExpandSpec)

/-- 'swarflaw43.SubprogramNested', WHERE WHAT IT READS IS OF BULK AT MOST 1048576: true; the input reads as it did. -/
def subprogramNestedUptoRow : OpenClaim := { program := "ytgnpmphnpnfapaa", sum := "303761c80cf38205afabd42b371bc6e349db87f71cbacd295287cac668de7929", func := "swarf/swarflaw43.SubprogramNested", spec := "subprogramNested", unfollowed := true, recurses := true, apart := false, narrowed := true }
def SubprogramNestedUptoSaid : Prop := subprogramNestedUptoRow.holds Try.pinned (OpenSpec.upto subprogramNestedSpec)

/-- 'swarflaw43.SubprogramSplit', WHERE WHAT IT READS IS OF BULK AT MOST 1048576: true; the input reads as it did. -/
def subprogramSplitUptoRow : OpenClaim := { program := "ytgnpmphnpnfapaa", sum := "303761c80cf38205afabd42b371bc6e349db87f71cbacd295287cac668de7929", func := "swarf/swarflaw43.SubprogramSplit", spec := "subprogramSplit", unfollowed := true, recurses := true, apart := false, narrowed := true }
def SubprogramSplitUptoSaid : Prop := subprogramSplitUptoRow.holds Try.pinned (OpenSpec.upto subprogramSplitSpec)

/-- 'swarflaw43.SubprogramJoin', WHERE WHAT IT READS IS OF BULK AT MOST 1048576: true; the input reads as it did. -/
def subprogramJoinUptoRow : OpenClaim := { program := "ytgnpmphnpnfapaa", sum := "303761c80cf38205afabd42b371bc6e349db87f71cbacd295287cac668de7929", func := "swarf/swarflaw43.SubprogramJoin", spec := "subprogramJoin", unfollowed := true, recurses := true, apart := false, narrowed := true }
def SubprogramJoinUptoSaid : Prop := subprogramJoinUptoRow.holds Try.pinned (OpenSpec.upto subprogramJoinSpec)

end Rows
end Go.Proofs.Ytgnpmphnpnfapaa
