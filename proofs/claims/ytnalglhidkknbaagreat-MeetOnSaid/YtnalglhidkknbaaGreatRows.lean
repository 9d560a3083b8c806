/-
  No cell of these rows narrows 'for every input' (looked for: loops, veiled, ifaces, maps, wideKeys, modest, calm, conditions, laid).
  DERIVED. THE GIVEN ROWS OF THIS SEAT. 8 by the template 'for every input the law returns true; each argument reads behind the call as it read before'; 0 by the template 'total and deterministic' (their statements: YtnalglhidkknbaaGreatTotals.lean).
  GIVEN WITH THE SEED: the statements are not yours to turn. If you find one false, say at which input.
  Laid BY PROGRAM, IN A SANDBOX (cutbox-rows.mjs): the forced cells as the released guide's own fill.sh prints them over the translation d6247d27267e007a… (all of the seat's roots in one cut). By AI agents, Wed Nov 11 2026. No macro, syntax, notation, axiom, sorry.
-/
import Derived.Test.YtnalglhidkknbaaGreatChecked
import GoSem.Claim
import GoSem.ClaimJoined
import GoSem.ClaimMapViews
import Derived.JoinedTies
import Derived.KernelRfl
namespace Go.Proofs.YtnalglhidkknbaaGreat
/- THE CELL 'sum', in the pinned program and in every row, IS THE sha256 OF THE DUMP (.gsa) THAT YtnalglhidkknbaaGreatProg.lean LOADS. Nothing in Lean hashes anything: it is a label: what it is worth is what the hold of that sum in a sandbox is worth. -/
noncomputable def Tryz.pinned : Pinned := { name := "ytnalglhidkknbaagreat", sum := "d6247d27267e007a9683809e3ac37c97e28e020002a6c29a082efcb8c5ef9069", checked := Tryz.checked }
namespace Rows
def none {H : Type} : Left H := { results := [], args := [] }

/-- 'swarflaw09.MeetLines': WHATEVER THE INPUT: true; the input reads as it did. -/
def meetLinesSpec : ChangeSpec := { name := "meetLines", fn := fun _ => fun
  | [d1, d2] => { results := [.lit (.bool true)], args := [d1, d2] }
  | _ => none }
def meetLinesRow : OpenClaim := { program := "ytnalglhidkknbaagreat", sum := "d6247d27267e007a9683809e3ac37c97e28e020002a6c29a082efcb8c5ef9069", func := "swarf/swarflaw09.MeetLines", spec := "meetLines", unfollowed := true, recurses := true, apart := false }
def MeetLinesSaid : Prop := meetLinesRow.holds Tryz.pinned (OpenSpec.ofChange meetLinesSpec)

/-- ITS FALSE NEIGHBOUR: 'it returns false'. Refute it at one input. -/
def meetLinesWrong : ChangeSpec := { name := "meetLines", fn := fun _ => fun
  | [d1, d2] => { results := [.lit (.bool false)], args := [d1, d2] }
  | _ => none }
def MeetLinesWrongFalsely : Prop := meetLinesRow.holds Tryz.pinned (OpenSpec.ofChange meetLinesWrong)

/-- 'swarflaw09.MeetLineCircle': WHATEVER THE INPUT: true; the input reads as it did. -/
def meetLineCircleSpec : ChangeSpec := { name := "meetLineCircle", fn := fun _ => fun
  | [d1, d2] => { results := [.lit (.bool true)], args := [d1, d2] }
  | _ => none }
def meetLineCircleRow : OpenClaim := { program := "ytnalglhidkknbaagreat", sum := "d6247d27267e007a9683809e3ac37c97e28e020002a6c29a082efcb8c5ef9069", func := "swarf/swarflaw09.MeetLineCircle", spec := "meetLineCircle", unfollowed := true, recurses := true, apart := false }
def MeetLineCircleSaid : Prop := meetLineCircleRow.holds Tryz.pinned (OpenSpec.ofChange meetLineCircleSpec)

/-- ITS FALSE NEIGHBOUR: 'it returns false'. Refute it at one input. -/
def meetLineCircleWrong : ChangeSpec := { name := "meetLineCircle", fn := fun _ => fun
  | [d1, d2] => { results := [.lit (.bool false)], args := [d1, d2] }
  | _ => none }
def MeetLineCircleWrongFalsely : Prop := meetLineCircleRow.holds Tryz.pinned (OpenSpec.ofChange meetLineCircleWrong)

/-- 'swarflaw09.MeetCircles': WHATEVER THE INPUT: true; the input reads as it did. -/
def meetCirclesSpec : ChangeSpec := { name := "meetCircles", fn := fun _ => fun
  | [d1, d2] => { results := [.lit (.bool true)], args := [d1, d2] }
  | _ => none }
def meetCirclesRow : OpenClaim := { program := "ytnalglhidkknbaagreat", sum := "d6247d27267e007a9683809e3ac37c97e28e020002a6c29a082efcb8c5ef9069", func := "swarf/swarflaw09.MeetCircles", spec := "meetCircles", unfollowed := true, recurses := true, apart := false }
def MeetCirclesSaid : Prop := meetCirclesRow.holds Tryz.pinned (OpenSpec.ofChange meetCirclesSpec)

/-- ITS FALSE NEIGHBOUR: 'it returns false'. Refute it at one input. -/
def meetCirclesWrong : ChangeSpec := { name := "meetCircles", fn := fun _ => fun
  | [d1, d2] => { results := [.lit (.bool false)], args := [d1, d2] }
  | _ => none }
def MeetCirclesWrongFalsely : Prop := meetCirclesRow.holds Tryz.pinned (OpenSpec.ofChange meetCirclesWrong)

/-- 'swarflaw09.MeetRadical': WHATEVER THE INPUT: true; the input reads as it did. -/
def meetRadicalSpec : ChangeSpec := { name := "meetRadical", fn := fun _ => fun
  | [d1, d2, d3] => { results := [.lit (.bool true)], args := [d1, d2, d3] }
  | _ => none }
def meetRadicalRow : OpenClaim := { program := "ytnalglhidkknbaagreat", sum := "d6247d27267e007a9683809e3ac37c97e28e020002a6c29a082efcb8c5ef9069", func := "swarf/swarflaw09.MeetRadical", spec := "meetRadical", unfollowed := true, recurses := true, apart := false }
def MeetRadicalSaid : Prop := meetRadicalRow.holds Tryz.pinned (OpenSpec.ofChange meetRadicalSpec)

/-- ITS FALSE NEIGHBOUR: 'it returns false'. Refute it at one input. -/
def meetRadicalWrong : ChangeSpec := { name := "meetRadical", fn := fun _ => fun
  | [d1, d2, d3] => { results := [.lit (.bool false)], args := [d1, d2, d3] }
  | _ => none }
def MeetRadicalWrongFalsely : Prop := meetRadicalRow.holds Tryz.pinned (OpenSpec.ofChange meetRadicalWrong)

/-- 'swarflaw09.MeetMoved': WHATEVER THE INPUT: true; the input reads as it did. -/
def meetMovedSpec : ChangeSpec := { name := "meetMoved", fn := fun _ => fun
  | [d1, d2, d3] => { results := [.lit (.bool true)], args := [d1, d2, d3] }
  | _ => none }
def meetMovedRow : OpenClaim := { program := "ytnalglhidkknbaagreat", sum := "d6247d27267e007a9683809e3ac37c97e28e020002a6c29a082efcb8c5ef9069", func := "swarf/swarflaw09.MeetMoved", spec := "meetMoved", unfollowed := true, recurses := true, apart := false }
def MeetMovedSaid : Prop := meetMovedRow.holds Tryz.pinned (OpenSpec.ofChange meetMovedSpec)

/-- ITS FALSE NEIGHBOUR: 'it returns false'. Refute it at one input. -/
def meetMovedWrong : ChangeSpec := { name := "meetMoved", fn := fun _ => fun
  | [d1, d2, d3] => { results := [.lit (.bool false)], args := [d1, d2, d3] }
  | _ => none }
def MeetMovedWrongFalsely : Prop := meetMovedRow.holds Tryz.pinned (OpenSpec.ofChange meetMovedWrong)

/-- 'swarflaw09.MeetExtremes': WHATEVER THE INPUT: true; the input reads as it did. -/
def meetExtremesSpec : ChangeSpec := { name := "meetExtremes", fn := fun _ => fun
  | [d1, d2] => { results := [.lit (.bool true)], args := [d1, d2] }
  | _ => none }
def meetExtremesRow : OpenClaim := { program := "ytnalglhidkknbaagreat", sum := "d6247d27267e007a9683809e3ac37c97e28e020002a6c29a082efcb8c5ef9069", func := "swarf/swarflaw09.MeetExtremes", spec := "meetExtremes", unfollowed := true, recurses := true, apart := false }
def MeetExtremesSaid : Prop := meetExtremesRow.holds Tryz.pinned (OpenSpec.ofChange meetExtremesSpec)

/-- ITS FALSE NEIGHBOUR: 'it returns false'. Refute it at one input. -/
def meetExtremesWrong : ChangeSpec := { name := "meetExtremes", fn := fun _ => fun
  | [d1, d2] => { results := [.lit (.bool false)], args := [d1, d2] }
  | _ => none }
def MeetExtremesWrongFalsely : Prop := meetExtremesRow.holds Tryz.pinned (OpenSpec.ofChange meetExtremesWrong)

/-- 'swarflaw09.MeetSupports': WHATEVER THE INPUT: true; the input reads as it did. -/
def meetSupportsSpec : ChangeSpec := { name := "meetSupports", fn := fun _ => fun
  | [d1, d2] => { results := [.lit (.bool true)], args := [d1, d2] }
  | _ => none }
def meetSupportsRow : OpenClaim := { program := "ytnalglhidkknbaagreat", sum := "d6247d27267e007a9683809e3ac37c97e28e020002a6c29a082efcb8c5ef9069", func := "swarf/swarflaw09.MeetSupports", spec := "meetSupports", unfollowed := true, recurses := true, apart := false }
def MeetSupportsSaid : Prop := meetSupportsRow.holds Tryz.pinned (OpenSpec.ofChange meetSupportsSpec)

/-- ITS FALSE NEIGHBOUR: 'it returns false'. Refute it at one input. -/
def meetSupportsWrong : ChangeSpec := { name := "meetSupports", fn := fun _ => fun
  | [d1, d2] => { results := [.lit (.bool false)], args := [d1, d2] }
  | _ => none }
def MeetSupportsWrongFalsely : Prop := meetSupportsRow.holds Tryz.pinned (OpenSpec.ofChange meetSupportsWrong)

/-- 'swarflaw09.MeetOn': WHATEVER THE INPUT: true; the input reads as it did. -/
def meetOnSpec : ChangeSpec := { name := "meetOn", fn := fun _ => fun
  | [d1, d2, d3] => { results := [.lit (.bool true)], args := [d1, d2, d3] }
  | _ => none }
def meetOnRow : OpenClaim := { program := "ytnalglhidkknbaagreat", sum := "d6247d27267e007a9683809e3ac37c97e28e020002a6c29a082efcb8c5ef9069", func := "swarf/swarflaw09.MeetOn", spec := "meetOn", unfollowed := true, recurses := true, apart := false }
def MeetOnSaid : Prop := meetOnRow.holds Tryz.pinned (OpenSpec.ofChange meetOnSpec)

/-- ITS FALSE NEIGHBOUR: 'it returns false'. Refute it at one input. -/
def meetOnWrong : ChangeSpec := { name := "meetOn", fn := fun _ => fun
  | [d1, d2, d3] => { results := [.lit (.bool false)], args := [d1, d2, d3] }
  | _ => none }
def MeetOnWrongFalsely : Prop := meetOnRow.holds Tryz.pinned (OpenSpec.ofChange meetOnWrong)

/- THE SECOND FORM. 'bulk': how many values and letters a reading holds, each counted each time it is reached (what is shared counts as often as it is met; a slice's spare places count too). A statement '..UptoSaid' is the law's where the arguments, and the package variables that the reading takes, are together of bulk at most 1048576: NARROWER than '..Said'. Prove '..Said' where nothing that the law and all that it calls make is longer than what came in: it says more and counts as full. Else prove '..UptoSaid'. A law counts once. -/
mutual
def uptoBulk {H : Type} : DataW H → Nat
  | .lit (.string bytes) => bytes.length + 1
  | .lit _ => 1
  | .nil => 1
  | .ptr d => uptoBulk d + 1
  | .slice elems spare => uptoBulkAll elems + uptoBulkAll spare + 1
  | .agg parts => uptoBulkAll parts + 1
  | .iface _ d => uptoBulk d + 1
  | .map entries => uptoBulkEntries entries + 1
  | .held _ => 1
def uptoBulkAll {H : Type} : List (DataW H) → Nat
  | [] => 0
  | d :: r => uptoBulk d + uptoBulkAll r
def uptoBulkEntries {H : Type} : List (Lit × DataW H) → Nat
  | [] => 0
  | x :: r => uptoBulkEntry x + uptoBulkEntries r
def uptoBulkEntry {H : Type} : Lit × DataW H → Nat
  | (.string bytes, d) => bytes.length + uptoBulk d + 1
  | (_, d) => uptoBulk d + 1
 end
def uptoSmall : (H : Type) → List (DataW H) → Bool := fun _ ds => decide (uptoBulkAll ds ≤ 1048576)
def OpenSpec.upto (s : _root_.Go.ChangeSpec) : _root_.Go.OpenSpec := { _root_.Go.OpenSpec.ofChange s with cond := some uptoSmall }

/-- 'swarflaw09.MeetLines', WHERE WHAT IT READS IS OF BULK AT MOST 1048576: true; the input reads as it did. -/
def meetLinesUptoRow : OpenClaim := { program := "ytnalglhidkknbaagreat", sum := "d6247d27267e007a9683809e3ac37c97e28e020002a6c29a082efcb8c5ef9069", func := "swarf/swarflaw09.MeetLines", spec := "meetLines", unfollowed := true, recurses := true, apart := false, narrowed := true }
def MeetLinesUptoSaid : Prop := meetLinesUptoRow.holds Tryz.pinned (OpenSpec.upto meetLinesSpec)

/-- 'swarflaw09.MeetLineCircle', WHERE WHAT IT READS IS OF BULK AT MOST 1048576: true; the input reads as it did. -/
def meetLineCircleUptoRow : OpenClaim := { program := "ytnalglhidkknbaagreat", sum := "d6247d27267e007a9683809e3ac37c97e28e020002a6c29a082efcb8c5ef9069", func := "swarf/swarflaw09.MeetLineCircle", spec := "meetLineCircle", unfollowed := true, recurses := true, apart := false, narrowed := true }
def MeetLineCircleUptoSaid : Prop := meetLineCircleUptoRow.holds Tryz.pinned (OpenSpec.upto meetLineCircleSpec)

/-- 'swarflaw09.MeetCircles', WHERE WHAT IT READS IS OF BULK AT MOST 1048576: true; the input reads as it did. -/
def meetCirclesUptoRow : OpenClaim := { program := "ytnalglhidkknbaagreat", sum := "d6247d27267e007a9683809e3ac37c97e28e020002a6c29a082efcb8c5ef9069", func := "swarf/swarflaw09.MeetCircles", spec := "meetCircles", unfollowed := true, recurses := true, apart := false, narrowed := true }
def MeetCirclesUptoSaid : Prop := meetCirclesUptoRow.holds Tryz.pinned (OpenSpec.upto meetCirclesSpec)

/-- 'swarflaw09.MeetRadical', WHERE WHAT IT READS IS OF BULK AT MOST 1048576: true; the input reads as it did. -/
def meetRadicalUptoRow : OpenClaim := { program := "ytnalglhidkknbaagreat", sum := "d6247d27267e007a9683809e3ac37c97e28e020002a6c29a082efcb8c5ef9069", func := "swarf/swarflaw09.MeetRadical", spec := "meetRadical", unfollowed := true, recurses := true, apart := false, narrowed := true }
def MeetRadicalUptoSaid : Prop := meetRadicalUptoRow.holds Tryz.pinned (OpenSpec.upto meetRadicalSpec)

/-- 'swarflaw09.MeetMoved', WHERE WHAT IT READS IS OF BULK AT MOST 1048576: true; the input reads as it did. -/
def meetMovedUptoRow : OpenClaim := { program := "ytnalglhidkknbaagreat", sum := "d6247d27267e007a9683809e3ac37c97e28e020002a6c29a082efcb8c5ef9069", func := "swarf/swarflaw09.MeetMoved", spec := "meetMoved", unfollowed := true, recurses := true, apart := false, narrowed := true }
def MeetMovedUptoSaid : Prop := meetMovedUptoRow.holds Tryz.pinned (OpenSpec.upto meetMovedSpec)

/-- 'swarflaw09.MeetExtremes', WHERE WHAT IT READS IS OF BULK AT MOST 1048576: true; the input reads as it did. -/
def meetExtremesUptoRow : OpenClaim := { program := "ytnalglhidkknbaagreat", sum := "d6247d27267e007a9683809e3ac37c97e28e020002a6c29a082efcb8c5ef9069", func := "swarf/swarflaw09.MeetExtremes", spec := "meetExtremes", unfollowed := true, recurses := true, apart := false, narrowed := true }
def MeetExtremesUptoSaid : Prop := meetExtremesUptoRow.holds Tryz.pinned (OpenSpec.upto meetExtremesSpec)

/-- 'swarflaw09.MeetSupports', WHERE WHAT IT READS IS OF BULK AT MOST 1048576: true; the input reads as it did. -/
def meetSupportsUptoRow : OpenClaim := { program := "ytnalglhidkknbaagreat", sum := "d6247d27267e007a9683809e3ac37c97e28e020002a6c29a082efcb8c5ef9069", func := "swarf/swarflaw09.MeetSupports", spec := "meetSupports", unfollowed := true, recurses := true, apart := false, narrowed := true }
def MeetSupportsUptoSaid : Prop := meetSupportsUptoRow.holds Tryz.pinned (OpenSpec.upto meetSupportsSpec)

/-- 'swarflaw09.MeetOn', WHERE WHAT IT READS IS OF BULK AT MOST 1048576: true; the input reads as it did. -/
def meetOnUptoRow : OpenClaim := { program := "ytnalglhidkknbaagreat", sum := "d6247d27267e007a9683809e3ac37c97e28e020002a6c29a082efcb8c5ef9069", func := "swarf/swarflaw09.MeetOn", spec := "meetOn", unfollowed := true, recurses := true, apart := false, narrowed := true }
def MeetOnUptoSaid : Prop := meetOnUptoRow.holds Tryz.pinned (OpenSpec.upto meetOnSpec)

end Rows
end Go.Proofs.YtnalglhidkknbaaGreat
