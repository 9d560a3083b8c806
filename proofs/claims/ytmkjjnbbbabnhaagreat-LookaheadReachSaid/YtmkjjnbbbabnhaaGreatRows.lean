/-
  No cell of these rows narrows 'for every input' (looked for: loops, veiled, ifaces, maps, wideKeys, modest, calm, conditions, laid).
  DERIVED. THE GIVEN ROWS OF THIS SEAT. 4 by the template 'for every input the law returns true; each argument reads behind the call as it read before'; 0 by the template 'total and deterministic' (their statements: YtmkjjnbbbabnhaaGreatTotals.lean).
  GIVEN WITH THE SEED: the statements are not yours to turn. If you find one false, say at which input.
  Laid BY PROGRAM, IN A SANDBOX (cutbox-rows.mjs): the forced cells as the released guide's own fill.sh prints them over the translation 70fe631160ad09f2… (all of the seat's roots in one cut). By AI agents, Wed Nov 11 2026. No macro, syntax, notation, axiom, sorry.
-/
import Derived.Test.YtmkjjnbbbabnhaaGreatChecked
import GoSem.Claim
import GoSem.ClaimJoined
import GoSem.ClaimMapViews
import Derived.JoinedTies
import Derived.KernelRfl
namespace Go.Proofs.YtmkjjnbbbabnhaaGreat
/- THE CELL 'sum', in the pinned program and in every row, IS THE sha256 OF THE DUMP (.gsa) THAT YtmkjjnbbbabnhaaGreatProg.lean LOADS. Nothing in Lean hashes anything: it is a label: what it is worth is what the hold of that sum in a sandbox is worth. -/
noncomputable def Tryz.pinned : Pinned := { name := "ytmkjjnbbbabnhaagreat", sum := "70fe631160ad09f262d4275290888352417e8162598f67fc2211c44ce452914e", checked := Tryz.checked }
namespace Rows
def none {H : Type} : Left H := { results := [], args := [] }

/-- 'swarflaw48.LookaheadCorner': WHATEVER THE INPUT: true; the input reads as it did. -/
def lookaheadCornerSpec : ChangeSpec := { name := "lookaheadCorner", fn := fun _ => fun
  | [d1, d2, d3] => { results := [.lit (.bool true)], args := [d1, d2, d3] }
  | _ => none }
def lookaheadCornerRow : OpenClaim := { program := "ytmkjjnbbbabnhaagreat", sum := "70fe631160ad09f262d4275290888352417e8162598f67fc2211c44ce452914e", func := "swarf/swarflaw48.LookaheadCorner", spec := "lookaheadCorner", unfollowed := true, recurses := true, apart := false }
def LookaheadCornerSaid : Prop := lookaheadCornerRow.holds Tryz.pinned (OpenSpec.ofChange lookaheadCornerSpec)

/-- ITS FALSE NEIGHBOUR: 'it returns false'. Refute it at one input. -/
def lookaheadCornerWrong : ChangeSpec := { name := "lookaheadCorner", fn := fun _ => fun
  | [d1, d2, d3] => { results := [.lit (.bool false)], args := [d1, d2, d3] }
  | _ => none }
def LookaheadCornerWrongFalsely : Prop := lookaheadCornerRow.holds Tryz.pinned (OpenSpec.ofChange lookaheadCornerWrong)

/-- 'swarflaw48.LookaheadReach': WHATEVER THE INPUT: true; the input reads as it did. -/
def lookaheadReachSpec : ChangeSpec := { name := "lookaheadReach", fn := fun _ => fun
  | [d1, d2, d3] => { results := [.lit (.bool true)], args := [d1, d2, d3] }
  | _ => none }
def lookaheadReachRow : OpenClaim := { program := "ytmkjjnbbbabnhaagreat", sum := "70fe631160ad09f262d4275290888352417e8162598f67fc2211c44ce452914e", func := "swarf/swarflaw48.LookaheadReach", spec := "lookaheadReach", unfollowed := true, recurses := true, apart := false }
def LookaheadReachSaid : Prop := lookaheadReachRow.holds Tryz.pinned (OpenSpec.ofChange lookaheadReachSpec)

/-- ITS FALSE NEIGHBOUR: 'it returns false'. Refute it at one input. -/
def lookaheadReachWrong : ChangeSpec := { name := "lookaheadReach", fn := fun _ => fun
  | [d1, d2, d3] => { results := [.lit (.bool false)], args := [d1, d2, d3] }
  | _ => none }
def LookaheadReachWrongFalsely : Prop := lookaheadReachRow.holds Tryz.pinned (OpenSpec.ofChange lookaheadReachWrong)

/-- 'swarflaw48.LookaheadStraight': WHATEVER THE INPUT: true; the input reads as it did. -/
def lookaheadStraightSpec : ChangeSpec := { name := "lookaheadStraight", fn := fun _ => fun
  | [d1, d2, d3] => { results := [.lit (.bool true)], args := [d1, d2, d3] }
  | _ => none }
def lookaheadStraightRow : OpenClaim := { program := "ytmkjjnbbbabnhaagreat", sum := "70fe631160ad09f262d4275290888352417e8162598f67fc2211c44ce452914e", func := "swarf/swarflaw48.LookaheadStraight", spec := "lookaheadStraight", unfollowed := true, recurses := true, apart := false }
def LookaheadStraightSaid : Prop := lookaheadStraightRow.holds Tryz.pinned (OpenSpec.ofChange lookaheadStraightSpec)

/-- ITS FALSE NEIGHBOUR: 'it returns false'. Refute it at one input. -/
def lookaheadStraightWrong : ChangeSpec := { name := "lookaheadStraight", fn := fun _ => fun
  | [d1, d2, d3] => { results := [.lit (.bool false)], args := [d1, d2, d3] }
  | _ => none }
def LookaheadStraightWrongFalsely : Prop := lookaheadStraightRow.holds Tryz.pinned (OpenSpec.ofChange lookaheadStraightWrong)

/-- 'swarflaw48.LookaheadTotal': WHATEVER THE INPUT: true; the input reads as it did. -/
def lookaheadTotalSpec : ChangeSpec := { name := "lookaheadTotal", fn := fun _ => fun
  | [d1, d2, d3] => { results := [.lit (.bool true)], args := [d1, d2, d3] }
  | _ => none }
def lookaheadTotalRow : OpenClaim := { program := "ytmkjjnbbbabnhaagreat", sum := "70fe631160ad09f262d4275290888352417e8162598f67fc2211c44ce452914e", func := "swarf/swarflaw48.LookaheadTotal", spec := "lookaheadTotal", unfollowed := true, recurses := true, apart := false }
def LookaheadTotalSaid : Prop := lookaheadTotalRow.holds Tryz.pinned (OpenSpec.ofChange lookaheadTotalSpec)

/-- ITS FALSE NEIGHBOUR: 'it returns false'. Refute it at one input. -/
def lookaheadTotalWrong : ChangeSpec := { name := "lookaheadTotal", fn := fun _ => fun
  | [d1, d2, d3] => { results := [.lit (.bool false)], args := [d1, d2, d3] }
  | _ => none }
def LookaheadTotalWrongFalsely : Prop := lookaheadTotalRow.holds Tryz.pinned (OpenSpec.ofChange lookaheadTotalWrong)

/- THE SECOND FORM. 'bulk': how many values and letters a reading holds, each counted each time it is reached (what is shared counts as often as it is met; a slice's spare places count too). A statement '..UptoSaid' is the law's where the arguments, and the package variables that the reading takes, are together of bulk at most 1048576: NARROWER than '..Said'. Prove '..Said' where nothing that the law and all that it calls make is longer than what came in: it says more and counts as full. Else prove '..UptoSaid'. A law counts once. -/
mutual
def uptoBulk {H : Type} : DataW H → Nat
  | .lit (.string bytes) => bytes.length + 1
  | .lit _ => 1
  | .nil => 1
  | .ptr d => uptoBulk d + 1
  | .slice elems spare => uptoBulkAll elems + uptoBulkAll spare + 1
  | .agg parts => uptoBulkAll parts + 1
  | .iface _ d => uptoBulk d + 1
  | .map entries => uptoBulkEntries entries + 1
  | .held _ => 1
def uptoBulkAll {H : Type} : List (DataW H) → Nat
  | [] => 0
  | d :: r => uptoBulk d + uptoBulkAll r
def uptoBulkEntries {H : Type} : List (Lit × DataW H) → Nat
  | [] => 0
  | x :: r => uptoBulkEntry x + uptoBulkEntries r
def uptoBulkEntry {H : Type} : Lit × DataW H → Nat
  | (.string bytes, d) => bytes.length + uptoBulk d + 1
  | (_, d) => uptoBulk d + 1
 end
def uptoSmall : (H : Type) → List (DataW H) → Bool := fun _ ds => decide (uptoBulkAll ds ≤ 1048576)
def OpenSpec.upto (s : _root_.Go.ChangeSpec) : _root_.Go.OpenSpec := { _root_.Go.OpenSpec.ofChange s with cond := some uptoSmall }

/-- 'swarflaw48.LookaheadCorner', WHERE WHAT IT READS IS OF BULK AT MOST 1048576: true; the input reads as it did. -/
def lookaheadCornerUptoRow : OpenClaim := { program := "ytmkjjnbbbabnhaagreat", sum := "70fe631160ad09f262d4275290888352417e8162598f67fc2211c44ce452914e", func := "swarf/swarflaw48.LookaheadCorner", spec := "lookaheadCorner", unfollowed := true, recurses := true, apart := false, narrowed := true }
def LookaheadCornerUptoSaid : Prop := lookaheadCornerUptoRow.holds Tryz.pinned (OpenSpec.upto lookaheadCornerSpec)

/-- 'swarflaw48.LookaheadReach', WHERE WHAT IT READS IS OF BULK AT MOST 1048576: true; the input reads as it did. -/
def lookaheadReachUptoRow : OpenClaim := { program := "ytmkjjnbbbabnhaagreat", sum := "70fe631160ad09f262d4275290888352417e8162598f67fc2211c44ce452914e", func := "swarf/swarflaw48.LookaheadReach", spec := "lookaheadReach", unfollowed := true, recurses := true, apart := false, narrowed := true }
def LookaheadReachUptoSaid : Prop := lookaheadReachUptoRow.holds Tryz.pinned (OpenSpec.upto lookaheadReachSpec)

/-- 'swarflaw48.LookaheadStraight', WHERE WHAT IT READS IS OF BULK AT MOST 1048576: true; the input reads as it did. -/
def lookaheadStraightUptoRow : OpenClaim := { program := "ytmkjjnbbbabnhaagreat", sum := "70fe631160ad09f262d4275290888352417e8162598f67fc2211c44ce452914e", func := "swarf/swarflaw48.LookaheadStraight", spec := "lookaheadStraight", unfollowed := true, recurses := true, apart := false, narrowed := true }
def LookaheadStraightUptoSaid : Prop := lookaheadStraightUptoRow.holds Tryz.pinned (OpenSpec.upto lookaheadStraightSpec)

/-- 'swarflaw48.LookaheadTotal', WHERE WHAT IT READS IS OF BULK AT MOST 1048576: true; the input reads as it did. -/
def lookaheadTotalUptoRow : OpenClaim := { program := "ytmkjjnbbbabnhaagreat", sum := "70fe631160ad09f262d4275290888352417e8162598f67fc2211c44ce452914e", func := "swarf/swarflaw48.LookaheadTotal", spec := "lookaheadTotal", unfollowed := true, recurses := true, apart := false, narrowed := true }
def LookaheadTotalUptoSaid : Prop := lookaheadTotalUptoRow.holds Tryz.pinned (OpenSpec.upto lookaheadTotalSpec)

end Rows
end Go.Proofs.YtmkjjnbbbabnhaaGreat
