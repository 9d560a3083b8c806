/-
  No cell of these rows narrows 'for every input' (looked for: loops, veiled, ifaces, maps, wideKeys, modest, calm, conditions, laid).
  DERIVED. THE GIVEN ROWS OF THIS SEAT. 4 by the template 'for every input the law returns true; each argument reads behind the call as it read before'; 0 by the template 'total and deterministic' (their statements: YtojapcnhajomcaaTotals.lean).
  GIVEN WITH THE SEED: the statements are not yours to turn. If you find one false, say at which input.
  Laid BY PROGRAM, IN A SANDBOX (cutbox-rows.mjs): the forced cells as the released guide's own fill.sh prints them over the translation aaca93a3609df22f… (all of the seat's roots in one cut). By AI agents, Wed Nov 11 2026. No macro, syntax, notation, axiom, sorry.
-/
import Derived.Test.YtojapcnhajomcaaChecked
import GoSem.Claim
import GoSem.ClaimJoined
import GoSem.ClaimMapViews
import Derived.JoinedTies
import Derived.KernelRfl
namespace Go.Proofs.Ytojapcnhajomcaa
/- THE CELL 'sum', in the pinned program and in every row, IS THE sha256 OF THE DUMP (.gsa) THAT YtojapcnhajomcaaProg.lean LOADS. Nothing in Lean hashes anything: it is a label: what it is worth is what the hold of that sum in a sandbox is worth. -/
noncomputable def Try.pinned : Pinned := { name := "ytojapcnhajomcaa", sum := "aaca93a3609df22f96793f54cbd5b0673c1858eda98fb1f758c5e7db5b68bd4e", checked := Try.checked }
namespace Rows
def none {H : Type} : Left H := { results := [], args := [] }

/-- 'swarftop.TopHolds': WHATEVER THE INPUT: true; the input reads as it did. -/
def topHoldsSpec : ChangeSpec := { name := "topHolds", fn := fun _ => fun
  | [d1, d2] => { results := [.lit (.bool true)], args := [d1, d2] }
  | _ => none }
def topHoldsRow : OpenClaim := { program := "ytojapcnhajomcaa", sum := "aaca93a3609df22f96793f54cbd5b0673c1858eda98fb1f758c5e7db5b68bd4e", func := "swarf/swarftop.TopHolds", spec := "topHolds", inPlace := ["math.sqrt"], unfollowed := true, recurses := true, apart := false }
def TopHoldsSaid : Prop := topHoldsRow.holds Try.pinned (OpenSpec.ofChange topHoldsSpec)

/-- ITS FALSE NEIGHBOUR: 'it returns false'. Refute it at one input. -/
def topHoldsWrong : ChangeSpec := { name := "topHolds", fn := fun _ => fun
  | [d1, d2] => { results := [.lit (.bool false)], args := [d1, d2] }
  | _ => none }
def TopHoldsWrongFalsely : Prop := topHoldsRow.holds Try.pinned (OpenSpec.ofChange topHoldsWrong)

/-- 'swarftop.TopRestart': WHATEVER THE INPUT: true; the input reads as it did. -/
def topRestartSpec : ChangeSpec := { name := "topRestart", fn := fun _ => fun
  | [d1, d2, d3] => { results := [.lit (.bool true)], args := [d1, d2, d3] }
  | _ => none }
def topRestartRow : OpenClaim := { program := "ytojapcnhajomcaa", sum := "aaca93a3609df22f96793f54cbd5b0673c1858eda98fb1f758c5e7db5b68bd4e", func := "swarf/swarftop.TopRestart", spec := "topRestart", inPlace := ["math.sqrt"], unfollowed := true, recurses := true, apart := false }
def TopRestartSaid : Prop := topRestartRow.holds Try.pinned (OpenSpec.ofChange topRestartSpec)

/-- ITS FALSE NEIGHBOUR: 'it returns false'. Refute it at one input. -/
def topRestartWrong : ChangeSpec := { name := "topRestart", fn := fun _ => fun
  | [d1, d2, d3] => { results := [.lit (.bool false)], args := [d1, d2, d3] }
  | _ => none }
def TopRestartWrongFalsely : Prop := topRestartRow.holds Try.pinned (OpenSpec.ofChange topRestartWrong)

/-- 'swarftop.TopTwice': WHATEVER THE INPUT: true; the input reads as it did. -/
def topTwiceSpec : ChangeSpec := { name := "topTwice", fn := fun _ => fun
  | [d1, d2, d3] => { results := [.lit (.bool true)], args := [d1, d2, d3] }
  | _ => none }
def topTwiceRow : OpenClaim := { program := "ytojapcnhajomcaa", sum := "aaca93a3609df22f96793f54cbd5b0673c1858eda98fb1f758c5e7db5b68bd4e", func := "swarf/swarftop.TopTwice", spec := "topTwice", inPlace := ["math.sqrt"], unfollowed := true, recurses := true, apart := false }
def TopTwiceSaid : Prop := topTwiceRow.holds Try.pinned (OpenSpec.ofChange topTwiceSpec)

/-- ITS FALSE NEIGHBOUR: 'it returns false'. Refute it at one input. -/
def topTwiceWrong : ChangeSpec := { name := "topTwice", fn := fun _ => fun
  | [d1, d2, d3] => { results := [.lit (.bool false)], args := [d1, d2, d3] }
  | _ => none }
def TopTwiceWrongFalsely : Prop := topTwiceRow.holds Try.pinned (OpenSpec.ofChange topTwiceWrong)

/-- 'swarftop.TopTour': WHATEVER THE INPUT: true; the input reads as it did. -/
def topTourSpec : ChangeSpec := { name := "topTour", fn := fun _ => fun
  | [d1, d2] => { results := [.lit (.bool true)], args := [d1, d2] }
  | _ => none }
def topTourRow : OpenClaim := { program := "ytojapcnhajomcaa", sum := "aaca93a3609df22f96793f54cbd5b0673c1858eda98fb1f758c5e7db5b68bd4e", func := "swarf/swarftop.TopTour", spec := "topTour", unfollowed := true, recurses := true, apart := false }
def TopTourSaid : Prop := topTourRow.holds Try.pinned (OpenSpec.ofChange topTourSpec)

/-- ITS FALSE NEIGHBOUR: 'it returns false'. Refute it at one input. -/
def topTourWrong : ChangeSpec := { name := "topTour", fn := fun _ => fun
  | [d1, d2] => { results := [.lit (.bool false)], args := [d1, d2] }
  | _ => none }
def TopTourWrongFalsely : Prop := topTourRow.holds Try.pinned (OpenSpec.ofChange topTourWrong)

/- THE SECOND FORM. 'bulk': how many values and letters a reading holds, each counted each time it is reached (what is shared counts as often as it is met; a slice's spare places count too). A statement '..UptoSaid' is the law's where the arguments, and the package variables that the reading takes, are together of bulk at most 1048576: NARROWER than '..Said'. Prove '..Said' where nothing that the law and all that it calls make is longer than what came in: it says more and counts as full. Else prove '..UptoSaid'. A law counts once. -/
mutual
def uptoBulk {H : Type} : DataW H → Nat
  | .lit (.string bytes) => bytes.length + 1
  | .lit _ => 1
  | .nil => 1
  | .ptr d => uptoBulk d + 1
  | .slice elems spare => uptoBulkAll elems + uptoBulkAll spare + 1
  | .agg parts => uptoBulkAll parts + 1
  | .iface _ d => uptoBulk d + 1
  | .map entries => uptoBulkEntries entries + 1
  | .held _ => 1
def uptoBulkAll {H : Type} : List (DataW H) → Nat
  | [] => 0
  | d :: r => uptoBulk d + uptoBulkAll r
def uptoBulkEntries {H : Type} : List (Lit × DataW H) → Nat
  | [] => 0
  | x :: r => uptoBulkEntry x + uptoBulkEntries r
def uptoBulkEntry {H : Type} : Lit × DataW H → Nat
  | (.string bytes, d) => bytes.length + uptoBulk d + 1
  | (_, d) => uptoBulk d + 1
 end
def uptoSmall : (H : Type) → List (DataW H) → Bool := fun _ ds => decide (uptoBulkAll ds ≤ 1048576)
def OpenSpec.upto (s : _root_.Go.ChangeSpec) : _root_.Go.OpenSpec := { _root_.Go.OpenSpec.ofChange s with cond := some uptoSmall }

/-- 'swarftop.TopHolds', WHERE WHAT IT READS IS OF BULK AT MOST 1048576: true; the input reads as it did. -/
def topHoldsUptoRow : OpenClaim := { program := "ytojapcnhajomcaa", sum := "aaca93a3609df22f96793f54cbd5b0673c1858eda98fb1f758c5e7db5b68bd4e", func := "swarf/swarftop.TopHolds", spec := "topHolds", inPlace := ["math.sqrt"], unfollowed := true, recurses := true, apart := false, narrowed := true }
def TopHoldsUptoSaid : Prop := topHoldsUptoRow.holds Try.pinned (OpenSpec.upto topHoldsSpec)

/-- 'swarftop.TopRestart', WHERE WHAT IT READS IS OF BULK AT MOST 1048576: true; the input reads as it did. -/
def topRestartUptoRow : OpenClaim := { program := "ytojapcnhajomcaa", sum := "aaca93a3609df22f96793f54cbd5b0673c1858eda98fb1f758c5e7db5b68bd4e", func := "swarf/swarftop.TopRestart", spec := "topRestart", inPlace := ["math.sqrt"], unfollowed := true, recurses := true, apart := false, narrowed := true }
def TopRestartUptoSaid : Prop := topRestartUptoRow.holds Try.pinned (OpenSpec.upto topRestartSpec)

/-- 'swarftop.TopTwice', WHERE WHAT IT READS IS OF BULK AT MOST 1048576: true; the input reads as it did. -/
def topTwiceUptoRow : OpenClaim := { program := "ytojapcnhajomcaa", sum := "aaca93a3609df22f96793f54cbd5b0673c1858eda98fb1f758c5e7db5b68bd4e", func := "swarf/swarftop.TopTwice", spec := "topTwice", inPlace := ["math.sqrt"], unfollowed := true, recurses := true, apart := false, narrowed := true }
def TopTwiceUptoSaid : Prop := topTwiceUptoRow.holds Try.pinned (OpenSpec.upto topTwiceSpec)

/-- 'swarftop.TopTour', WHERE WHAT IT READS IS OF BULK AT MOST 1048576: true; the input reads as it did. -/
def topTourUptoRow : OpenClaim := { program := "ytojapcnhajomcaa", sum := "aaca93a3609df22f96793f54cbd5b0673c1858eda98fb1f758c5e7db5b68bd4e", func := "swarf/swarftop.TopTour", spec := "topTour", unfollowed := true, recurses := true, apart := false, narrowed := true }
def TopTourUptoSaid : Prop := topTourUptoRow.holds Try.pinned (OpenSpec.upto topTourSpec)

end Rows
end Go.Proofs.Ytojapcnhajomcaa
