/-
  No cell of these rows narrows 'for every input' (looked for: loops, veiled, ifaces, maps, wideKeys, modest, calm, conditions, laid).
  DERIVED. THE GIVEN ROWS OF THIS SEAT. 6 by the template 'for every input the law returns true; each argument reads behind the call as it read before'; 0 by the template 'total and deterministic' (their statements: YtmbncgcjilkajaaGreatTotals.lean).
  GIVEN WITH THE SEED: the statements are not yours to turn. If you find one false, say at which input.
  Laid BY PROGRAM, IN A SANDBOX (cutbox-rows.mjs): the forced cells as the released guide's own fill.sh prints them over the translation a0b04e8fd64adbe1… (all of the seat's roots in one cut). By AI agents, Wed Nov 11 2026. No macro, syntax, notation, axiom, sorry.
-/
import Derived.Test.YtmbncgcjilkajaaGreatChecked
import GoSem.Claim
import GoSem.ClaimJoined
import GoSem.ClaimMapViews
import Derived.JoinedTies
import Derived.KernelRfl
namespace Go.Proofs.YtmbncgcjilkajaaGreat
/- THE CELL 'sum', in the pinned program and in every row, IS THE sha256 OF THE DUMP (.gsa) THAT YtmbncgcjilkajaaGreatProg.lean LOADS. Nothing in Lean hashes anything: it is a label: what it is worth is what the hold of that sum in a sandbox is worth. -/
noncomputable def Tryz.pinned : Pinned := { name := "ytmbncgcjilkajaagreat", sum := "a0b04e8fd64adbe1f9ec7154b3d76361518bcae06cd97c61ea4291f587341b6e", checked := Tryz.checked }
namespace Rows
def none {H : Type} : Left H := { results := [], args := [] }

/-- 'swarflaw03.RootFloor': WHATEVER THE INPUT: true; the input reads as it did. -/
def rootFloorSpec : ChangeSpec := { name := "rootFloor", fn := fun _ => fun
  | [d] => { results := [.lit (.bool true)], args := [d] }
  | _ => none }
def rootFloorRow : OpenClaim := { program := "ytmbncgcjilkajaagreat", sum := "a0b04e8fd64adbe1f9ec7154b3d76361518bcae06cd97c61ea4291f587341b6e", func := "swarf/swarflaw03.RootFloor", spec := "rootFloor", apart := false }
def RootFloorSaid : Prop := rootFloorRow.holds Tryz.pinned (OpenSpec.ofChange rootFloorSpec)

/-- ITS FALSE NEIGHBOUR: 'it returns false'. Refute it at one input. -/
def rootFloorWrong : ChangeSpec := { name := "rootFloor", fn := fun _ => fun
  | [d] => { results := [.lit (.bool false)], args := [d] }
  | _ => none }
def RootFloorWrongFalsely : Prop := rootFloorRow.holds Tryz.pinned (OpenSpec.ofChange rootFloorWrong)

/-- 'swarflaw03.RootSign': WHATEVER THE INPUT: true; the input reads as it did. -/
def rootSignSpec : ChangeSpec := { name := "rootSign", fn := fun _ => fun
  | [d1, d2] => { results := [.lit (.bool true)], args := [d1, d2] }
  | _ => none }
def rootSignRow : OpenClaim := { program := "ytmbncgcjilkajaagreat", sum := "a0b04e8fd64adbe1f9ec7154b3d76361518bcae06cd97c61ea4291f587341b6e", func := "swarf/swarflaw03.RootSign", spec := "rootSign", apart := false }
def RootSignSaid : Prop := rootSignRow.holds Tryz.pinned (OpenSpec.ofChange rootSignSpec)

/-- ITS FALSE NEIGHBOUR: 'it returns false'. Refute it at one input. -/
def rootSignWrong : ChangeSpec := { name := "rootSign", fn := fun _ => fun
  | [d1, d2] => { results := [.lit (.bool false)], args := [d1, d2] }
  | _ => none }
def RootSignWrongFalsely : Prop := rootSignRow.holds Tryz.pinned (OpenSpec.ofChange rootSignWrong)

/-- 'swarflaw03.RootEnclose': WHATEVER THE INPUT: true; the input reads as it did. -/
def rootEncloseSpec : ChangeSpec := { name := "rootEnclose", fn := fun _ => fun
  | [d1, d2] => { results := [.lit (.bool true)], args := [d1, d2] }
  | _ => none }
def rootEncloseRow : OpenClaim := { program := "ytmbncgcjilkajaagreat", sum := "a0b04e8fd64adbe1f9ec7154b3d76361518bcae06cd97c61ea4291f587341b6e", func := "swarf/swarflaw03.RootEnclose", spec := "rootEnclose", apart := false }
def RootEncloseSaid : Prop := rootEncloseRow.holds Tryz.pinned (OpenSpec.ofChange rootEncloseSpec)

/-- ITS FALSE NEIGHBOUR: 'it returns false'. Refute it at one input. -/
def rootEncloseWrong : ChangeSpec := { name := "rootEnclose", fn := fun _ => fun
  | [d1, d2] => { results := [.lit (.bool false)], args := [d1, d2] }
  | _ => none }
def RootEncloseWrongFalsely : Prop := rootEncloseRow.holds Tryz.pinned (OpenSpec.ofChange rootEncloseWrong)

/-- 'swarflaw03.RootSum': WHATEVER THE INPUT: true; the input reads as it did. -/
def rootSumSpec : ChangeSpec := { name := "rootSum", fn := fun _ => fun
  | [d1, d2] => { results := [.lit (.bool true)], args := [d1, d2] }
  | _ => none }
def rootSumRow : OpenClaim := { program := "ytmbncgcjilkajaagreat", sum := "a0b04e8fd64adbe1f9ec7154b3d76361518bcae06cd97c61ea4291f587341b6e", func := "swarf/swarflaw03.RootSum", spec := "rootSum", apart := false }
def RootSumSaid : Prop := rootSumRow.holds Tryz.pinned (OpenSpec.ofChange rootSumSpec)

/-- ITS FALSE NEIGHBOUR: 'it returns false'. Refute it at one input. -/
def rootSumWrong : ChangeSpec := { name := "rootSum", fn := fun _ => fun
  | [d1, d2] => { results := [.lit (.bool false)], args := [d1, d2] }
  | _ => none }
def RootSumWrongFalsely : Prop := rootSumRow.holds Tryz.pinned (OpenSpec.ofChange rootSumWrong)

/-- 'swarflaw03.RootMul': WHATEVER THE INPUT: true; the input reads as it did. -/
def rootMulSpec : ChangeSpec := { name := "rootMul", fn := fun _ => fun
  | [d1, d2] => { results := [.lit (.bool true)], args := [d1, d2] }
  | _ => none }
def rootMulRow : OpenClaim := { program := "ytmbncgcjilkajaagreat", sum := "a0b04e8fd64adbe1f9ec7154b3d76361518bcae06cd97c61ea4291f587341b6e", func := "swarf/swarflaw03.RootMul", spec := "rootMul", apart := false }
def RootMulSaid : Prop := rootMulRow.holds Tryz.pinned (OpenSpec.ofChange rootMulSpec)

/-- ITS FALSE NEIGHBOUR: 'it returns false'. Refute it at one input. -/
def rootMulWrong : ChangeSpec := { name := "rootMul", fn := fun _ => fun
  | [d1, d2] => { results := [.lit (.bool false)], args := [d1, d2] }
  | _ => none }
def RootMulWrongFalsely : Prop := rootMulRow.holds Tryz.pinned (OpenSpec.ofChange rootMulWrong)

/-- 'swarflaw03.RootInv': WHATEVER THE INPUT: true; the input reads as it did. -/
def rootInvSpec : ChangeSpec := { name := "rootInv", fn := fun _ => fun
  | [d] => { results := [.lit (.bool true)], args := [d] }
  | _ => none }
def rootInvRow : OpenClaim := { program := "ytmbncgcjilkajaagreat", sum := "a0b04e8fd64adbe1f9ec7154b3d76361518bcae06cd97c61ea4291f587341b6e", func := "swarf/swarflaw03.RootInv", spec := "rootInv", apart := false }
def RootInvSaid : Prop := rootInvRow.holds Tryz.pinned (OpenSpec.ofChange rootInvSpec)

/-- ITS FALSE NEIGHBOUR: 'it returns false'. Refute it at one input. -/
def rootInvWrong : ChangeSpec := { name := "rootInv", fn := fun _ => fun
  | [d] => { results := [.lit (.bool false)], args := [d] }
  | _ => none }
def RootInvWrongFalsely : Prop := rootInvRow.holds Tryz.pinned (OpenSpec.ofChange rootInvWrong)

/- THE SECOND FORM. 'bulk': how many values and letters a reading holds, each counted each time it is reached (what is shared counts as often as it is met; a slice's spare places count too). A statement '..UptoSaid' is the law's where the arguments, and the package variables that the reading takes, are together of bulk at most 1048576: NARROWER than '..Said'. Prove '..Said' where nothing that the law and all that it calls make is longer than what came in: it says more and counts as full. Else prove '..UptoSaid'. A law counts once. -/
mutual
def uptoBulk {H : Type} : DataW H → Nat
  | .lit (.string bytes) => bytes.length + 1
  | .lit _ => 1
  | .nil => 1
  | .ptr d => uptoBulk d + 1
  | .slice elems spare => uptoBulkAll elems + uptoBulkAll spare + 1
  | .agg parts => uptoBulkAll parts + 1
  | .iface _ d => uptoBulk d + 1
  | .map entries => uptoBulkEntries entries + 1
  | .held _ => 1
def uptoBulkAll {H : Type} : List (DataW H) → Nat
  | [] => 0
  | d :: r => uptoBulk d + uptoBulkAll r
def uptoBulkEntries {H : Type} : List (Lit × DataW H) → Nat
  | [] => 0
  | x :: r => uptoBulkEntry x + uptoBulkEntries r
def uptoBulkEntry {H : Type} : Lit × DataW H → Nat
  | (.string bytes, d) => bytes.length + uptoBulk d + 1
  | (_, d) => uptoBulk d + 1
 end
def uptoSmall : (H : Type) → List (DataW H) → Bool := fun _ ds => decide (uptoBulkAll ds ≤ 1048576)
def OpenSpec.upto (s : _root_.Go.ChangeSpec) : _root_.Go.OpenSpec := { _root_.Go.OpenSpec.ofChange s with cond := some uptoSmall }

/-- 'swarflaw03.RootFloor', WHERE WHAT IT READS IS OF BULK AT MOST 1048576: true; the input reads as it did. -/
def rootFloorUptoRow : OpenClaim := { program := "ytmbncgcjilkajaagreat", sum := "a0b04e8fd64adbe1f9ec7154b3d76361518bcae06cd97c61ea4291f587341b6e", func := "swarf/swarflaw03.RootFloor", spec := "rootFloor", apart := false, narrowed := true }
def RootFloorUptoSaid : Prop := rootFloorUptoRow.holds Tryz.pinned (OpenSpec.upto rootFloorSpec)

/-- 'swarflaw03.RootSign', WHERE WHAT IT READS IS OF BULK AT MOST 1048576: true; the input reads as it did. -/
def rootSignUptoRow : OpenClaim := { program := "ytmbncgcjilkajaagreat", sum := "a0b04e8fd64adbe1f9ec7154b3d76361518bcae06cd97c61ea4291f587341b6e", func := "swarf/swarflaw03.RootSign", spec := "rootSign", apart := false, narrowed := true }
def RootSignUptoSaid : Prop := rootSignUptoRow.holds Tryz.pinned (OpenSpec.upto rootSignSpec)

/-- 'swarflaw03.RootEnclose', WHERE WHAT IT READS IS OF BULK AT MOST 1048576: true; the input reads as it did. -/
def rootEncloseUptoRow : OpenClaim := { program := "ytmbncgcjilkajaagreat", sum := "a0b04e8fd64adbe1f9ec7154b3d76361518bcae06cd97c61ea4291f587341b6e", func := "swarf/swarflaw03.RootEnclose", spec := "rootEnclose", apart := false, narrowed := true }
def RootEncloseUptoSaid : Prop := rootEncloseUptoRow.holds Tryz.pinned (OpenSpec.upto rootEncloseSpec)

/-- 'swarflaw03.RootSum', WHERE WHAT IT READS IS OF BULK AT MOST 1048576: true; the input reads as it did. -/
def rootSumUptoRow : OpenClaim := { program := "ytmbncgcjilkajaagreat", sum := "a0b04e8fd64adbe1f9ec7154b3d76361518bcae06cd97c61ea4291f587341b6e", func := "swarf/swarflaw03.RootSum", spec := "rootSum", apart := false, narrowed := true }
def RootSumUptoSaid : Prop := rootSumUptoRow.holds Tryz.pinned (OpenSpec.upto rootSumSpec)

/-- 'swarflaw03.RootMul', WHERE WHAT IT READS IS OF BULK AT MOST 1048576: true; the input reads as it did. -/
def rootMulUptoRow : OpenClaim := { program := "ytmbncgcjilkajaagreat", sum := "a0b04e8fd64adbe1f9ec7154b3d76361518bcae06cd97c61ea4291f587341b6e", func := "swarf/swarflaw03.RootMul", spec := "rootMul", apart := false, narrowed := true }
def RootMulUptoSaid : Prop := rootMulUptoRow.holds Tryz.pinned (OpenSpec.upto rootMulSpec)

/-- 'swarflaw03.RootInv', WHERE WHAT IT READS IS OF BULK AT MOST 1048576: true; the input reads as it did. -/
def rootInvUptoRow : OpenClaim := { program := "ytmbncgcjilkajaagreat", sum := "a0b04e8fd64adbe1f9ec7154b3d76361518bcae06cd97c61ea4291f587341b6e", func := "swarf/swarflaw03.RootInv", spec := "rootInv", apart := false, narrowed := true }
def RootInvUptoSaid : Prop := rootInvUptoRow.holds Tryz.pinned (OpenSpec.upto rootInvSpec)

end Rows
end Go.Proofs.YtmbncgcjilkajaaGreat
