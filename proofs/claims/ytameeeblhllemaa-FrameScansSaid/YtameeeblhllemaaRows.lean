/-
  No cell of these rows narrows 'for every input' (looked for: loops, veiled, ifaces, maps, wideKeys, modest, calm, conditions, laid).
  DERIVED. THE GIVEN ROWS OF THIS SEAT. 6 by the template 'for every input the law returns true; each argument reads behind the call as it read before'; 0 by the template 'total and deterministic' (their statements: YtameeeblhllemaaTotals.lean).
  GIVEN WITH THE SEED: the statements are not yours to turn. If you find one false, say at which input.
  Laid BY PROGRAM, IN A SANDBOX (cutbox-rows.mjs): the forced cells as the released guide's own fill.sh prints them over the translation 0cf1b8dab2627275… (all of the seat's roots in one cut). By AI agents, Wed Nov 11 2026. No macro, syntax, notation, axiom, sorry.
-/
import Derived.Test.YtameeeblhllemaaChecked
import GoSem.Claim
import GoSem.ClaimJoined
import GoSem.ClaimMapViews
import Derived.JoinedTies
import Derived.KernelRfl
namespace Go.Proofs.Ytameeeblhllemaa
/- THE CELL 'sum', in the pinned program and in every row, IS THE sha256 OF THE DUMP (.gsa) THAT YtameeeblhllemaaProg.lean LOADS. Nothing in Lean hashes anything: it is a label: what it is worth is what the hold of that sum in a sandbox is worth. -/
noncomputable def Try.pinned : Pinned := { name := "ytameeeblhllemaa", sum := "0cf1b8dab2627275e2f61326e149089e4cc385d7fe8545fa2693904748f07022", checked := Try.checked }
namespace Rows
def none {H : Type} : Left H := { results := [], args := [] }

/-- 'countinghouselaw03.FrameBytes': WHATEVER THE INPUT: true; the input reads as it did. -/
def frameBytesSpec : ChangeSpec := { name := "frameBytes", fn := fun _ => fun
  | [d1, d2] => { results := [.lit (.bool true)], args := [d1, d2] }
  | _ => none }
def frameBytesRow : OpenClaim := { program := "ytameeeblhllemaa", sum := "0cf1b8dab2627275e2f61326e149089e4cc385d7fe8545fa2693904748f07022", func := "countinghouse/countinghouselaw03.FrameBytes", spec := "frameBytes", apart := false }
def FrameBytesSaid : Prop := frameBytesRow.holds Try.pinned (OpenSpec.ofChange frameBytesSpec)

/-- ITS FALSE NEIGHBOUR: 'it returns false'. Refute it at one input. -/
def frameBytesWrong : ChangeSpec := { name := "frameBytes", fn := fun _ => fun
  | [d1, d2] => { results := [.lit (.bool false)], args := [d1, d2] }
  | _ => none }
def FrameBytesWrongFalsely : Prop := frameBytesRow.holds Try.pinned (OpenSpec.ofChange frameBytesWrong)

/-- 'countinghouselaw03.FrameScans': WHATEVER THE INPUT: true; the input reads as it did. -/
def frameScansSpec : ChangeSpec := { name := "frameScans", fn := fun _ => fun
  | [d] => { results := [.lit (.bool true)], args := [d] }
  | _ => none }
def frameScansRow : OpenClaim := { program := "ytameeeblhllemaa", sum := "0cf1b8dab2627275e2f61326e149089e4cc385d7fe8545fa2693904748f07022", func := "countinghouse/countinghouselaw03.FrameScans", spec := "frameScans", apart := false }
def FrameScansSaid : Prop := frameScansRow.holds Try.pinned (OpenSpec.ofChange frameScansSpec)

/-- ITS FALSE NEIGHBOUR: 'it returns false'. Refute it at one input. -/
def frameScansWrong : ChangeSpec := { name := "frameScans", fn := fun _ => fun
  | [d] => { results := [.lit (.bool false)], args := [d] }
  | _ => none }
def FrameScansWrongFalsely : Prop := frameScansRow.holds Try.pinned (OpenSpec.ofChange frameScansWrong)

/-- 'countinghouselaw03.FrameBack': WHATEVER THE INPUT: true; the input reads as it did. -/
def frameBackSpec : ChangeSpec := { name := "frameBack", fn := fun _ => fun
  | [d1, d2] => { results := [.lit (.bool true)], args := [d1, d2] }
  | _ => none }
def frameBackRow : OpenClaim := { program := "ytameeeblhllemaa", sum := "0cf1b8dab2627275e2f61326e149089e4cc385d7fe8545fa2693904748f07022", func := "countinghouse/countinghouselaw03.FrameBack", spec := "frameBack", apart := false }
def FrameBackSaid : Prop := frameBackRow.holds Try.pinned (OpenSpec.ofChange frameBackSpec)

/-- ITS FALSE NEIGHBOUR: 'it returns false'. Refute it at one input. -/
def frameBackWrong : ChangeSpec := { name := "frameBack", fn := fun _ => fun
  | [d1, d2] => { results := [.lit (.bool false)], args := [d1, d2] }
  | _ => none }
def FrameBackWrongFalsely : Prop := frameBackRow.holds Try.pinned (OpenSpec.ofChange frameBackWrong)

/-- 'countinghouselaw03.FrameBits': WHATEVER THE INPUT: true; the input reads as it did. -/
def frameBitsSpec : ChangeSpec := { name := "frameBits", fn := fun _ => fun
  | [d1, d2] => { results := [.lit (.bool true)], args := [d1, d2] }
  | _ => none }
def frameBitsRow : OpenClaim := { program := "ytameeeblhllemaa", sum := "0cf1b8dab2627275e2f61326e149089e4cc385d7fe8545fa2693904748f07022", func := "countinghouse/countinghouselaw03.FrameBits", spec := "frameBits", apart := false }
def FrameBitsSaid : Prop := frameBitsRow.holds Try.pinned (OpenSpec.ofChange frameBitsSpec)

/-- ITS FALSE NEIGHBOUR: 'it returns false'. Refute it at one input. -/
def frameBitsWrong : ChangeSpec := { name := "frameBits", fn := fun _ => fun
  | [d1, d2] => { results := [.lit (.bool false)], args := [d1, d2] }
  | _ => none }
def FrameBitsWrongFalsely : Prop := frameBitsRow.holds Try.pinned (OpenSpec.ofChange frameBitsWrong)

/-- 'countinghouselaw03.FrameSum': WHATEVER THE INPUT: true; the input reads as it did. -/
def frameSumSpec : ChangeSpec := { name := "frameSum", fn := fun _ => fun
  | [d1, d2, d3] => { results := [.lit (.bool true)], args := [d1, d2, d3] }
  | _ => none }
def frameSumRow : OpenClaim := { program := "ytameeeblhllemaa", sum := "0cf1b8dab2627275e2f61326e149089e4cc385d7fe8545fa2693904748f07022", func := "countinghouse/countinghouselaw03.FrameSum", spec := "frameSum", apart := false }
def FrameSumSaid : Prop := frameSumRow.holds Try.pinned (OpenSpec.ofChange frameSumSpec)

/-- ITS FALSE NEIGHBOUR: 'it returns false'. Refute it at one input. -/
def frameSumWrong : ChangeSpec := { name := "frameSum", fn := fun _ => fun
  | [d1, d2, d3] => { results := [.lit (.bool false)], args := [d1, d2, d3] }
  | _ => none }
def FrameSumWrongFalsely : Prop := frameSumRow.holds Try.pinned (OpenSpec.ofChange frameSumWrong)

/-- 'countinghouselaw03.FrameJoin': WHATEVER THE INPUT: true; the input reads as it did. -/
def frameJoinSpec : ChangeSpec := { name := "frameJoin", fn := fun _ => fun
  | [d1, d2] => { results := [.lit (.bool true)], args := [d1, d2] }
  | _ => none }
def frameJoinRow : OpenClaim := { program := "ytameeeblhllemaa", sum := "0cf1b8dab2627275e2f61326e149089e4cc385d7fe8545fa2693904748f07022", func := "countinghouse/countinghouselaw03.FrameJoin", spec := "frameJoin", apart := false }
def FrameJoinSaid : Prop := frameJoinRow.holds Try.pinned (OpenSpec.ofChange frameJoinSpec)

/-- ITS FALSE NEIGHBOUR: 'it returns false'. Refute it at one input. -/
def frameJoinWrong : ChangeSpec := { name := "frameJoin", fn := fun _ => fun
  | [d1, d2] => { results := [.lit (.bool false)], args := [d1, d2] }
  | _ => none }
def FrameJoinWrongFalsely : Prop := frameJoinRow.holds Try.pinned (OpenSpec.ofChange frameJoinWrong)

/- THE SECOND FORM. 'bulk': how many values and letters a reading holds, each counted each time it is reached (what is shared counts as often as it is met; a slice's spare places count too). A statement '..UptoSaid' is the law's where the arguments, and the package variables that the reading takes, are together of bulk at most 1048576: NARROWER than '..Said'. Prove '..Said' where nothing that the law and all that it calls make is longer than what came in: it says more and counts as full. Else prove '..UptoSaid'. A law counts once. -/
mutual
def uptoBulk {H : Type} : DataW H → Nat
  | .lit (.string bytes) => bytes.length + 1
  | .lit _ => 1
  | .nil => 1
  | .ptr d => uptoBulk d + 1
  | .slice elems spare => uptoBulkAll elems + uptoBulkAll spare + 1
  | .agg parts => uptoBulkAll parts + 1
  | .iface _ d => uptoBulk d + 1
  | .map entries => uptoBulkEntries entries + 1
  | .held _ => 1
def uptoBulkAll {H : Type} : List (DataW H) → Nat
  | [] => 0
  | d :: r => uptoBulk d + uptoBulkAll r
def uptoBulkEntries {H : Type} : List (Lit × DataW H) → Nat
  | [] => 0
  | x :: r => uptoBulkEntry x + uptoBulkEntries r
def uptoBulkEntry {H : Type} : Lit × DataW H → Nat
  | (.string bytes, d) => bytes.length + uptoBulk d + 1
  | (_, d) => uptoBulk d + 1
 end
def uptoSmall : (H : Type) → List (DataW H) → Bool := fun _ ds => decide (uptoBulkAll ds ≤ 1048576)
def OpenSpec.upto (s : _root_.Go.ChangeSpec) : _root_.Go.OpenSpec := { _root_.Go.OpenSpec.ofChange s with cond := some uptoSmall }

/-- 'countinghouselaw03.FrameBytes', WHERE WHAT IT READS IS OF BULK AT MOST 1048576: true; the input reads as it did. -/
def frameBytesUptoRow : OpenClaim := { program := "ytameeeblhllemaa", sum := "0cf1b8dab2627275e2f61326e149089e4cc385d7fe8545fa2693904748f07022", func := "countinghouse/countinghouselaw03.FrameBytes", spec := "frameBytes", apart := false, narrowed := true }
def FrameBytesUptoSaid : Prop := frameBytesUptoRow.holds Try.pinned (OpenSpec.upto frameBytesSpec)

/-- 'countinghouselaw03.FrameScans', WHERE WHAT IT READS IS OF BULK AT MOST 1048576: true; the input reads as it did. -/
def frameScansUptoRow : OpenClaim := { program := "ytameeeblhllemaa", sum := "0cf1b8dab2627275e2f61326e149089e4cc385d7fe8545fa2693904748f07022", func := "countinghouse/countinghouselaw03.FrameScans", spec := "frameScans", apart := false, narrowed := true }
def FrameScansUptoSaid : Prop := frameScansUptoRow.holds Try.pinned (OpenSpec.upto frameScansSpec)

/-- 'countinghouselaw03.FrameBack', WHERE WHAT IT READS IS OF BULK AT MOST 1048576: true; the input reads as it did. -/
def frameBackUptoRow : OpenClaim := { program := "ytameeeblhllemaa", sum := "0cf1b8dab2627275e2f61326e149089e4cc385d7fe8545fa2693904748f07022", func := "countinghouse/countinghouselaw03.FrameBack", spec := "frameBack", apart := false, narrowed := true }
def FrameBackUptoSaid : Prop := frameBackUptoRow.holds Try.pinned (OpenSpec.upto frameBackSpec)

/-- 'countinghouselaw03.FrameBits', WHERE WHAT IT READS IS OF BULK AT MOST 1048576: true; the input reads as it did. -/
def frameBitsUptoRow : OpenClaim := { program := "ytameeeblhllemaa", sum := "0cf1b8dab2627275e2f61326e149089e4cc385d7fe8545fa2693904748f07022", func := "countinghouse/countinghouselaw03.FrameBits", spec := "frameBits", apart := false, narrowed := true }
def FrameBitsUptoSaid : Prop := frameBitsUptoRow.holds Try.pinned (OpenSpec.upto frameBitsSpec)

/-- 'countinghouselaw03.FrameSum', WHERE WHAT IT READS IS OF BULK AT MOST 1048576: true; the input reads as it did. -/
def frameSumUptoRow : OpenClaim := { program := "ytameeeblhllemaa", sum := "0cf1b8dab2627275e2f61326e149089e4cc385d7fe8545fa2693904748f07022", func := "countinghouse/countinghouselaw03.FrameSum", spec := "frameSum", apart := false, narrowed := true }
def FrameSumUptoSaid : Prop := frameSumUptoRow.holds Try.pinned (OpenSpec.upto frameSumSpec)

/-- 'countinghouselaw03.FrameJoin', WHERE WHAT IT READS IS OF BULK AT MOST 1048576: true; the input reads as it did. -/
def frameJoinUptoRow : OpenClaim := { program := "ytameeeblhllemaa", sum := "0cf1b8dab2627275e2f61326e149089e4cc385d7fe8545fa2693904748f07022", func := "countinghouse/countinghouselaw03.FrameJoin", spec := "frameJoin", apart := false, narrowed := true }
def FrameJoinUptoSaid : Prop := frameJoinUptoRow.holds Try.pinned (OpenSpec.upto frameJoinSpec)

end Rows
end Go.Proofs.Ytameeeblhllemaa
