/-
  No cell of these rows narrows 'for every input' (looked for: loops, veiled, ifaces, maps, wideKeys, modest, calm, conditions, laid).
  DERIVED. THE GIVEN ROWS OF THIS SEAT. 6 by the template 'for every input the law returns true; each argument reads behind the call as it read before'; 0 by the template 'total and deterministic' (their statements: YtenlpklgpcnfiaaTotals.lean).
  GIVEN WITH THE SEED: the statements are not yours to turn. If you find one false, say at which input.
  Laid BY PROGRAM, IN A SANDBOX (cutbox-rows.mjs): the forced cells as the released guide's own fill.sh prints them over the translation 64759aa88184c3a9… (all of the seat's roots in one cut). By AI agents, Wed Nov 11 2026. No macro, syntax, notation, axiom, sorry.
-/
import Derived.Test.YtenlpklgpcnfiaaChecked
import GoSem.Claim
import GoSem.ClaimJoined
import GoSem.ClaimMapViews
import Derived.JoinedTies
import Derived.KernelRfl
namespace Go.Proofs.Ytenlpklgpcnfiaa
/- THE CELL 'sum', in the pinned program and in every row, IS THE sha256 OF THE DUMP (.gsa) THAT YtenlpklgpcnfiaaProg.lean LOADS. Nothing in Lean hashes anything: it is a label: what it is worth is what the hold of that sum in a sandbox is worth. -/
noncomputable def Try.pinned : Pinned := { name := "ytenlpklgpcnfiaa", sum := "64759aa88184c3a97cf1081495b0608673873a71e2c82b7afa1972133dc68698", checked := Try.checked }
namespace Rows
def none {H : Type} : Left H := { results := [], args := [] }

/-- 'countinghouselaw13.KnotsReach': WHATEVER THE INPUT: true; the input reads as it did. -/
def knotsReachSpec : ChangeSpec := { name := "knotsReach", fn := fun _ => fun
  | [d1, d2, d3] => { results := [.lit (.bool true)], args := [d1, d2, d3] }
  | _ => none }
def knotsReachRow : OpenClaim := { program := "ytenlpklgpcnfiaa", sum := "64759aa88184c3a97cf1081495b0608673873a71e2c82b7afa1972133dc68698", func := "countinghouse/countinghouselaw13.KnotsReach", spec := "knotsReach", unfollowed := true, recurses := true, apart := false }
def KnotsReachSaid : Prop := knotsReachRow.holds Try.pinned (OpenSpec.ofChange knotsReachSpec)

/-- ITS FALSE NEIGHBOUR: 'it returns false'. Refute it at one input. -/
def knotsReachWrong : ChangeSpec := { name := "knotsReach", fn := fun _ => fun
  | [d1, d2, d3] => { results := [.lit (.bool false)], args := [d1, d2, d3] }
  | _ => none }
def KnotsReachWrongFalsely : Prop := knotsReachRow.holds Try.pinned (OpenSpec.ofChange knotsReachWrong)

/-- 'countinghouselaw13.KnotsWhole': WHATEVER THE INPUT: true; the input reads as it did. -/
def knotsWholeSpec : ChangeSpec := { name := "knotsWhole", fn := fun _ => fun
  | [d] => { results := [.lit (.bool true)], args := [d] }
  | _ => none }
def knotsWholeRow : OpenClaim := { program := "ytenlpklgpcnfiaa", sum := "64759aa88184c3a97cf1081495b0608673873a71e2c82b7afa1972133dc68698", func := "countinghouse/countinghouselaw13.KnotsWhole", spec := "knotsWhole", unfollowed := true, recurses := true, apart := false }
def KnotsWholeSaid : Prop := knotsWholeRow.holds Try.pinned (OpenSpec.ofChange knotsWholeSpec)

/-- ITS FALSE NEIGHBOUR: 'it returns false'. Refute it at one input. -/
def knotsWholeWrong : ChangeSpec := { name := "knotsWhole", fn := fun _ => fun
  | [d] => { results := [.lit (.bool false)], args := [d] }
  | _ => none }
def KnotsWholeWrongFalsely : Prop := knotsWholeRow.holds Try.pinned (OpenSpec.ofChange knotsWholeWrong)

/-- 'countinghouselaw13.KnotsLong': WHATEVER THE INPUT: true; the input reads as it did. -/
def knotsLongSpec : ChangeSpec := { name := "knotsLong", fn := fun _ => fun
  | [d1, d2] => { results := [.lit (.bool true)], args := [d1, d2] }
  | _ => none }
def knotsLongRow : OpenClaim := { program := "ytenlpklgpcnfiaa", sum := "64759aa88184c3a97cf1081495b0608673873a71e2c82b7afa1972133dc68698", func := "countinghouse/countinghouselaw13.KnotsLong", spec := "knotsLong", unfollowed := true, recurses := true, apart := false }
def KnotsLongSaid : Prop := knotsLongRow.holds Try.pinned (OpenSpec.ofChange knotsLongSpec)

/-- ITS FALSE NEIGHBOUR: 'it returns false'. Refute it at one input. -/
def knotsLongWrong : ChangeSpec := { name := "knotsLong", fn := fun _ => fun
  | [d1, d2] => { results := [.lit (.bool false)], args := [d1, d2] }
  | _ => none }
def KnotsLongWrongFalsely : Prop := knotsLongRow.holds Try.pinned (OpenSpec.ofChange knotsLongWrong)

/-- 'countinghouselaw13.KnotsBack': WHATEVER THE INPUT: true; the input reads as it did. -/
def knotsBackSpec : ChangeSpec := { name := "knotsBack", fn := fun _ => fun
  | [d] => { results := [.lit (.bool true)], args := [d] }
  | _ => none }
def knotsBackRow : OpenClaim := { program := "ytenlpklgpcnfiaa", sum := "64759aa88184c3a97cf1081495b0608673873a71e2c82b7afa1972133dc68698", func := "countinghouse/countinghouselaw13.KnotsBack", spec := "knotsBack", unfollowed := true, recurses := true, apart := false }
def KnotsBackSaid : Prop := knotsBackRow.holds Try.pinned (OpenSpec.ofChange knotsBackSpec)

/-- ITS FALSE NEIGHBOUR: 'it returns false'. Refute it at one input. -/
def knotsBackWrong : ChangeSpec := { name := "knotsBack", fn := fun _ => fun
  | [d] => { results := [.lit (.bool false)], args := [d] }
  | _ => none }
def KnotsBackWrongFalsely : Prop := knotsBackRow.holds Try.pinned (OpenSpec.ofChange knotsBackWrong)

/-- 'countinghouselaw13.KnotsOpen': WHATEVER THE INPUT: true; the input reads as it did. -/
def knotsOpenSpec : ChangeSpec := { name := "knotsOpen", fn := fun _ => fun
  | [d1, d2, d3] => { results := [.lit (.bool true)], args := [d1, d2, d3] }
  | _ => none }
def knotsOpenRow : OpenClaim := { program := "ytenlpklgpcnfiaa", sum := "64759aa88184c3a97cf1081495b0608673873a71e2c82b7afa1972133dc68698", func := "countinghouse/countinghouselaw13.KnotsOpen", spec := "knotsOpen", unfollowed := true, recurses := true, apart := false }
def KnotsOpenSaid : Prop := knotsOpenRow.holds Try.pinned (OpenSpec.ofChange knotsOpenSpec)

/-- ITS FALSE NEIGHBOUR: 'it returns false'. Refute it at one input. -/
def knotsOpenWrong : ChangeSpec := { name := "knotsOpen", fn := fun _ => fun
  | [d1, d2, d3] => { results := [.lit (.bool false)], args := [d1, d2, d3] }
  | _ => none }
def KnotsOpenWrongFalsely : Prop := knotsOpenRow.holds Try.pinned (OpenSpec.ofChange knotsOpenWrong)

/-- 'countinghouselaw13.KnotsAre': WHATEVER THE INPUT: true; the input reads as it did. -/
def knotsAreSpec : ChangeSpec := { name := "knotsAre", fn := fun _ => fun
  | [d] => { results := [.lit (.bool true)], args := [d] }
  | _ => none }
def knotsAreRow : OpenClaim := { program := "ytenlpklgpcnfiaa", sum := "64759aa88184c3a97cf1081495b0608673873a71e2c82b7afa1972133dc68698", func := "countinghouse/countinghouselaw13.KnotsAre", spec := "knotsAre", unfollowed := true, recurses := true, apart := false }
def KnotsAreSaid : Prop := knotsAreRow.holds Try.pinned (OpenSpec.ofChange knotsAreSpec)

/-- ITS FALSE NEIGHBOUR: 'it returns false'. Refute it at one input. -/
def knotsAreWrong : ChangeSpec := { name := "knotsAre", fn := fun _ => fun
  | [d] => { results := [.lit (.bool false)], args := [d] }
  | _ => none }
def KnotsAreWrongFalsely : Prop := knotsAreRow.holds Try.pinned (OpenSpec.ofChange knotsAreWrong)

/- THE SECOND FORM. 'bulk': how many values and letters a reading holds, each counted each time it is reached (what is shared counts as often as it is met; a slice's spare places count too). A statement '..UptoSaid' is the law's where the arguments, and the package variables that the reading takes, are together of bulk at most 1048576: NARROWER than '..Said'. Prove '..Said' where nothing that the law and all that it calls make is longer than what came in: it says more and counts as full. Else prove '..UptoSaid'. A law counts once. -/
mutual
def uptoBulk {H : Type} : DataW H → Nat
  | .lit (.string bytes) => bytes.length + 1
  | .lit _ => 1
  | .nil => 1
  | .ptr d => uptoBulk d + 1
  | .slice elems spare => uptoBulkAll elems + uptoBulkAll spare + 1
  | .agg parts => uptoBulkAll parts + 1
  | .iface _ d => uptoBulk d + 1
  | .map entries => uptoBulkEntries entries + 1
  | .held _ => 1
def uptoBulkAll {H : Type} : List (DataW H) → Nat
  | [] => 0
  | d :: r => uptoBulk d + uptoBulkAll r
def uptoBulkEntries {H : Type} : List (Lit × DataW H) → Nat
  | [] => 0
  | x :: r => uptoBulkEntry x + uptoBulkEntries r
def uptoBulkEntry {H : Type} : Lit × DataW H → Nat
  | (.string bytes, d) => bytes.length + uptoBulk d + 1
  | (_, d) => uptoBulk d + 1
 end
def uptoSmall : (H : Type) → List (DataW H) → Bool := fun _ ds => decide (uptoBulkAll ds ≤ 1048576)
def OpenSpec.upto (s : _root_.Go.ChangeSpec) : _root_.Go.OpenSpec := { _root_.Go.OpenSpec.ofChange s with cond := some uptoSmall }

/-- 'countinghouselaw13.KnotsReach', WHERE WHAT IT READS IS OF BULK AT MOST 1048576: true; the input reads as it did. -/
def knotsReachUptoRow : OpenClaim := { program := "ytenlpklgpcnfiaa", sum := "64759aa88184c3a97cf1081495b0608673873a71e2c82b7afa1972133dc68698", func := "countinghouse/countinghouselaw13.KnotsReach", spec := "knotsReach", unfollowed := true, recurses := true, apart := false, narrowed := true }
def KnotsReachUptoSaid : Prop := knotsReachUptoRow.holds Try.pinned (OpenSpec.upto knotsReachSpec)

/-- 'countinghouselaw13.KnotsWhole', WHERE WHAT IT READS IS OF BULK AT MOST 1048576: true; the input reads as it did. -/
def knotsWholeUptoRow : OpenClaim := { program := "ytenlpklgpcnfiaa", sum := "64759aa88184c3a97cf1081495b0608673873a71e2c82b7afa1972133dc68698", func := "countinghouse/countinghouselaw13.KnotsWhole", spec := "knotsWhole", unfollowed := true, recurses := true, apart := false, narrowed := true }
def KnotsWholeUptoSaid : Prop := knotsWholeUptoRow.holds Try.pinned (OpenSpec.upto knotsWholeSpec)

/-- 'countinghouselaw13.KnotsLong', WHERE WHAT IT READS IS OF BULK AT MOST 1048576: true; the input reads as it did. -/
def knotsLongUptoRow : OpenClaim := { program := "ytenlpklgpcnfiaa", sum := "64759aa88184c3a97cf1081495b0608673873a71e2c82b7afa1972133dc68698", func := "countinghouse/countinghouselaw13.KnotsLong", spec := "knotsLong", unfollowed := true, recurses := true, apart := false, narrowed := true }
def KnotsLongUptoSaid : Prop := knotsLongUptoRow.holds Try.pinned (OpenSpec.upto knotsLongSpec)

/-- 'countinghouselaw13.KnotsBack', WHERE WHAT IT READS IS OF BULK AT MOST 1048576: true; the input reads as it did. -/
def knotsBackUptoRow : OpenClaim := { program := "ytenlpklgpcnfiaa", sum := "64759aa88184c3a97cf1081495b0608673873a71e2c82b7afa1972133dc68698", func := "countinghouse/countinghouselaw13.KnotsBack", spec := "knotsBack", unfollowed := true, recurses := true, apart := false, narrowed := true }
def KnotsBackUptoSaid : Prop := knotsBackUptoRow.holds Try.pinned (OpenSpec.upto knotsBackSpec)

/-- 'countinghouselaw13.KnotsOpen', WHERE WHAT IT READS IS OF BULK AT MOST 1048576: true; the input reads as it did. -/
def knotsOpenUptoRow : OpenClaim := { program := "ytenlpklgpcnfiaa", sum := "64759aa88184c3a97cf1081495b0608673873a71e2c82b7afa1972133dc68698", func := "countinghouse/countinghouselaw13.KnotsOpen", spec := "knotsOpen", unfollowed := true, recurses := true, apart := false, narrowed := true }
def KnotsOpenUptoSaid : Prop := knotsOpenUptoRow.holds Try.pinned (OpenSpec.upto knotsOpenSpec)

/-- 'countinghouselaw13.KnotsAre', WHERE WHAT IT READS IS OF BULK AT MOST 1048576: true; the input reads as it did. -/
def knotsAreUptoRow : OpenClaim := { program := "ytenlpklgpcnfiaa", sum := "64759aa88184c3a97cf1081495b0608673873a71e2c82b7afa1972133dc68698", func := "countinghouse/countinghouselaw13.KnotsAre", spec := "knotsAre", unfollowed := true, recurses := true, apart := false, narrowed := true }
def KnotsAreUptoSaid : Prop := knotsAreUptoRow.holds Try.pinned (OpenSpec.upto knotsAreSpec)

end Rows
end Go.Proofs.Ytenlpklgpcnfiaa
