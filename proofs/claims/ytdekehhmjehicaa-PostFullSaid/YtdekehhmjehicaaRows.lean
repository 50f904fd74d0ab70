/-
  No cell of these rows narrows 'for every input' (looked for: loops, veiled, ifaces, maps, wideKeys, modest, calm, conditions, laid).
  DERIVED. THE GIVEN ROWS OF THIS SEAT. 3 by the template 'for every input the law returns true; each argument reads behind the call as it read before'; 0 by the template 'total and deterministic' (their statements: YtdekehhmjehicaaTotals.lean).
  GIVEN WITH THE SEED: the statements are not yours to turn. If you find one false, say at which input.
  Laid BY PROGRAM, IN A SANDBOX (cutbox-rows.mjs): the forced cells as the released guide's own fill.sh prints them over the translation c8d7147e5376bb1a… (all of the seat's roots in one cut). By AI agents, Wed Nov 11 2026. No macro, syntax, notation, axiom, sorry.
-/
import Derived.Test.YtdekehhmjehicaaChecked
import GoSem.Claim
import GoSem.ClaimJoined
import GoSem.ClaimMapViews
import Derived.JoinedTies
import Derived.KernelRfl
namespace Go.Proofs.Ytdekehhmjehicaa
/- THE CELL 'sum', in the pinned program and in every row, IS THE sha256 OF THE DUMP (.gsa) THAT YtdekehhmjehicaaProg.lean LOADS. Nothing in Lean hashes anything: it is a label: what it is worth is what the hold of that sum in a sandbox is worth. -/
noncomputable def Try.pinned : Pinned := { name := "ytdekehhmjehicaa", sum := "c8d7147e5376bb1aa1d3eab0bf797180f71f6ab6754a2fdbef6ee630dbc0c7d8", checked := Try.checked }
namespace Rows
def none {H : Type} : Left H := { results := [], args := [] }

/-- 'countinghouselaw17.PostBack': WHATEVER THE INPUT: true; the input reads as it did. -/
def postBackSpec : ChangeSpec := { name := "postBack", fn := fun _ => fun
  | [d1, d2] => { results := [.lit (.bool true)], args := [d1, d2] }
  | _ => none }
def postBackRow : OpenClaim := { program := "ytdekehhmjehicaa", sum := "c8d7147e5376bb1aa1d3eab0bf797180f71f6ab6754a2fdbef6ee630dbc0c7d8", func := "countinghouse/countinghouselaw17.PostBack", spec := "postBack", inPlace := ["internal/bytealg.IndexByteString", "internal/bytealg.IndexString"], unfollowed := true, recurses := true, named := ["internal/bytealg.MaxLen"], apart := false }
def PostBackSaid : Prop := postBackRow.holds Try.pinned (OpenSpec.ofChange postBackSpec)

/-- ITS FALSE NEIGHBOUR: 'it returns false'. Refute it at one input. -/
def postBackWrong : ChangeSpec := { name := "postBack", fn := fun _ => fun
  | [d1, d2] => { results := [.lit (.bool false)], args := [d1, d2] }
  | _ => none }
def PostBackWrongFalsely : Prop := postBackRow.holds Try.pinned (OpenSpec.ofChange postBackWrong)

/-- 'countinghouselaw17.PostFull': WHATEVER THE INPUT: true; the input reads as it did. -/
def postFullSpec : ChangeSpec := { name := "postFull", fn := fun _ => fun
  | [d1, d2, d3] => { results := [.lit (.bool true)], args := [d1, d2, d3] }
  | _ => none }
def postFullRow : OpenClaim := { program := "ytdekehhmjehicaa", sum := "c8d7147e5376bb1aa1d3eab0bf797180f71f6ab6754a2fdbef6ee630dbc0c7d8", func := "countinghouse/countinghouselaw17.PostFull", spec := "postFull", inPlace := ["internal/bytealg.IndexByteString", "internal/bytealg.IndexString"], unfollowed := true, recurses := true, named := ["internal/bytealg.MaxLen"], apart := false }
def PostFullSaid : Prop := postFullRow.holds Try.pinned (OpenSpec.ofChange postFullSpec)

/-- ITS FALSE NEIGHBOUR: 'it returns false'. Refute it at one input. -/
def postFullWrong : ChangeSpec := { name := "postFull", fn := fun _ => fun
  | [d1, d2, d3] => { results := [.lit (.bool false)], args := [d1, d2, d3] }
  | _ => none }
def PostFullWrongFalsely : Prop := postFullRow.holds Try.pinned (OpenSpec.ofChange postFullWrong)

/-- 'countinghouselaw17.PostRow': WHATEVER THE INPUT: true; the input reads as it did. -/
def postRowSpec : ChangeSpec := { name := "postRow", fn := fun _ => fun
  | [d] => { results := [.lit (.bool true)], args := [d] }
  | _ => none }
def postRowRow : OpenClaim := { program := "ytdekehhmjehicaa", sum := "c8d7147e5376bb1aa1d3eab0bf797180f71f6ab6754a2fdbef6ee630dbc0c7d8", func := "countinghouse/countinghouselaw17.PostRow", spec := "postRow", inPlace := ["internal/bytealg.IndexByteString", "internal/bytealg.IndexString"], unfollowed := true, recurses := true, named := ["internal/bytealg.MaxLen"], apart := false }
def PostRowSaid : Prop := postRowRow.holds Try.pinned (OpenSpec.ofChange postRowSpec)

/-- ITS FALSE NEIGHBOUR: 'it returns false'. Refute it at one input. -/
def postRowWrong : ChangeSpec := { name := "postRow", fn := fun _ => fun
  | [d] => { results := [.lit (.bool false)], args := [d] }
  | _ => none }
def PostRowWrongFalsely : Prop := postRowRow.holds Try.pinned (OpenSpec.ofChange postRowWrong)

/- THE SECOND FORM. 'bulk': how many values and letters a reading holds, each counted each time it is reached (what is shared counts as often as it is met; a slice's spare places count too). A statement '..UptoSaid' is the law's where the arguments, and the package variables that the reading takes, are together of bulk at most 1048576: NARROWER than '..Said'. Prove '..Said' where nothing that the law and all that it calls make is longer than what came in: it says more and counts as full. Else prove '..UptoSaid'. A law counts once. -/
mutual
def uptoBulk {H : Type} : DataW H → Nat
  | .lit (.string bytes) => bytes.length + 1
  | .lit _ => 1
  | .nil => 1
  | .ptr d => uptoBulk d + 1
  | .slice elems spare => uptoBulkAll elems + uptoBulkAll spare + 1
  | .agg parts => uptoBulkAll parts + 1
  | .iface _ d => uptoBulk d + 1
  | .map entries => uptoBulkEntries entries + 1
  | .held _ => 1
def uptoBulkAll {H : Type} : List (DataW H) → Nat
  | [] => 0
  | d :: r => uptoBulk d + uptoBulkAll r
def uptoBulkEntries {H : Type} : List (Lit × DataW H) → Nat
  | [] => 0
  | x :: r => uptoBulkEntry x + uptoBulkEntries r
def uptoBulkEntry {H : Type} : Lit × DataW H → Nat
  | (.string bytes, d) => bytes.length + uptoBulk d + 1
  | (_, d) => uptoBulk d + 1
 end
def uptoSmall : (H : Type) → List (DataW H) → Bool := fun _ ds => decide (uptoBulkAll ds ≤ 1048576)
def OpenSpec.upto (s : _root_.Go.ChangeSpec) : _root_.Go.OpenSpec := { _root_.Go.OpenSpec.ofChange s with cond := some uptoSmall }

/-- 'countinghouselaw17.PostBack', WHERE WHAT IT READS IS OF BULK AT MOST 1048576: true; the input reads as it did. -/
def postBackUptoRow : OpenClaim := { program := "ytdekehhmjehicaa", sum := "c8d7147e5376bb1aa1d3eab0bf797180f71f6ab6754a2fdbef6ee630dbc0c7d8", func := "countinghouse/countinghouselaw17.PostBack", spec := "postBack", inPlace := ["internal/bytealg.IndexByteString", "internal/bytealg.IndexString"], unfollowed := true, recurses := true, named := ["internal/bytealg.MaxLen"], apart := false, narrowed := true }
def PostBackUptoSaid : Prop := postBackUptoRow.holds Try.pinned (OpenSpec.upto postBackSpec)

/-- 'countinghouselaw17.PostFull', WHERE WHAT IT READS IS OF BULK AT MOST 1048576: true; the input reads as it did. -/
def postFullUptoRow : OpenClaim := { program := "ytdekehhmjehicaa", sum := "c8d7147e5376bb1aa1d3eab0bf797180f71f6ab6754a2fdbef6ee630dbc0c7d8", func := "countinghouse/countinghouselaw17.PostFull", spec := "postFull", inPlace := ["internal/bytealg.IndexByteString", "internal/bytealg.IndexString"], unfollowed := true, recurses := true, named := ["internal/bytealg.MaxLen"], apart := false, narrowed := true }
def PostFullUptoSaid : Prop := postFullUptoRow.holds Try.pinned (OpenSpec.upto postFullSpec)

/-- 'countinghouselaw17.PostRow', WHERE WHAT IT READS IS OF BULK AT MOST 1048576: true; the input reads as it did. -/
def postRowUptoRow : OpenClaim := { program := "ytdekehhmjehicaa", sum := "c8d7147e5376bb1aa1d3eab0bf797180f71f6ab6754a2fdbef6ee630dbc0c7d8", func := "countinghouse/countinghouselaw17.PostRow", spec := "postRow", inPlace := ["internal/bytealg.IndexByteString", "internal/bytealg.IndexString"], unfollowed := true, recurses := true, named := ["internal/bytealg.MaxLen"], apart := false, narrowed := true }
def PostRowUptoSaid : Prop := postRowUptoRow.holds Try.pinned (OpenSpec.upto postRowSpec)

end Rows
end Go.Proofs.Ytdekehhmjehicaa
