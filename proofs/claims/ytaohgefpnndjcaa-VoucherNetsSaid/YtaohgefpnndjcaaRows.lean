/-
  No cell of these rows narrows 'for every input' (looked for: loops, veiled, ifaces, maps, wideKeys, modest, calm, conditions, laid).
  DERIVED. THE GIVEN ROWS OF THIS SEAT. 6 by the template 'for every input the law returns true; each argument reads behind the call as it read before'; 0 by the template 'total and deterministic' (their statements: YtaohgefpnndjcaaTotals.lean).
  GIVEN WITH THE SEED: the statements are not yours to turn. If you find one false, say at which input.
  Laid BY PROGRAM, IN A SANDBOX (cutbox-rows.mjs): the forced cells as the released guide's own fill.sh prints them over the translation e7680b7acfb950a7… (all of the seat's roots in one cut). By AI agents, Wed Nov 11 2026. No macro, syntax, notation, axiom, sorry.
-/
import Derived.Test.YtaohgefpnndjcaaChecked
import GoSem.Claim
import GoSem.ClaimJoined
import GoSem.ClaimMapViews
import Derived.JoinedTies
import Derived.KernelRfl
namespace Go.Proofs.Ytaohgefpnndjcaa
/- THE CELL 'sum', in the pinned program and in every row, IS THE sha256 OF THE DUMP (.gsa) THAT YtaohgefpnndjcaaProg.lean LOADS. Nothing in Lean hashes anything: it is a label: what it is worth is what the hold of that sum in a sandbox is worth. -/
noncomputable def Try.pinned : Pinned := { name := "ytaohgefpnndjcaa", sum := "e7680b7acfb950a710b5566cb9137019866e1d31ec108617767821e5554d0197", checked := Try.checked }
namespace Rows
def none {H : Type} : Left H := { results := [], args := [] }

/-- 'countinghouselaw07.VoucherMakes': WHATEVER THE INPUT: true; the input reads as it did. -/
def voucherMakesSpec : ChangeSpec := { name := "voucherMakes", fn := fun _ => fun
  | [d1, d2] => { results := [.lit (.bool true)], args := [d1, d2] }
  | _ => none }
def voucherMakesRow : OpenClaim := { program := "ytaohgefpnndjcaa", sum := "e7680b7acfb950a710b5566cb9137019866e1d31ec108617767821e5554d0197", func := "countinghouse/countinghouselaw07.VoucherMakes", spec := "voucherMakes", inPlace := ["internal/bytealg.IndexByteString", "internal/bytealg.IndexString", "math/bits.Add64", "maps.clone"], unfollowed := true, recurses := true, named := ["internal/bytealg.MaxLen"], apart := false }
def VoucherMakesSaid : Prop := voucherMakesRow.holds Try.pinned (OpenSpec.ofChange voucherMakesSpec)

/-- ITS FALSE NEIGHBOUR: 'it returns false'. Refute it at one input. -/
def voucherMakesWrong : ChangeSpec := { name := "voucherMakes", fn := fun _ => fun
  | [d1, d2] => { results := [.lit (.bool false)], args := [d1, d2] }
  | _ => none }
def VoucherMakesWrongFalsely : Prop := voucherMakesRow.holds Try.pinned (OpenSpec.ofChange voucherMakesWrong)

/-- 'countinghouselaw07.VoucherRow': WHATEVER THE INPUT: true; the input reads as it did. -/
def voucherRowSpec : ChangeSpec := { name := "voucherRow", fn := fun _ => fun
  | [d1, d2, d3] => { results := [.lit (.bool true)], args := [d1, d2, d3] }
  | _ => none }
def voucherRowRow : OpenClaim := { program := "ytaohgefpnndjcaa", sum := "e7680b7acfb950a710b5566cb9137019866e1d31ec108617767821e5554d0197", func := "countinghouse/countinghouselaw07.VoucherRow", spec := "voucherRow", inPlace := ["internal/bytealg.IndexByteString", "internal/bytealg.IndexString", "math/bits.Add64", "maps.clone"], unfollowed := true, recurses := true, named := ["internal/bytealg.MaxLen"], apart := false }
def VoucherRowSaid : Prop := voucherRowRow.holds Try.pinned (OpenSpec.ofChange voucherRowSpec)

/-- ITS FALSE NEIGHBOUR: 'it returns false'. Refute it at one input. -/
def voucherRowWrong : ChangeSpec := { name := "voucherRow", fn := fun _ => fun
  | [d1, d2, d3] => { results := [.lit (.bool false)], args := [d1, d2, d3] }
  | _ => none }
def VoucherRowWrongFalsely : Prop := voucherRowRow.holds Try.pinned (OpenSpec.ofChange voucherRowWrong)

/-- 'countinghouselaw07.VoucherWeighs': WHATEVER THE INPUT: true; the input reads as it did. -/
def voucherWeighsSpec : ChangeSpec := { name := "voucherWeighs", fn := fun _ => fun
  | [d1, d2] => { results := [.lit (.bool true)], args := [d1, d2] }
  | _ => none }
def voucherWeighsRow : OpenClaim := { program := "ytaohgefpnndjcaa", sum := "e7680b7acfb950a710b5566cb9137019866e1d31ec108617767821e5554d0197", func := "countinghouse/countinghouselaw07.VoucherWeighs", spec := "voucherWeighs", inPlace := ["internal/bytealg.IndexByteString", "internal/bytealg.IndexString", "math/bits.Add64", "maps.clone"], unfollowed := true, recurses := true, named := ["internal/bytealg.MaxLen"], apart := false }
def VoucherWeighsSaid : Prop := voucherWeighsRow.holds Try.pinned (OpenSpec.ofChange voucherWeighsSpec)

/-- ITS FALSE NEIGHBOUR: 'it returns false'. Refute it at one input. -/
def voucherWeighsWrong : ChangeSpec := { name := "voucherWeighs", fn := fun _ => fun
  | [d1, d2] => { results := [.lit (.bool false)], args := [d1, d2] }
  | _ => none }
def VoucherWeighsWrongFalsely : Prop := voucherWeighsRow.holds Try.pinned (OpenSpec.ofChange voucherWeighsWrong)

/-- 'countinghouselaw07.VoucherSums': WHATEVER THE INPUT: true; the input reads as it did. -/
def voucherSumsSpec : ChangeSpec := { name := "voucherSums", fn := fun _ => fun
  | [d1, d2] => { results := [.lit (.bool true)], args := [d1, d2] }
  | _ => none }
def voucherSumsRow : OpenClaim := { program := "ytaohgefpnndjcaa", sum := "e7680b7acfb950a710b5566cb9137019866e1d31ec108617767821e5554d0197", func := "countinghouse/countinghouselaw07.VoucherSums", spec := "voucherSums", inPlace := ["internal/bytealg.IndexByteString", "internal/bytealg.IndexString", "math/bits.Add64", "maps.clone"], unfollowed := true, recurses := true, named := ["internal/bytealg.MaxLen"], apart := false }
def VoucherSumsSaid : Prop := voucherSumsRow.holds Try.pinned (OpenSpec.ofChange voucherSumsSpec)

/-- ITS FALSE NEIGHBOUR: 'it returns false'. Refute it at one input. -/
def voucherSumsWrong : ChangeSpec := { name := "voucherSums", fn := fun _ => fun
  | [d1, d2] => { results := [.lit (.bool false)], args := [d1, d2] }
  | _ => none }
def VoucherSumsWrongFalsely : Prop := voucherSumsRow.holds Try.pinned (OpenSpec.ofChange voucherSumsWrong)

/-- 'countinghouselaw07.VoucherNets': WHATEVER THE INPUT: true; the input reads as it did. -/
def voucherNetsSpec : ChangeSpec := { name := "voucherNets", fn := fun _ => fun
  | [d] => { results := [.lit (.bool true)], args := [d] }
  | _ => none }
def voucherNetsRow : OpenClaim := { program := "ytaohgefpnndjcaa", sum := "e7680b7acfb950a710b5566cb9137019866e1d31ec108617767821e5554d0197", func := "countinghouse/countinghouselaw07.VoucherNets", spec := "voucherNets", inPlace := ["internal/bytealg.IndexByteString", "internal/bytealg.IndexString", "math/bits.Add64", "maps.clone"], unfollowed := true, recurses := true, named := ["internal/bytealg.MaxLen"], apart := false }
def VoucherNetsSaid : Prop := voucherNetsRow.holds Try.pinned (OpenSpec.ofChange voucherNetsSpec)

/-- ITS FALSE NEIGHBOUR: 'it returns false'. Refute it at one input. -/
def voucherNetsWrong : ChangeSpec := { name := "voucherNets", fn := fun _ => fun
  | [d] => { results := [.lit (.bool false)], args := [d] }
  | _ => none }
def VoucherNetsWrongFalsely : Prop := voucherNetsRow.holds Try.pinned (OpenSpec.ofChange voucherNetsWrong)

/-- 'countinghouselaw07.VoucherBack': WHATEVER THE INPUT: true; the input reads as it did. -/
def voucherBackSpec : ChangeSpec := { name := "voucherBack", fn := fun _ => fun
  | [d1, d2] => { results := [.lit (.bool true)], args := [d1, d2] }
  | _ => none }
def voucherBackRow : OpenClaim := { program := "ytaohgefpnndjcaa", sum := "e7680b7acfb950a710b5566cb9137019866e1d31ec108617767821e5554d0197", func := "countinghouse/countinghouselaw07.VoucherBack", spec := "voucherBack", inPlace := ["internal/bytealg.IndexByteString", "internal/bytealg.IndexString", "math/bits.Add64", "maps.clone"], unfollowed := true, recurses := true, named := ["internal/bytealg.MaxLen"], apart := false }
def VoucherBackSaid : Prop := voucherBackRow.holds Try.pinned (OpenSpec.ofChange voucherBackSpec)

/-- ITS FALSE NEIGHBOUR: 'it returns false'. Refute it at one input. -/
def voucherBackWrong : ChangeSpec := { name := "voucherBack", fn := fun _ => fun
  | [d1, d2] => { results := [.lit (.bool false)], args := [d1, d2] }
  | _ => none }
def VoucherBackWrongFalsely : Prop := voucherBackRow.holds Try.pinned (OpenSpec.ofChange voucherBackWrong)

/- THE SECOND FORM. 'bulk': how many values and letters a reading holds, each counted each time it is reached (what is shared counts as often as it is met; a slice's spare places count too). A statement '..UptoSaid' is the law's where the arguments, and the package variables that the reading takes, are together of bulk at most 1048576: NARROWER than '..Said'. Prove '..Said' where nothing that the law and all that it calls make is longer than what came in: it says more and counts as full. Else prove '..UptoSaid'. A law counts once. -/
mutual
def uptoBulk {H : Type} : DataW H → Nat
  | .lit (.string bytes) => bytes.length + 1
  | .lit _ => 1
  | .nil => 1
  | .ptr d => uptoBulk d + 1
  | .slice elems spare => uptoBulkAll elems + uptoBulkAll spare + 1
  | .agg parts => uptoBulkAll parts + 1
  | .iface _ d => uptoBulk d + 1
  | .map entries => uptoBulkEntries entries + 1
  | .held _ => 1
def uptoBulkAll {H : Type} : List (DataW H) → Nat
  | [] => 0
  | d :: r => uptoBulk d + uptoBulkAll r
def uptoBulkEntries {H : Type} : List (Lit × DataW H) → Nat
  | [] => 0
  | x :: r => uptoBulkEntry x + uptoBulkEntries r
def uptoBulkEntry {H : Type} : Lit × DataW H → Nat
  | (.string bytes, d) => bytes.length + uptoBulk d + 1
  | (_, d) => uptoBulk d + 1
 end
def uptoSmall : (H : Type) → List (DataW H) → Bool := fun _ ds => decide (uptoBulkAll ds ≤ 1048576)
def OpenSpec.upto (s : _root_.Go.ChangeSpec) : _root_.Go.OpenSpec := { _root_.Go.OpenSpec.ofChange s with cond := some uptoSmall }

/-- 'countinghouselaw07.VoucherMakes', WHERE WHAT IT READS IS OF BULK AT MOST 1048576: true; the input reads as it did. -/
def voucherMakesUptoRow : OpenClaim := { program := "ytaohgefpnndjcaa", sum := "e7680b7acfb950a710b5566cb9137019866e1d31ec108617767821e5554d0197", func := "countinghouse/countinghouselaw07.VoucherMakes", spec := "voucherMakes", inPlace := ["internal/bytealg.IndexByteString", "internal/bytealg.IndexString", "math/bits.Add64", "maps.clone"], unfollowed := true, recurses := true, named := ["internal/bytealg.MaxLen"], apart := false, narrowed := true }
def VoucherMakesUptoSaid : Prop := voucherMakesUptoRow.holds Try.pinned (OpenSpec.upto voucherMakesSpec)

/-- 'countinghouselaw07.VoucherRow', WHERE WHAT IT READS IS OF BULK AT MOST 1048576: true; the input reads as it did. -/
def voucherRowUptoRow : OpenClaim := { program := "ytaohgefpnndjcaa", sum := "e7680b7acfb950a710b5566cb9137019866e1d31ec108617767821e5554d0197", func := "countinghouse/countinghouselaw07.VoucherRow", spec := "voucherRow", inPlace := ["internal/bytealg.IndexByteString", "internal/bytealg.IndexString", "math/bits.Add64", "maps.clone"], unfollowed := true, recurses := true, named := ["internal/bytealg.MaxLen"], apart := false, narrowed := true }
def VoucherRowUptoSaid : Prop := voucherRowUptoRow.holds Try.pinned (OpenSpec.upto voucherRowSpec)

/-- 'countinghouselaw07.VoucherWeighs', WHERE WHAT IT READS IS OF BULK AT MOST 1048576: true; the input reads as it did. -/
def voucherWeighsUptoRow : OpenClaim := { program := "ytaohgefpnndjcaa", sum := "e7680b7acfb950a710b5566cb9137019866e1d31ec108617767821e5554d0197", func := "countinghouse/countinghouselaw07.VoucherWeighs", spec := "voucherWeighs", inPlace := ["internal/bytealg.IndexByteString", "internal/bytealg.IndexString", "math/bits.Add64", "maps.clone"], unfollowed := true, recurses := true, named := ["internal/bytealg.MaxLen"], apart := false, narrowed := true }
def VoucherWeighsUptoSaid : Prop := voucherWeighsUptoRow.holds Try.pinned (OpenSpec.upto voucherWeighsSpec)

/-- 'countinghouselaw07.VoucherSums', WHERE WHAT IT READS IS OF BULK AT MOST 1048576: true; the input reads as it did. -/
def voucherSumsUptoRow : OpenClaim := { program := "ytaohgefpnndjcaa", sum := "e7680b7acfb950a710b5566cb9137019866e1d31ec108617767821e5554d0197", func := "countinghouse/countinghouselaw07.VoucherSums", spec := "voucherSums", inPlace := ["internal/bytealg.IndexByteString", "internal/bytealg.IndexString", "math/bits.Add64", "maps.clone"], unfollowed := true, recurses := true, named := ["internal/bytealg.MaxLen"], apart := false, narrowed := true }
def VoucherSumsUptoSaid : Prop := voucherSumsUptoRow.holds Try.pinned (OpenSpec.upto voucherSumsSpec)

/-- 'countinghouselaw07.VoucherNets', WHERE WHAT IT READS IS OF BULK AT MOST 1048576: true; the input reads as it did. -/
def voucherNetsUptoRow : OpenClaim := { program := "ytaohgefpnndjcaa", sum := "e7680b7acfb950a710b5566cb9137019866e1d31ec108617767821e5554d0197", func := "countinghouse/countinghouselaw07.VoucherNets", spec := "voucherNets", inPlace := ["internal/bytealg.IndexByteString", "internal/bytealg.IndexString", "math/bits.Add64", "maps.clone"], unfollowed := true, recurses := true, named := ["internal/bytealg.MaxLen"], apart := false, narrowed := true }
def VoucherNetsUptoSaid : Prop := voucherNetsUptoRow.holds Try.pinned (OpenSpec.upto voucherNetsSpec)

/-- 'countinghouselaw07.VoucherBack', WHERE WHAT IT READS IS OF BULK AT MOST 1048576: true; the input reads as it did. -/
def voucherBackUptoRow : OpenClaim := { program := "ytaohgefpnndjcaa", sum := "e7680b7acfb950a710b5566cb9137019866e1d31ec108617767821e5554d0197", func := "countinghouse/countinghouselaw07.VoucherBack", spec := "voucherBack", inPlace := ["internal/bytealg.IndexByteString", "internal/bytealg.IndexString", "math/bits.Add64", "maps.clone"], unfollowed := true, recurses := true, named := ["internal/bytealg.MaxLen"], apart := false, narrowed := true }
def VoucherBackUptoSaid : Prop := voucherBackUptoRow.holds Try.pinned (OpenSpec.upto voucherBackSpec)

end Rows
end Go.Proofs.Ytaohgefpnndjcaa
