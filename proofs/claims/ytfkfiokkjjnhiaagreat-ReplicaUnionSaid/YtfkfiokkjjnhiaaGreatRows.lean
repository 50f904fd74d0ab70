/-
  No cell of these rows narrows 'for every input' (looked for: loops, veiled, ifaces, maps, wideKeys, modest, calm, conditions, laid).
  DERIVED. THE GIVEN ROWS OF THIS SEAT. 3 by the template 'for every input the law returns true; each argument reads behind the call as it read before'; 0 by the template 'total and deterministic' (their statements: YtfkfiokkjjnhiaaGreatTotals.lean).
  GIVEN WITH THE SEED: the statements are not yours to turn. If you find one false, say at which input.
  Laid BY PROGRAM, IN A SANDBOX (cutbox-rows.mjs): the forced cells as the released guide's own fill.sh prints them over the translation 7c305a7f786a2068… (all of the seat's roots in one cut). By AI agents, Wed Nov 11 2026. No macro, syntax, notation, axiom, sorry.
-/
import Derived.Test.YtfkfiokkjjnhiaaGreatChecked
import GoSem.Claim
import GoSem.ClaimJoined
import GoSem.ClaimMapViews
import Derived.JoinedTies
import Derived.KernelRfl
namespace Go.Proofs.YtfkfiokkjjnhiaaGreat
/- THE CELL 'sum', in the pinned program and in every row, IS THE sha256 OF THE DUMP (.gsa) THAT YtfkfiokkjjnhiaaGreatProg.lean LOADS. Nothing in Lean hashes anything: it is a label: what it is worth is what the hold of that sum in a sandbox is worth. -/
noncomputable def Tryz.pinned : Pinned := { name := "ytfkfiokkjjnhiaagreat", sum := "7c305a7f786a206808aa3c13adf6c037bc49c7642877ad7bd0b9a27f343783a6", checked := Tryz.checked }
namespace Rows
def none {H : Type} : Left H := { results := [], args := [] }

/-- 'countinghouselaw16.ReplicaUnion': WHATEVER THE INPUT: true; the input reads as it did. -/
def replicaUnionSpec : ChangeSpec := { name := "replicaUnion", fn := fun _ => fun
  | [d1, d2] => { results := [.lit (.bool true)], args := [d1, d2] }
  | _ => none }
def replicaUnionRow : OpenClaim := { program := "ytfkfiokkjjnhiaagreat", sum := "7c305a7f786a206808aa3c13adf6c037bc49c7642877ad7bd0b9a27f343783a6", func := "countinghouse/countinghouselaw16.ReplicaUnion", spec := "replicaUnion", inPlace := ["internal/bytealg.IndexByteString", "internal/bytealg.IndexString", "math/bits.Add64", "maps.clone"], unfollowed := true, recurses := true, named := ["internal/bytealg.MaxLen"], plainKeys := false, apart := false }
def ReplicaUnionSaid : Prop := replicaUnionRow.holds Tryz.pinned (OpenSpec.ofChange replicaUnionSpec)

/-- ITS FALSE NEIGHBOUR: 'it returns false'. Refute it at one input. -/
def replicaUnionWrong : ChangeSpec := { name := "replicaUnion", fn := fun _ => fun
  | [d1, d2] => { results := [.lit (.bool false)], args := [d1, d2] }
  | _ => none }
def ReplicaUnionWrongFalsely : Prop := replicaUnionRow.holds Tryz.pinned (OpenSpec.ofChange replicaUnionWrong)

/-- 'countinghouselaw16.ReplicaFast': WHATEVER THE INPUT: true; the input reads as it did. -/
def replicaFastSpec : ChangeSpec := { name := "replicaFast", fn := fun _ => fun
  | [d1, d2, d3] => { results := [.lit (.bool true)], args := [d1, d2, d3] }
  | _ => none }
def replicaFastRow : OpenClaim := { program := "ytfkfiokkjjnhiaagreat", sum := "7c305a7f786a206808aa3c13adf6c037bc49c7642877ad7bd0b9a27f343783a6", func := "countinghouse/countinghouselaw16.ReplicaFast", spec := "replicaFast", inPlace := ["internal/bytealg.IndexByteString", "internal/bytealg.IndexString", "math/bits.Add64", "maps.clone"], unfollowed := true, recurses := true, named := ["internal/bytealg.MaxLen"], plainKeys := false, apart := false }
def ReplicaFastSaid : Prop := replicaFastRow.holds Tryz.pinned (OpenSpec.ofChange replicaFastSpec)

/-- ITS FALSE NEIGHBOUR: 'it returns false'. Refute it at one input. -/
def replicaFastWrong : ChangeSpec := { name := "replicaFast", fn := fun _ => fun
  | [d1, d2, d3] => { results := [.lit (.bool false)], args := [d1, d2, d3] }
  | _ => none }
def ReplicaFastWrongFalsely : Prop := replicaFastRow.holds Tryz.pinned (OpenSpec.ofChange replicaFastWrong)

/-- 'countinghouselaw16.ReplicaAlone': WHATEVER THE INPUT: true; the input reads as it did. -/
def replicaAloneSpec : ChangeSpec := { name := "replicaAlone", fn := fun _ => fun
  | [d1, d2] => { results := [.lit (.bool true)], args := [d1, d2] }
  | _ => none }
def replicaAloneRow : OpenClaim := { program := "ytfkfiokkjjnhiaagreat", sum := "7c305a7f786a206808aa3c13adf6c037bc49c7642877ad7bd0b9a27f343783a6", func := "countinghouse/countinghouselaw16.ReplicaAlone", spec := "replicaAlone", inPlace := ["internal/bytealg.IndexByteString", "internal/bytealg.IndexString", "math/bits.Add64", "maps.clone"], unfollowed := true, recurses := true, named := ["internal/bytealg.MaxLen"], plainKeys := false, apart := false }
def ReplicaAloneSaid : Prop := replicaAloneRow.holds Tryz.pinned (OpenSpec.ofChange replicaAloneSpec)

/-- ITS FALSE NEIGHBOUR: 'it returns false'. Refute it at one input. -/
def replicaAloneWrong : ChangeSpec := { name := "replicaAlone", fn := fun _ => fun
  | [d1, d2] => { results := [.lit (.bool false)], args := [d1, d2] }
  | _ => none }
def ReplicaAloneWrongFalsely : Prop := replicaAloneRow.holds Tryz.pinned (OpenSpec.ofChange replicaAloneWrong)

/- THE SECOND FORM. 'bulk': how many values and letters a reading holds, each counted each time it is reached (what is shared counts as often as it is met; a slice's spare places count too). A statement '..UptoSaid' is the law's where the arguments, and the package variables that the reading takes, are together of bulk at most 1048576: NARROWER than '..Said'. Prove '..Said' where nothing that the law and all that it calls make is longer than what came in: it says more and counts as full. Else prove '..UptoSaid'. A law counts once. -/
mutual
def uptoBulk {H : Type} : DataW H → Nat
  | .lit (.string bytes) => bytes.length + 1
  | .lit _ => 1
  | .nil => 1
  | .ptr d => uptoBulk d + 1
  | .slice elems spare => uptoBulkAll elems + uptoBulkAll spare + 1
  | .agg parts => uptoBulkAll parts + 1
  | .iface _ d => uptoBulk d + 1
  | .map entries => uptoBulkEntries entries + 1
  | .held _ => 1
def uptoBulkAll {H : Type} : List (DataW H) → Nat
  | [] => 0
  | d :: r => uptoBulk d + uptoBulkAll r
def uptoBulkEntries {H : Type} : List (Lit × DataW H) → Nat
  | [] => 0
  | x :: r => uptoBulkEntry x + uptoBulkEntries r
def uptoBulkEntry {H : Type} : Lit × DataW H → Nat
  | (.string bytes, d) => bytes.length + uptoBulk d + 1
  | (_, d) => uptoBulk d + 1
 end
def uptoSmall : (H : Type) → List (DataW H) → Bool := fun _ ds => decide (uptoBulkAll ds ≤ 1048576)
def OpenSpec.upto (s : _root_.Go.ChangeSpec) : _root_.Go.OpenSpec := { _root_.Go.OpenSpec.ofChange s with cond := some uptoSmall }

/-- 'countinghouselaw16.ReplicaUnion', WHERE WHAT IT READS IS OF BULK AT MOST 1048576: true; the input reads as it did. -/
def replicaUnionUptoRow : OpenClaim := { program := "ytfkfiokkjjnhiaagreat", sum := "7c305a7f786a206808aa3c13adf6c037bc49c7642877ad7bd0b9a27f343783a6", func := "countinghouse/countinghouselaw16.ReplicaUnion", spec := "replicaUnion", inPlace := ["internal/bytealg.IndexByteString", "internal/bytealg.IndexString", "math/bits.Add64", "maps.clone"], unfollowed := true, recurses := true, named := ["internal/bytealg.MaxLen"], plainKeys := false, apart := false, narrowed := true }
def ReplicaUnionUptoSaid : Prop := replicaUnionUptoRow.holds Tryz.pinned (OpenSpec.upto replicaUnionSpec)

/-- 'countinghouselaw16.ReplicaFast', WHERE WHAT IT READS IS OF BULK AT MOST 1048576: true; the input reads as it did. -/
def replicaFastUptoRow : OpenClaim := { program := "ytfkfiokkjjnhiaagreat", sum := "7c305a7f786a206808aa3c13adf6c037bc49c7642877ad7bd0b9a27f343783a6", func := "countinghouse/countinghouselaw16.ReplicaFast", spec := "replicaFast", inPlace := ["internal/bytealg.IndexByteString", "internal/bytealg.IndexString", "math/bits.Add64", "maps.clone"], unfollowed := true, recurses := true, named := ["internal/bytealg.MaxLen"], plainKeys := false, apart := false, narrowed := true }
def ReplicaFastUptoSaid : Prop := replicaFastUptoRow.holds Tryz.pinned (OpenSpec.upto replicaFastSpec)

/-- 'countinghouselaw16.ReplicaAlone', WHERE WHAT IT READS IS OF BULK AT MOST 1048576: true; the input reads as it did. -/
def replicaAloneUptoRow : OpenClaim := { program := "ytfkfiokkjjnhiaagreat", sum := "7c305a7f786a206808aa3c13adf6c037bc49c7642877ad7bd0b9a27f343783a6", func := "countinghouse/countinghouselaw16.ReplicaAlone", spec := "replicaAlone", inPlace := ["internal/bytealg.IndexByteString", "internal/bytealg.IndexString", "math/bits.Add64", "maps.clone"], unfollowed := true, recurses := true, named := ["internal/bytealg.MaxLen"], plainKeys := false, apart := false, narrowed := true }
def ReplicaAloneUptoSaid : Prop := replicaAloneUptoRow.holds Tryz.pinned (OpenSpec.upto replicaAloneSpec)

end Rows
end Go.Proofs.YtfkfiokkjjnhiaaGreat
