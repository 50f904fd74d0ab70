/-
  No cell of these rows narrows 'for every input' (looked for: loops, veiled, ifaces, maps, wideKeys, modest, calm, conditions, laid).
  DERIVED. THE GIVEN ROWS OF THIS SEAT. 5 by the template 'for every input the law returns true; each argument reads behind the call as it read before'; 0 by the template 'total and deterministic' (their statements: YtgljnlafjolfpaaTotals.lean).
  GIVEN WITH THE SEED: the statements are not yours to turn. If you find one false, say at which input.
  Laid BY PROGRAM, IN A SANDBOX (cutbox-rows.mjs): the forced cells as the released guide's own fill.sh prints them over the translation 957add56ac8918fc… (all of the seat's roots in one cut). By AI agents, Wed Nov 11 2026. No macro, syntax, notation, axiom, sorry.
-/
import Derived.Test.YtgljnlafjolfpaaChecked
import GoSem.Claim
import GoSem.ClaimJoined
import GoSem.ClaimMapViews
import Derived.JoinedTies
import Derived.KernelRfl
namespace Go.Proofs.Ytgljnlafjolfpaa
/- THE CELL 'sum', in the pinned program and in every row, IS THE sha256 OF THE DUMP (.gsa) THAT YtgljnlafjolfpaaProg.lean LOADS. Nothing in Lean hashes anything: it is a label: what it is worth is what the hold of that sum in a sandbox is worth. -/
noncomputable def Try.pinned : Pinned := { name := "ytgljnlafjolfpaa", sum := "957add56ac8918fc34ddf971ca56866889bb4658ad37eb978cf71696ed74b4fc", checked := Try.checked }
namespace Rows
def none {H : Type} : Left H := { results := [], args := [] }

/-- 'countinghouselaw05.ChartFree': WHATEVER THE INPUT: true; the input reads as it did. -/
def chartFreeSpec : ChangeSpec := { name := "chartFree", fn := fun _ => fun
  | [d] => { results := [.lit (.bool true)], args := [d] }
  | _ => none }
def chartFreeRow : OpenClaim := { program := "ytgljnlafjolfpaa", sum := "957add56ac8918fc34ddf971ca56866889bb4658ad37eb978cf71696ed74b4fc", func := "countinghouse/countinghouselaw05.ChartFree", spec := "chartFree", inPlace := ["internal/bytealg.IndexByteString", "internal/bytealg.IndexString"], unfollowed := true, recurses := true, named := ["internal/bytealg.MaxLen"], apart := false }
def ChartFreeSaid : Prop := chartFreeRow.holds Try.pinned (OpenSpec.ofChange chartFreeSpec)

/-- ITS FALSE NEIGHBOUR: 'it returns false'. Refute it at one input. -/
def chartFreeWrong : ChangeSpec := { name := "chartFree", fn := fun _ => fun
  | [d] => { results := [.lit (.bool false)], args := [d] }
  | _ => none }
def ChartFreeWrongFalsely : Prop := chartFreeRow.holds Try.pinned (OpenSpec.ofChange chartFreeWrong)

/-- 'countinghouselaw05.ChartApart': WHATEVER THE INPUT: true; the input reads as it did. -/
def chartApartSpec : ChangeSpec := { name := "chartApart", fn := fun _ => fun
  | [d] => { results := [.lit (.bool true)], args := [d] }
  | _ => none }
def chartApartRow : OpenClaim := { program := "ytgljnlafjolfpaa", sum := "957add56ac8918fc34ddf971ca56866889bb4658ad37eb978cf71696ed74b4fc", func := "countinghouse/countinghouselaw05.ChartApart", spec := "chartApart", inPlace := ["internal/bytealg.IndexByteString", "internal/bytealg.IndexString"], unfollowed := true, recurses := true, named := ["internal/bytealg.MaxLen"], apart := false }
def ChartApartSaid : Prop := chartApartRow.holds Try.pinned (OpenSpec.ofChange chartApartSpec)

/-- ITS FALSE NEIGHBOUR: 'it returns false'. Refute it at one input. -/
def chartApartWrong : ChangeSpec := { name := "chartApart", fn := fun _ => fun
  | [d] => { results := [.lit (.bool false)], args := [d] }
  | _ => none }
def ChartApartWrongFalsely : Prop := chartApartRow.holds Try.pinned (OpenSpec.ofChange chartApartWrong)

/-- 'countinghouselaw05.ChartBack': WHATEVER THE INPUT: true; the input reads as it did. -/
def chartBackSpec : ChangeSpec := { name := "chartBack", fn := fun _ => fun
  | [d1, d2, d3] => { results := [.lit (.bool true)], args := [d1, d2, d3] }
  | _ => none }
def chartBackRow : OpenClaim := { program := "ytgljnlafjolfpaa", sum := "957add56ac8918fc34ddf971ca56866889bb4658ad37eb978cf71696ed74b4fc", func := "countinghouse/countinghouselaw05.ChartBack", spec := "chartBack", inPlace := ["internal/bytealg.IndexByteString", "internal/bytealg.IndexString", "maps.clone"], unfollowed := true, recurses := true, named := ["internal/bytealg.MaxLen"], apart := false }
def ChartBackSaid : Prop := chartBackRow.holds Try.pinned (OpenSpec.ofChange chartBackSpec)

/-- ITS FALSE NEIGHBOUR: 'it returns false'. Refute it at one input. -/
def chartBackWrong : ChangeSpec := { name := "chartBack", fn := fun _ => fun
  | [d1, d2, d3] => { results := [.lit (.bool false)], args := [d1, d2, d3] }
  | _ => none }
def ChartBackWrongFalsely : Prop := chartBackRow.holds Try.pinned (OpenSpec.ofChange chartBackWrong)

/-- 'countinghouselaw05.ChartPlays': WHATEVER THE INPUT: true; the input reads as it did. -/
def chartPlaysSpec : ChangeSpec := { name := "chartPlays", fn := fun _ => fun
  | [d] => { results := [.lit (.bool true)], args := [d] }
  | _ => none }
def chartPlaysRow : OpenClaim := { program := "ytgljnlafjolfpaa", sum := "957add56ac8918fc34ddf971ca56866889bb4658ad37eb978cf71696ed74b4fc", func := "countinghouse/countinghouselaw05.ChartPlays", spec := "chartPlays", inPlace := ["internal/bytealg.IndexByteString", "internal/bytealg.IndexString", "math/bits.Add64"], unfollowed := true, recurses := true, named := ["internal/bytealg.MaxLen"], apart := false }
def ChartPlaysSaid : Prop := chartPlaysRow.holds Try.pinned (OpenSpec.ofChange chartPlaysSpec)

/-- ITS FALSE NEIGHBOUR: 'it returns false'. Refute it at one input. -/
def chartPlaysWrong : ChangeSpec := { name := "chartPlays", fn := fun _ => fun
  | [d] => { results := [.lit (.bool false)], args := [d] }
  | _ => none }
def ChartPlaysWrongFalsely : Prop := chartPlaysRow.holds Try.pinned (OpenSpec.ofChange chartPlaysWrong)

/-- 'countinghouselaw05.ChartNil': WHATEVER THE INPUT: true; the input reads as it did. -/
def chartNilSpec : ChangeSpec := { name := "chartNil", fn := fun _ => fun
  | [d] => { results := [.lit (.bool true)], args := [d] }
  | _ => none }
def chartNilRow : OpenClaim := { program := "ytgljnlafjolfpaa", sum := "957add56ac8918fc34ddf971ca56866889bb4658ad37eb978cf71696ed74b4fc", func := "countinghouse/countinghouselaw05.ChartNil", spec := "chartNil", inPlace := ["internal/bytealg.IndexByteString", "internal/bytealg.IndexString", "math/bits.Add64", "maps.clone"], unfollowed := true, recurses := true, named := ["internal/bytealg.MaxLen"], apart := false }
def ChartNilSaid : Prop := chartNilRow.holds Try.pinned (OpenSpec.ofChange chartNilSpec)

/-- ITS FALSE NEIGHBOUR: 'it returns false'. Refute it at one input. -/
def chartNilWrong : ChangeSpec := { name := "chartNil", fn := fun _ => fun
  | [d] => { results := [.lit (.bool false)], args := [d] }
  | _ => none }
def ChartNilWrongFalsely : Prop := chartNilRow.holds Try.pinned (OpenSpec.ofChange chartNilWrong)

/- THE SECOND FORM. 'bulk': how many values and letters a reading holds, each counted each time it is reached (what is shared counts as often as it is met; a slice's spare places count too). A statement '..UptoSaid' is the law's where the arguments, and the package variables that the reading takes, are together of bulk at most 1048576: NARROWER than '..Said'. Prove '..Said' where nothing that the law and all that it calls make is longer than what came in: it says more and counts as full. Else prove '..UptoSaid'. A law counts once. -/
mutual
def uptoBulk {H : Type} : DataW H → Nat
  | .lit (.string bytes) => bytes.length + 1
  | .lit _ => 1
  | .nil => 1
  | .ptr d => uptoBulk d + 1
  | .slice elems spare => uptoBulkAll elems + uptoBulkAll spare + 1
  | .agg parts => uptoBulkAll parts + 1
  | .iface _ d => uptoBulk d + 1
  | .map entries => uptoBulkEntries entries + 1
  | .held _ => 1
def uptoBulkAll {H : Type} : List (DataW H) → Nat
  | [] => 0
  | d :: r => uptoBulk d + uptoBulkAll r
def uptoBulkEntries {H : Type} : List (Lit × DataW H) → Nat
  | [] => 0
  | x :: r => uptoBulkEntry x + uptoBulkEntries r
def uptoBulkEntry {H : Type} : Lit × DataW H → Nat
  | (.string bytes, d) => bytes.length + uptoBulk d + 1
  | (_, d) => uptoBulk d + 1
 end
def uptoSmall : (H : Type) → List (DataW H) → Bool := fun _ ds => decide (uptoBulkAll ds ≤ 1048576)
def OpenSpec.upto (s : _root_.Go.ChangeSpec) : _root_.Go.OpenSpec := { _root_.Go.OpenSpec.ofChange s with cond := some uptoSmall }

/-- 'countinghouselaw05.ChartFree', WHERE WHAT IT READS IS OF BULK AT MOST 1048576: true; the input reads as it did. -/
def chartFreeUptoRow : OpenClaim := { program := "ytgljnlafjolfpaa", sum := "957add56ac8918fc34ddf971ca56866889bb4658ad37eb978cf71696ed74b4fc", func := "countinghouse/countinghouselaw05.ChartFree", spec := "chartFree", inPlace := ["internal/bytealg.IndexByteString", "internal/bytealg.IndexString"], unfollowed := true, recurses := true, named := ["internal/bytealg.MaxLen"], apart := false, narrowed := true }
def ChartFreeUptoSaid : Prop := chartFreeUptoRow.holds Try.pinned (OpenSpec.upto chartFreeSpec)

/-- 'countinghouselaw05.ChartApart', WHERE WHAT IT READS IS OF BULK AT MOST 1048576: true; the input reads as it did. -/
def chartApartUptoRow : OpenClaim := { program := "ytgljnlafjolfpaa", sum := "957add56ac8918fc34ddf971ca56866889bb4658ad37eb978cf71696ed74b4fc", func := "countinghouse/countinghouselaw05.ChartApart", spec := "chartApart", inPlace := ["internal/bytealg.IndexByteString", "internal/bytealg.IndexString"], unfollowed := true, recurses := true, named := ["internal/bytealg.MaxLen"], apart := false, narrowed := true }
def ChartApartUptoSaid : Prop := chartApartUptoRow.holds Try.pinned (OpenSpec.upto chartApartSpec)

/-- 'countinghouselaw05.ChartBack', WHERE WHAT IT READS IS OF BULK AT MOST 1048576: true; the input reads as it did. -/
def chartBackUptoRow : OpenClaim := { program := "ytgljnlafjolfpaa", sum := "957add56ac8918fc34ddf971ca56866889bb4658ad37eb978cf71696ed74b4fc", func := "countinghouse/countinghouselaw05.ChartBack", spec := "chartBack", inPlace := ["internal/bytealg.IndexByteString", "internal/bytealg.IndexString", "maps.clone"], unfollowed := true, recurses := true, named := ["internal/bytealg.MaxLen"], apart := false, narrowed := true }
def ChartBackUptoSaid : Prop := chartBackUptoRow.holds Try.pinned (OpenSpec.upto chartBackSpec)

/-- 'countinghouselaw05.ChartPlays', WHERE WHAT IT READS IS OF BULK AT MOST 1048576: true; the input reads as it did. -/
def chartPlaysUptoRow : OpenClaim := { program := "ytgljnlafjolfpaa", sum := "957add56ac8918fc34ddf971ca56866889bb4658ad37eb978cf71696ed74b4fc", func := "countinghouse/countinghouselaw05.ChartPlays", spec := "chartPlays", inPlace := ["internal/bytealg.IndexByteString", "internal/bytealg.IndexString", "math/bits.Add64"], unfollowed := true, recurses := true, named := ["internal/bytealg.MaxLen"], apart := false, narrowed := true }
def ChartPlaysUptoSaid : Prop := chartPlaysUptoRow.holds Try.pinned (OpenSpec.upto chartPlaysSpec)

/-- 'countinghouselaw05.ChartNil', WHERE WHAT IT READS IS OF BULK AT MOST 1048576: true; the input reads as it did. -/
def chartNilUptoRow : OpenClaim := { program := "ytgljnlafjolfpaa", sum := "957add56ac8918fc34ddf971ca56866889bb4658ad37eb978cf71696ed74b4fc", func := "countinghouse/countinghouselaw05.ChartNil", spec := "chartNil", inPlace := ["internal/bytealg.IndexByteString", "internal/bytealg.IndexString", "math/bits.Add64", "maps.clone"], unfollowed := true, recurses := true, named := ["internal/bytealg.MaxLen"], apart := false, narrowed := true }
def ChartNilUptoSaid : Prop := chartNilUptoRow.holds Try.pinned (OpenSpec.upto chartNilSpec)

end Rows
end Go.Proofs.Ytgljnlafjolfpaa
