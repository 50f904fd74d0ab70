/-
  No cell of these rows narrows 'for every input' (looked for: loops, veiled, ifaces, maps, wideKeys, modest, calm, conditions, laid).
  DERIVED. THE GIVEN ROWS OF THIS SEAT. 6 by the template 'for every input the law returns true; each argument reads behind the call as it read before'; 0 by the template 'total and deterministic' (their statements: YtdnbclhidpkpgaaGreatTotals.lean).
  GIVEN WITH THE SEED: the statements are not yours to turn. If you find one false, say at which input.
  Laid BY PROGRAM, IN A SANDBOX (cutbox-rows.mjs): the forced cells as the released guide's own fill.sh prints them over the translation 818992bff85cfdee… (all of the seat's roots in one cut). By AI agents, Wed Nov 11 2026. No macro, syntax, notation, axiom, sorry.
-/
import Derived.Test.YtdnbclhidpkpgaaGreatChecked
import GoSem.Claim
import GoSem.ClaimJoined
import GoSem.ClaimMapViews
import Derived.JoinedTies
import Derived.KernelRfl
namespace Go.Proofs.YtdnbclhidpkpgaaGreat
/- THE CELL 'sum', in the pinned program and in every row, IS THE sha256 OF THE DUMP (.gsa) THAT YtdnbclhidpkpgaaGreatProg.lean LOADS. Nothing in Lean hashes anything: it is a label: what it is worth is what the hold of that sum in a sandbox is worth. -/
noncomputable def Tryz.pinned : Pinned := { name := "ytdnbclhidpkpgaagreat", sum := "818992bff85cfdee12e41e4c19bd8ea64039df00d653f1bd396d7655e67b0e84", checked := Tryz.checked }
namespace Rows
def none {H : Type} : Left H := { results := [], args := [] }

/-- 'countinghouselaw15.LogReads': WHATEVER THE INPUT: true; the input reads as it did. -/
def logReadsSpec : ChangeSpec := { name := "logReads", fn := fun _ => fun
  | [d] => { results := [.lit (.bool true)], args := [d] }
  | _ => none }
def logReadsRow : OpenClaim := { program := "ytdnbclhidpkpgaagreat", sum := "818992bff85cfdee12e41e4c19bd8ea64039df00d653f1bd396d7655e67b0e84", func := "countinghouse/countinghouselaw15.LogReads", spec := "logReads", inPlace := ["internal/bytealg.IndexByteString", "internal/bytealg.IndexString"], unfollowed := true, recurses := true, named := ["internal/bytealg.MaxLen"], plainKeys := false, apart := false }
def LogReadsSaid : Prop := logReadsRow.holds Tryz.pinned (OpenSpec.ofChange logReadsSpec)

/-- ITS FALSE NEIGHBOUR: 'it returns false'. Refute it at one input. -/
def logReadsWrong : ChangeSpec := { name := "logReads", fn := fun _ => fun
  | [d] => { results := [.lit (.bool false)], args := [d] }
  | _ => none }
def LogReadsWrongFalsely : Prop := logReadsRow.holds Tryz.pinned (OpenSpec.ofChange logReadsWrong)

/-- 'countinghouselaw15.LogBack': WHATEVER THE INPUT: true; the input reads as it did. -/
def logBackSpec : ChangeSpec := { name := "logBack", fn := fun _ => fun
  | [d1, d2] => { results := [.lit (.bool true)], args := [d1, d2] }
  | _ => none }
def logBackRow : OpenClaim := { program := "ytdnbclhidpkpgaagreat", sum := "818992bff85cfdee12e41e4c19bd8ea64039df00d653f1bd396d7655e67b0e84", func := "countinghouse/countinghouselaw15.LogBack", spec := "logBack", inPlace := ["internal/bytealg.IndexByteString", "internal/bytealg.IndexString"], unfollowed := true, recurses := true, named := ["internal/bytealg.MaxLen"], plainKeys := false, apart := false }
def LogBackSaid : Prop := logBackRow.holds Tryz.pinned (OpenSpec.ofChange logBackSpec)

/-- ITS FALSE NEIGHBOUR: 'it returns false'. Refute it at one input. -/
def logBackWrong : ChangeSpec := { name := "logBack", fn := fun _ => fun
  | [d1, d2] => { results := [.lit (.bool false)], args := [d1, d2] }
  | _ => none }
def LogBackWrongFalsely : Prop := logBackRow.holds Tryz.pinned (OpenSpec.ofChange logBackWrong)

/-- 'countinghouselaw15.LogFull': WHATEVER THE INPUT: true; the input reads as it did. -/
def logFullSpec : ChangeSpec := { name := "logFull", fn := fun _ => fun
  | [d1, d2] => { results := [.lit (.bool true)], args := [d1, d2] }
  | _ => none }
def logFullRow : OpenClaim := { program := "ytdnbclhidpkpgaagreat", sum := "818992bff85cfdee12e41e4c19bd8ea64039df00d653f1bd396d7655e67b0e84", func := "countinghouse/countinghouselaw15.LogFull", spec := "logFull", inPlace := ["internal/bytealg.IndexByteString", "internal/bytealg.IndexString"], unfollowed := true, recurses := true, named := ["internal/bytealg.MaxLen"], plainKeys := false, apart := false }
def LogFullSaid : Prop := logFullRow.holds Tryz.pinned (OpenSpec.ofChange logFullSpec)

/-- ITS FALSE NEIGHBOUR: 'it returns false'. Refute it at one input. -/
def logFullWrong : ChangeSpec := { name := "logFull", fn := fun _ => fun
  | [d1, d2] => { results := [.lit (.bool false)], args := [d1, d2] }
  | _ => none }
def LogFullWrongFalsely : Prop := logFullRow.holds Tryz.pinned (OpenSpec.ofChange logFullWrong)

/-- 'countinghouselaw15.LogBytes': WHATEVER THE INPUT: true; the input reads as it did. -/
def logBytesSpec : ChangeSpec := { name := "logBytes", fn := fun _ => fun
  | [d] => { results := [.lit (.bool true)], args := [d] }
  | _ => none }
def logBytesRow : OpenClaim := { program := "ytdnbclhidpkpgaagreat", sum := "818992bff85cfdee12e41e4c19bd8ea64039df00d653f1bd396d7655e67b0e84", func := "countinghouse/countinghouselaw15.LogBytes", spec := "logBytes", inPlace := ["internal/bytealg.IndexByteString", "internal/bytealg.IndexString"], unfollowed := true, recurses := true, named := ["internal/bytealg.MaxLen"], plainKeys := false, apart := false }
def LogBytesSaid : Prop := logBytesRow.holds Tryz.pinned (OpenSpec.ofChange logBytesSpec)

/-- ITS FALSE NEIGHBOUR: 'it returns false'. Refute it at one input. -/
def logBytesWrong : ChangeSpec := { name := "logBytes", fn := fun _ => fun
  | [d] => { results := [.lit (.bool false)], args := [d] }
  | _ => none }
def LogBytesWrongFalsely : Prop := logBytesRow.holds Tryz.pinned (OpenSpec.ofChange logBytesWrong)

/-- 'countinghouselaw15.LogLast': WHATEVER THE INPUT: true; the input reads as it did. -/
def logLastSpec : ChangeSpec := { name := "logLast", fn := fun _ => fun
  | [d] => { results := [.lit (.bool true)], args := [d] }
  | _ => none }
def logLastRow : OpenClaim := { program := "ytdnbclhidpkpgaagreat", sum := "818992bff85cfdee12e41e4c19bd8ea64039df00d653f1bd396d7655e67b0e84", func := "countinghouse/countinghouselaw15.LogLast", spec := "logLast", inPlace := ["internal/bytealg.IndexByteString", "internal/bytealg.IndexString"], unfollowed := true, recurses := true, named := ["internal/bytealg.MaxLen"], plainKeys := false, apart := false }
def LogLastSaid : Prop := logLastRow.holds Tryz.pinned (OpenSpec.ofChange logLastSpec)

/-- ITS FALSE NEIGHBOUR: 'it returns false'. Refute it at one input. -/
def logLastWrong : ChangeSpec := { name := "logLast", fn := fun _ => fun
  | [d] => { results := [.lit (.bool false)], args := [d] }
  | _ => none }
def LogLastWrongFalsely : Prop := logLastRow.holds Tryz.pinned (OpenSpec.ofChange logLastWrong)

/-- 'countinghouselaw15.LogKeeps': WHATEVER THE INPUT: true; the input reads as it did. -/
def logKeepsSpec : ChangeSpec := { name := "logKeeps", fn := fun _ => fun
  | [d1, d2, d3] => { results := [.lit (.bool true)], args := [d1, d2, d3] }
  | _ => none }
def logKeepsRow : OpenClaim := { program := "ytdnbclhidpkpgaagreat", sum := "818992bff85cfdee12e41e4c19bd8ea64039df00d653f1bd396d7655e67b0e84", func := "countinghouse/countinghouselaw15.LogKeeps", spec := "logKeeps", inPlace := ["internal/bytealg.IndexByteString", "internal/bytealg.IndexString"], unfollowed := true, recurses := true, named := ["internal/bytealg.MaxLen"], plainKeys := false, apart := false }
def LogKeepsSaid : Prop := logKeepsRow.holds Tryz.pinned (OpenSpec.ofChange logKeepsSpec)

/-- ITS FALSE NEIGHBOUR: 'it returns false'. Refute it at one input. -/
def logKeepsWrong : ChangeSpec := { name := "logKeeps", fn := fun _ => fun
  | [d1, d2, d3] => { results := [.lit (.bool false)], args := [d1, d2, d3] }
  | _ => none }
def LogKeepsWrongFalsely : Prop := logKeepsRow.holds Tryz.pinned (OpenSpec.ofChange logKeepsWrong)

/- THE SECOND FORM. 'bulk': how many values and letters a reading holds, each counted each time it is reached (what is shared counts as often as it is met; a slice's spare places count too). A statement '..UptoSaid' is the law's where the arguments, and the package variables that the reading takes, are together of bulk at most 1048576: NARROWER than '..Said'. Prove '..Said' where nothing that the law and all that it calls make is longer than what came in: it says more and counts as full. Else prove '..UptoSaid'. A law counts once. -/
mutual
def uptoBulk {H : Type} : DataW H → Nat
  | .lit (.string bytes) => bytes.length + 1
  | .lit _ => 1
  | .nil => 1
  | .ptr d => uptoBulk d + 1
  | .slice elems spare => uptoBulkAll elems + uptoBulkAll spare + 1
  | .agg parts => uptoBulkAll parts + 1
  | .iface _ d => uptoBulk d + 1
  | .map entries => uptoBulkEntries entries + 1
  | .held _ => 1
def uptoBulkAll {H : Type} : List (DataW H) → Nat
  | [] => 0
  | d :: r => uptoBulk d + uptoBulkAll r
def uptoBulkEntries {H : Type} : List (Lit × DataW H) → Nat
  | [] => 0
  | x :: r => uptoBulkEntry x + uptoBulkEntries r
def uptoBulkEntry {H : Type} : Lit × DataW H → Nat
  | (.string bytes, d) => bytes.length + uptoBulk d + 1
  | (_, d) => uptoBulk d + 1
 end
def uptoSmall : (H : Type) → List (DataW H) → Bool := fun _ ds => decide (uptoBulkAll ds ≤ 1048576)
def OpenSpec.upto (s : _root_.Go.ChangeSpec) : _root_.Go.OpenSpec := { _root_.Go.OpenSpec.ofChange s with cond := some uptoSmall }

/-- 'countinghouselaw15.LogReads', WHERE WHAT IT READS IS OF BULK AT MOST 1048576: true; the input reads as it did. -/
def logReadsUptoRow : OpenClaim := { program := "ytdnbclhidpkpgaagreat", sum := "818992bff85cfdee12e41e4c19bd8ea64039df00d653f1bd396d7655e67b0e84", func := "countinghouse/countinghouselaw15.LogReads", spec := "logReads", inPlace := ["internal/bytealg.IndexByteString", "internal/bytealg.IndexString"], unfollowed := true, recurses := true, named := ["internal/bytealg.MaxLen"], plainKeys := false, apart := false, narrowed := true }
def LogReadsUptoSaid : Prop := logReadsUptoRow.holds Tryz.pinned (OpenSpec.upto logReadsSpec)

/-- 'countinghouselaw15.LogBack', WHERE WHAT IT READS IS OF BULK AT MOST 1048576: true; the input reads as it did. -/
def logBackUptoRow : OpenClaim := { program := "ytdnbclhidpkpgaagreat", sum := "818992bff85cfdee12e41e4c19bd8ea64039df00d653f1bd396d7655e67b0e84", func := "countinghouse/countinghouselaw15.LogBack", spec := "logBack", inPlace := ["internal/bytealg.IndexByteString", "internal/bytealg.IndexString"], unfollowed := true, recurses := true, named := ["internal/bytealg.MaxLen"], plainKeys := false, apart := false, narrowed := true }
def LogBackUptoSaid : Prop := logBackUptoRow.holds Tryz.pinned (OpenSpec.upto logBackSpec)

/-- 'countinghouselaw15.LogFull', WHERE WHAT IT READS IS OF BULK AT MOST 1048576: true; the input reads as it did. -/
def logFullUptoRow : OpenClaim := { program := "ytdnbclhidpkpgaagreat", sum := "818992bff85cfdee12e41e4c19bd8ea64039df00d653f1bd396d7655e67b0e84", func := "countinghouse/countinghouselaw15.LogFull", spec := "logFull", inPlace := ["internal/bytealg.IndexByteString", "internal/bytealg.IndexString"], unfollowed := true, recurses := true, named := ["internal/bytealg.MaxLen"], plainKeys := false, apart := false, narrowed := true }
def LogFullUptoSaid : Prop := logFullUptoRow.holds Tryz.pinned (OpenSpec.upto logFullSpec)

/-- 'countinghouselaw15.LogBytes', WHERE WHAT IT READS IS OF BULK AT MOST 1048576: true; the input reads as it did. -/
def logBytesUptoRow : OpenClaim := { program := "ytdnbclhidpkpgaagreat", sum := "818992bff85cfdee12e41e4c19bd8ea64039df00d653f1bd396d7655e67b0e84", func := "countinghouse/countinghouselaw15.LogBytes", spec := "logBytes", inPlace := ["internal/bytealg.IndexByteString", "internal/bytealg.IndexString"], unfollowed := true, recurses := true, named := ["internal/bytealg.MaxLen"], plainKeys := false, apart := false, narrowed := true }
def LogBytesUptoSaid : Prop := logBytesUptoRow.holds Tryz.pinned (OpenSpec.upto logBytesSpec)

/-- 'countinghouselaw15.LogLast', WHERE WHAT IT READS IS OF BULK AT MOST 1048576: true; the input reads as it did. -/
def logLastUptoRow : OpenClaim := { program := "ytdnbclhidpkpgaagreat", sum := "818992bff85cfdee12e41e4c19bd8ea64039df00d653f1bd396d7655e67b0e84", func := "countinghouse/countinghouselaw15.LogLast", spec := "logLast", inPlace := ["internal/bytealg.IndexByteString", "internal/bytealg.IndexString"], unfollowed := true, recurses := true, named := ["internal/bytealg.MaxLen"], plainKeys := false, apart := false, narrowed := true }
def LogLastUptoSaid : Prop := logLastUptoRow.holds Tryz.pinned (OpenSpec.upto logLastSpec)

/-- 'countinghouselaw15.LogKeeps', WHERE WHAT IT READS IS OF BULK AT MOST 1048576: true; the input reads as it did. -/
def logKeepsUptoRow : OpenClaim := { program := "ytdnbclhidpkpgaagreat", sum := "818992bff85cfdee12e41e4c19bd8ea64039df00d653f1bd396d7655e67b0e84", func := "countinghouse/countinghouselaw15.LogKeeps", spec := "logKeeps", inPlace := ["internal/bytealg.IndexByteString", "internal/bytealg.IndexString"], unfollowed := true, recurses := true, named := ["internal/bytealg.MaxLen"], plainKeys := false, apart := false, narrowed := true }
def LogKeepsUptoSaid : Prop := logKeepsUptoRow.holds Tryz.pinned (OpenSpec.upto logKeepsSpec)

end Rows
end Go.Proofs.YtdnbclhidpkpgaaGreat
