/-
  The reference of chapter 1: Add, Less, Total, Share, Between. No condition.
-/
import Derived.Test.YtlikknamliamiaaDoorRefWide
import Derived.Test.YtlikknamliamiaaDoorCoinShare
import Derived.Test.YtlikknamliamiaaDoorSameI
namespace Go.Proofs.YtlikknamliamiaaDoor
set_option linter.unusedVariables false
open Go.RowKit
def SPost (x : Int) (w : World) (e : Ending) (w' : World) : Prop := e = .returned (.tuple #[.int .i64 (sumR x).1, .int .i64 ((sumR x).2 : Int)]) ∧ Mod none_ w w'
theorem rbtw_val (a lo hi : Int) : btw a lo hi = if hi < lo ∨ a < lo then lo else if hi < a then hi else a := by
  unfold btw
  split
  · omega
  · split <;> omega
end Go.Proofs.YtlikknamliamiaaDoor
