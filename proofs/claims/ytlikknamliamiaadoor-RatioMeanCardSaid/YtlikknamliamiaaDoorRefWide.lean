/-
  The reference's wide numbers: the contracts of Of, Plus, Minus, Sum. No condition.
-/
import Derived.Test.YtlikknamliamiaaDoorCoinTotal
import Derived.Deep.QuietTactic
namespace Go.Proofs.YtlikknamliamiaaDoor
set_option linter.unusedVariables false
open Go.RowKit
/-- A number in two halves. -/
def wd (x : Int) : Value := .agg #[.int .i64 (x / 18446744073709551616), .int .u64 (x % 18446744073709551616)]
theorem wd_eq {x h : Int} {l : Nat} (e : x = h * 18446744073709551616 + (l : Int)) (hl : l < 18446744073709551616) : wd x = .agg #[.int .i64 h, .int .u64 (l : Int)] := by
  unfold wd
  rw [show x / 18446744073709551616 = h by omega, show x % 18446744073709551616 = (l : Int) by omega]
def WPost (x : Int) (w : World) (e : Ending) (w' : World) : Prop := e = .returned (wd x) ∧ Mod none_ w w'
theorem wrap64_in64 (x : Int) : I64 (wrap64 x) := by unfold I64 wrap64; omega
theorem sum_in {x h : Int} {l : Nat} (e : x = h * 18446744073709551616 + (l : Int)) (hl : l < 18446744073709551616) :
    (inI x = true → h = wrap64 (l : Int) / 18446744073709551616 ∧ wrap64 (l : Int) = x) ∧ (inI x = false → h ≠ wrap64 (l : Int) / 18446744073709551616) := by
  constructor
  · intro hi
    have := inI_yes.1 hi
    unfold wrap64
    omega
  · intro hi he
    have : ¬ (inI x = true) := by rw [hi]; simp
    rw [inI_yes] at this
    unfold wrap64 at he
    omega
end Go.Proofs.YtlikknamliamiaaDoor
