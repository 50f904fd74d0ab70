/-
  The contracts of coins.size, coins.Times, coins.Total. No condition.
-/
import Derived.Test.YtaohgefpnndjcaaCoinAdd
import Derived.Test.YtaohgefpnndjcaaApp
import Derived.Shelf.Bits.Mul64
import Derived.Test.YtaohgefpnndjcaaShelf
namespace Go.Proofs.Ytaohgefpnndjcaa
set_option linter.unusedVariables false
open Go.RowKit
theorem ret2i {x x' y y' : Int} (h1 : x = x') (h2 : y = y') : Ending.returned (.tuple #[.int .i64 x, .int .i64 y]) = .returned (.tuple #[.int .i64 x', .int .i64 y']) := by rw [h1, h2]
theorem add64_run (x y : Nat) (w : World) : (callFunc 66 #[.int .u64 (x : Int), .int .u64 (y : Int), .int .u64 0]).run Try.prog w =
    .ok (.value (.tuple #[.int .u64 (((x + y) % 18446744073709551616 : Nat) : Int), .int .u64 (((x + y) / 18446744073709551616 : Nat) : Int)])) w := by
  rw [run_callFunc_extern Try.func66 (by kernel_rfl) (by kernel_rfl) (by kernel_rfl) (e := add64Entry) (by kernel_rfl), run_add64 x y 0 (by omega) (by omega) (by omega) (by omega)]
  simp only [Result.andThen]
  congr 5 <;> omega
theorem size_val (a : Int) (ha : I64 a) : (a < 0 → IntKind.u64.wrap (-(IntKind.u64.wrap a)) = (mag a : Int)) ∧ (¬ a < 0 → IntKind.u64.wrap a = (mag a : Int)) := by
  obtain ⟨h1, h2⟩ := ha
  simp only [IntKind.wrap_u64]
  unfold mag
  constructor <;> intro h <;> omega
theorem mag_mul (a b : Int) : (a < 0 → b < 0 → a * b = ((mag a * mag b : Nat) : Int)) ∧ (a < 0 → ¬ b < 0 → a * b = -((mag a * mag b : Nat) : Int)) ∧ (¬ a < 0 → b < 0 → a * b = -((mag a * mag b : Nat) : Int)) ∧ (¬ a < 0 → ¬ b < 0 → a * b = ((mag a * mag b : Nat) : Int)) := by
  unfold mag
  rw [Int.natCast_mul]
  refine ⟨fun h1 h2 => ?_, fun h1 h2 => ?_, fun h1 h2 => ?_, fun h1 h2 => ?_⟩
  · rw [show (a.natAbs : Int) = -a by omega, show (b.natAbs : Int) = -b by omega, Int.neg_mul_neg]
  · rw [show (a.natAbs : Int) = -a by omega, show (b.natAbs : Int) = b by omega, Int.neg_mul, Int.neg_neg]
  · rw [show (a.natAbs : Int) = a by omega, show (b.natAbs : Int) = -b by omega, Int.mul_neg, Int.neg_neg]
  · rw [show (a.natAbs : Int) = a by omega, show (b.natAbs : Int) = b by omega]
set_option maxRecDepth 100000 in
theorem times_neg {P : Int} {n : Nat} (h : P = -(n : Int)) (hn : n ≤ 9223372036854775808) : sumR P = (-(n : Int), 0) := by
  rw [sumR_yes (inI_yes.2 (by omega)), h]
set_option maxRecDepth 100000 in
theorem times_pos {P : Int} {n : Nat} (h : P = (n : Int)) (hn : n < 9223372036854775808) : sumR P = ((n : Int), 0) := by
  rw [sumR_yes (inI_yes.2 (by omega)), h]
theorem times_no {P : Int} (h : ¬ (-9223372036854775808 ≤ P ∧ P ≤ 9223372036854775807)) : sumR P = (0, 2) := by
  refine sumR_no ?_
  cases hh : inI P with
  | false => rfl
  | true => exact absurd (inI_yes.1 hh) h
end Go.Proofs.Ytaohgefpnndjcaa
