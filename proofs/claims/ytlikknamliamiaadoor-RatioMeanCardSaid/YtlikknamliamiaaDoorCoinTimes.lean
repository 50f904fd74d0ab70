/-
  The contracts of coins.size, coins.Times, coins.Total. No condition.
-/
import Derived.Test.YtlikknamliamiaaDoorCoinAdd
import Derived.Test.YtlikknamliamiaaDoorApp
import Derived.Shelf.Bits.Mul64
import Derived.Test.YtlikknamliamiaaDoorShelf
namespace Go.Proofs.YtlikknamliamiaaDoor
set_option linter.unusedVariables false
open Go.RowKit
theorem ret2i {x x' y y' : Int} (h1 : x = x') (h2 : y = y') : Ending.returned (.tuple #[.int .i64 x, .int .i64 y]) = .returned (.tuple #[.int .i64 x', .int .i64 y']) := by rw [h1, h2]
theorem add64_run (x y : Nat) (w : World) : (callFunc 37 #[.int .u64 (x : Int), .int .u64 (y : Int), .int .u64 0]).run Tryd.prog w =
    .ok (.value (.tuple #[.int .u64 (((x + y) % 18446744073709551616 : Nat) : Int), .int .u64 (((x + y) / 18446744073709551616 : Nat) : Int)])) w := by
  rw [run_callFunc_extern Tryd.func37 (by kernel_rfl) (by kernel_rfl) (by kernel_rfl) (e := add64Entry) (by kernel_rfl), run_add64 x y 0 (by omega) (by omega) (by omega) (by omega)]
  simp only [Result.andThen]
  congr 5 <;> omega
theorem size_val (a : Int) (ha : I64 a) : (a < 0 → IntKind.u64.wrap (-(IntKind.u64.wrap a)) = (mag a : Int)) ∧ (¬ a < 0 → IntKind.u64.wrap a = (mag a : Int)) := by
  obtain ⟨h1, h2⟩ := ha
  simp only [IntKind.wrap_u64]
  unfold mag
  constructor <;> intro h <;> omega
set_option maxRecDepth 100000 in
theorem size_ok (w : World) (a : Int) (ha : I64 a) : Calls Tryd.prog 34 #[.int .i64 a] w fun e w' => e = .returned (.int .u64 (mag a : Int)) ∧ w = w' := by
  obtain ⟨s1, s2⟩ := size_val a ha
  by_cases h : a < 0
  · have s := Lib.hid (s1 h)
    clear s1 s2
    replace ha := Lib.hid ha
    go_enter Tryd.func34, Tryd.ntmps34
    go_wp2
    go_ret
    exact ⟨by rw [← s.out]; rfl, rfl⟩
  · have s := Lib.hid (s2 h)
    clear s1 s2
    replace ha := Lib.hid ha
    go_enter Tryd.func34, Tryd.ntmps34
    go_wp2
    go_ret
    exact ⟨by rw [← s.out]; rfl, rfl⟩
theorem mag_mul (a b : Int) : (a < 0 → b < 0 → a * b = ((mag a * mag b : Nat) : Int)) ∧ (a < 0 → ¬ b < 0 → a * b = -((mag a * mag b : Nat) : Int)) ∧ (¬ a < 0 → b < 0 → a * b = -((mag a * mag b : Nat) : Int)) ∧ (¬ a < 0 → ¬ b < 0 → a * b = ((mag a * mag b : Nat) : Int)) := by
  unfold mag
  rw [Int.natCast_mul]
  refine ⟨fun h1 h2 => ?_, fun h1 h2 => ?_, fun h1 h2 => ?_, fun h1 h2 => ?_⟩
  · rw [show (a.natAbs : Int) = -a by omega, show (b.natAbs : Int) = -b by omega, Int.neg_mul_neg]
  · rw [show (a.natAbs : Int) = -a by omega, show (b.natAbs : Int) = b by omega, Int.neg_mul, Int.neg_neg]
  · rw [show (a.natAbs : Int) = a by omega, show (b.natAbs : Int) = -b by omega, Int.mul_neg, Int.neg_neg]
  · rw [show (a.natAbs : Int) = a by omega, show (b.natAbs : Int) = b by omega]
set_option maxRecDepth 100000 in
theorem times_neg {P : Int} {n : Nat} (h : P = -(n : Int)) (hn : n ≤ 9223372036854775808) : sumR P = (-(n : Int), 0) := by
  rw [sumR_yes (inI_yes.2 (by omega)), h]
set_option maxRecDepth 100000 in
theorem times_pos {P : Int} {n : Nat} (h : P = (n : Int)) (hn : n < 9223372036854775808) : sumR P = ((n : Int), 0) := by
  rw [sumR_yes (inI_yes.2 (by omega)), h]
theorem times_no {P : Int} (h : ¬ (-9223372036854775808 ≤ P ∧ P ≤ 9223372036854775807)) : sumR P = (0, 2) := by
  refine sumR_no ?_
  cases hh : inI P with
  | false => rfl
  | true => exact absurd (inI_yes.1 hh) h
theorem mul64_ok (w : World) (x y hi lo : Nat) (hx : x ≤ 9223372036854775808) (hy : y ≤ 9223372036854775808) (h : x * y = hi * 18446744073709551616 + lo) (hlo : lo < 18446744073709551616) :
    Calls Tryd.prog 50 #[.int .u64 (x : Int), .int .u64 (y : Int)] w fun e w' => e = .returned (.tuple #[.int .u64 (hi : Int), .int .u64 (lo : Int)]) ∧ w = w' := by
  refine (Tryd.bits_Mul64 x y (by omega) (by omega) w).mono ?_
  rintro e w' ⟨rfl, rfl⟩
  have e1 : x * y / 18446744073709551616 = hi := by rw [h]; omega
  have e2 : x * y % 18446744073709551616 = lo := by rw [h]; omega
  rw [e1, e2]
  exact ⟨rfl, rfl⟩
end Go.Proofs.YtlikknamliamiaaDoor
