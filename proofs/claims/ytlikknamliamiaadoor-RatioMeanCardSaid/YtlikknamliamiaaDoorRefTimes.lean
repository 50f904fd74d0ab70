/-
  The reference of chapter 1: Times. No condition.
-/
import Derived.Test.YtlikknamliamiaaDoorRefTot
namespace Go.Proofs.YtlikknamliamiaaDoor
set_option linter.unusedVariables false
open Go.RowKit
/-- What holds of the sum so far x, the multiple y, and what is left r. -/
def RmOk (a : Int) (m : Nat) (x y : Int) (r : Nat) : Prop := x + y * (r : Int) = a * (m : Int) ∧ (0 ≤ a → 0 ≤ x ∧ 0 ≤ y) ∧ (a < 0 → x ≤ 0 ∧ y ≤ 0) ∧ r ≤ 9223372036854775808
theorem am_bd {a : Int} {m : Nat} (ha : I64 a) (hm : m ≤ 9223372036854775808) : (0 ≤ a → 0 ≤ a * (m : Int) ∧ a * (m : Int) ≤ 85070591730234615856620279821087277056) ∧ (a < 0 → -85070591730234615865843651857942052864 ≤ a * (m : Int) ∧ a * (m : Int) ≤ 0) := by
  obtain ⟨a1, a2⟩ := ha
  constructor
  · intro h
    have h1 := Int.mul_nonneg h (show (0 : Int) ≤ (m : Int) by omega)
    have h2 := Int.mul_le_mul a2 (show (m : Int) ≤ 9223372036854775808 by omega) (by omega) (by omega)
    exact ⟨h1, by omega⟩
  · intro h
    have h1 := Int.mul_nonneg (show (0 : Int) ≤ -a by omega) (show (0 : Int) ≤ (m : Int) by omega)
    have h2 := Int.mul_le_mul (show -a ≤ 9223372036854775808 by omega) (show (m : Int) ≤ 9223372036854775808 by omega) (by omega) (by omega)
    rw [Int.neg_mul] at h1 h2
    omega
theorem RmOk.bd {a : Int} {m : Nat} {x y : Int} {r : Nat} (h : RmOk a m x y r) (ha : I64 a) (hm : m ≤ 9223372036854775808) :
    (-85070591730234615865843651857942052864 ≤ x ∧ x ≤ 85070591730234615856620279821087277056) ∧ (0 < r → -85070591730234615865843651857942052864 ≤ y ∧ y ≤ 85070591730234615856620279821087277056) ∧ (0 < r → (0 ≤ x ∧ 0 ≤ y ∨ x ≤ 0 ∧ y ≤ 0)) := by
  obtain ⟨h1, h2, h3, _⟩ := h
  obtain ⟨b1, b2⟩ := am_bd ha hm
  by_cases h0 : 0 ≤ a
  · have c := b1 h0
    have d := h2 h0
    have e := Int.mul_nonneg d.2 (show (0 : Int) ≤ (r : Int) by omega)
    refine ⟨by omega, fun hr => ?_, fun _ => .inl d⟩
    have f := Int.mul_le_mul_of_nonneg_left (show (1 : Int) ≤ (r : Int) by omega) d.2
    rw [Int.mul_one] at f
    omega
  · have c := b2 (by omega)
    have d := h3 (by omega)
    have e := Int.mul_nonneg (show (0 : Int) ≤ -y by omega) (show (0 : Int) ≤ (r : Int) by omega)
    rw [Int.neg_mul] at e
    refine ⟨by omega, fun hr => ?_, fun _ => .inr d⟩
    have f := Int.mul_le_mul_of_nonneg_left (show (1 : Int) ≤ (r : Int) by omega) (show (0 : Int) ≤ -y by omega)
    rw [Int.mul_one, Int.neg_mul] at f
    omega
theorem RmOk.even {a : Int} {m : Nat} {x y : Int} {r : Nat} (h : RmOk a m x y r) (he : r % 2 = 0) : RmOk a m x (y + y) (r / 2) := by
  obtain ⟨h1, h2, h3, h4⟩ := h
  refine ⟨?_, fun h0 => ?_, fun h0 => ?_, by omega⟩
  · rw [← h1, ← Int.two_mul, Int.mul_comm 2 y, Int.mul_assoc, show (2 : Int) * ((r / 2 : Nat) : Int) = (r : Int) by omega]
  · have := h2 h0; omega
  · have := h3 h0; omega
theorem RmOk.odd {a : Int} {m : Nat} {x y : Int} {r : Nat} (h : RmOk a m x y r) (he : r % 2 = 1) : RmOk a m (x + y) (y + y) (r / 2) := by
  obtain ⟨h1, h2, h3, h4⟩ := h
  refine ⟨?_, fun h0 => ?_, fun h0 => ?_, by omega⟩
  · have e : (r : Int) = 2 * ((r / 2 : Nat) : Int) + 1 := by omega
    rw [← h1, e, Int.mul_add, Int.mul_one, ← Int.two_mul, Int.mul_comm 2 y, Int.mul_assoc]; omega
  · have := h2 h0; omega
  · have := h3 h0; omega
end Go.Proofs.YtlikknamliamiaaDoor
