/-
  Numbers without their sign. No condition.
-/
import Derived.Test.YtnjgcdijpkbloaaVar
import Derived.Test.YtnjgcdijpkbloaaBits
import Derived.Test.YtnjgcdijpkbloaaRows
namespace Go.Proofs.Ytnjgcdijpkbloaa
open Go.RowKit
def zig (n : Int) : Nat := if 0 ≤ n then (2 * n).toNat else (-2 * n - 1).toNat
def unzig (m : Nat) : Int := if m % 2 = 0 then (m / 2 : Nat) else -((m / 2 : Nat) : Int) - 1
theorem unzig_zig (n : Int) : unzig (zig n) = n := by
  unfold unzig zig
  by_cases h : 0 ≤ n
  · rw [if_pos h, if_pos (by omega)]; omega
  · rw [if_neg h, if_neg (by omega)]; omega
theorem zig_unzig (m : Nat) : zig (unzig m) = m := by
  unfold unzig zig
  by_cases h : m % 2 = 0
  · rw [if_pos h, if_pos (by omega)]; omega
  · rw [if_neg h, if_neg (by omega)]; omega
theorem zig_lt {n : Int} (h1 : -9223372036854775808 ≤ n) (h2 : n ≤ 9223372036854775807) : zig n < 18446744073709551616 := by
  unfold zig; split <;> omega
theorem unzig_in {m : Nat} (h : m < 18446744073709551616) : -9223372036854775808 ≤ unzig m ∧ unzig m ≤ 9223372036854775807 := by
  unfold unzig; split <;> omega

theorem bx64 (a b : Nat) (ha : a < 18446744073709551616) (hb : b < 18446744073709551616) : bits .xor .u64 (a : Int) (b : Int) = ((a ^^^ b : Nat) : Int) := by
  have hx : a ^^^ b < 2 ^ 64 := Nat.xor_lt_two_pow (by omega) (by omega)
  show IntKind.u64.wrap ((BitVec.ofInt 64 (a : Int) ^^^ BitVec.ofInt 64 (b : Int)).toNat : Int) = _
  rw [BitVec.toNat_xor, ofInt_nat 64 a (by omega), ofInt_nat 64 b (by omega), IntKind.wrap_u64]
  omega
theorem not64 (q : Nat) (hq : q < 18446744073709551616) : q ^^^ 18446744073709551615 = 18446744073709551615 - q := by
  have h := BitVec.toNat_not (x := BitVec.ofNat 64 q)
  rw [BitVec.not_def, BitVec.toNat_xor, BitVec.toNat_ofNat, Nat.mod_eq_of_lt (by omega : q < 2 ^ 64)] at h
  have e : (BitVec.allOnes 64).toNat = 18446744073709551615 := by decide
  rw [e, Nat.xor_comm] at h
  exact h
theorem fold_bits (n : Int) (h1 : -9223372036854775808 ≤ n) (h2 : n ≤ 9223372036854775807) : bits .xor .u64 (IntKind.u64.wrap (IntKind.u64.wrap n * 2)) (IntKind.u64.wrap (n / 9223372036854775808)) = (zig n : Int) := by
  by_cases h : 0 ≤ n
  · have e1 : IntKind.u64.wrap (IntKind.u64.wrap n * 2) = (((2 * n).toNat : Nat) : Int) := by simp only [IntKind.wrap_u64]; omega
    have e2 : IntKind.u64.wrap (n / 9223372036854775808) = ((0 : Nat) : Int) := by simp only [IntKind.wrap_u64]; omega
    rw [e1, e2, bx64 _ _ (by omega) (by omega), Nat.xor_zero, zig, if_pos h]
  · have e1 : IntKind.u64.wrap (IntKind.u64.wrap n * 2) = (((2 * n + 18446744073709551616).toNat : Nat) : Int) := by simp only [IntKind.wrap_u64]; omega
    have e2 : IntKind.u64.wrap (n / 9223372036854775808) = ((18446744073709551615 : Nat) : Int) := by simp only [IntKind.wrap_u64]; omega
    rw [e1, e2, bx64 _ _ (by omega) (by omega), not64 _ (by omega), zig, if_neg h]
    omega
theorem and_one (m : Nat) (h : m < 18446744073709551616) : bits .and .u64 (m : Int) 1 = ((m % 2 : Nat) : Int) := by
  have e : m &&& 1 = m % 2 := Nat.and_one_is_mod m
  show IntKind.u64.wrap ((BitVec.ofInt 64 (m : Int) &&& BitVec.ofInt 64 ((1 : Nat) : Int)).toNat : Int) = _
  rw [BitVec.toNat_and, ofInt_nat 64 m (by omega), ofInt_nat 64 1 (by omega), e, IntKind.wrap_u64]
  omega
theorem unfold_bits (m : Nat) (h : m < 18446744073709551616) : bits .xor .i64 ((m : Int) / 2) (wrap64 (-wrap64 (bits .and .u64 (m : Int) 1))) = unzig m := by
  rw [and_one m h]
  have e0 : ((m : Int) / 2) = ((m / 2 : Nat) : Int) := by omega
  rw [e0, unzig]
  by_cases h2 : m % 2 = 0
  · rw [if_pos h2, h2, show wrap64 (-wrap64 ((0 : Nat) : Int)) = ((0 : Nat) : Int) by kernel_rfl]
    show IntKind.i64.wrap ((BitVec.ofInt 64 ((m / 2 : Nat) : Int) ^^^ BitVec.ofInt 64 ((0 : Nat) : Int)).toNat : Int) = _
    rw [BitVec.toNat_xor, ofInt_nat 64 (m / 2) (by omega), ofInt_nat 64 0 (by omega), Nat.xor_zero, IntKind.wrap_i64]
    omega
  · rw [if_neg h2, show m % 2 = 1 by omega, show wrap64 (-wrap64 ((1 : Nat) : Int)) = (-1 : Int) by kernel_rfl]
    show IntKind.i64.wrap ((BitVec.ofInt 64 ((m / 2 : Nat) : Int) ^^^ BitVec.ofInt 64 (-1 : Int)).toNat : Int) = _
    rw [BitVec.toNat_xor, ofInt_nat 64 (m / 2) (by omega), show (BitVec.ofInt 64 (-1)).toNat = 18446744073709551615 by decide, not64 _ (by omega), IntKind.wrap_i64]
    omega

theorem fold_ok (w : World) (n : Int) (h1 : -9223372036854775808 ≤ n) (h2 : n ≤ 9223372036854775807) : Calls Try.prog 24 #[.int .i64 n] w fun e w' => e = .returned (.int .u64 (zig n : Nat)) ∧ w = w' := by
  have H := Lib.hid (fold_bits n h1 h2)
  go_enter Try.func24, Try.ntmps24
  go_wp2
  go_ret
  refine ⟨?_, rfl⟩
  rw [← H.out]
  rfl
theorem unfold_ok (w : World) (m : Nat) (h1 : m < 18446744073709551616) : Calls Try.prog 22 #[.int .u64 (m : Int)] w fun e w' => e = .returned (.int .i64 (unzig m)) ∧ w = w' := by
  have H := Lib.hid (unfold_bits m h1)
  go_enter Try.func22, Try.ntmps22
  go_wp2
  go_ret
  refine ⟨?_, rfl⟩
  rw [← H.out]
  rfl
end Go.Proofs.Ytnjgcdijpkbloaa
