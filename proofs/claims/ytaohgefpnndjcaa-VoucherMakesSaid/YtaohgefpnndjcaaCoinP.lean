/-
  Coins, the plain side: signs of bit operations; sums that are in range. No condition.
-/
import Derived.Test.YtaohgefpnndjcaaBits
namespace Go.Proofs.Ytaohgefpnndjcaa
set_option linter.unusedVariables false
open Go.RowKit
def inI (x : Int) : Bool := decide (-9223372036854775808 ≤ x) && decide (x ≤ 9223372036854775807)
theorem inI_yes {x : Int} : inI x = true ↔ -9223372036854775808 ≤ x ∧ x ≤ 9223372036854775807 := by simp [inI]
/-- A sum, or that it is none. -/
def sumR (x : Int) : Int × Nat := if inI x then (x, 0) else (0, 2)
theorem sumR_yes {x : Int} (h : inI x = true) : sumR x = (x, 0) := by simp [sumR, h]
theorem sumR_no {x : Int} (h : inI x = false) : sumR x = (0, 2) := by simp [sumR, h]
theorem wrap_toInt (x : BitVec 64) : IntKind.i64.wrap (x.toNat : Int) = x.toInt := by
  rw [IntKind.wrap_i64, BitVec.toInt_eq_toNat_cond]
  have := x.isLt
  split <;> omega
theorem msb_of (a : Int) (h1 : -9223372036854775808 ≤ a) (h2 : a ≤ 9223372036854775807) : (BitVec.ofInt 64 a).msb = decide (a < 0) := by
  have e : (BitVec.ofInt 64 a).toInt = a := by rw [BitVec.toInt_ofInt]; exact Int.bmod_eq_of_le (by omega) (by omega)
  rw [BitVec.msb_eq_toInt, e]
theorem toInt_neg (x : BitVec 64) : decide (x.toInt < 0) = x.msb := (BitVec.msb_eq_toInt).symm
theorem toInt_in (x : BitVec 64) : -9223372036854775808 ≤ x.toInt ∧ x.toInt ≤ 9223372036854775807 := by
  have h1 := BitVec.le_toInt x
  have h2 := BitVec.toInt_lt (x := x)
  simp at h1 h2
  omega
theorem xor_sign (a b : Int) (ha1 : -9223372036854775808 ≤ a) (ha2 : a ≤ 9223372036854775807) (hb1 : -9223372036854775808 ≤ b) (hb2 : b ≤ 9223372036854775807) :
    (-9223372036854775808 ≤ bits .xor .i64 a b ∧ bits .xor .i64 a b ≤ 9223372036854775807) ∧ decide (bits .xor .i64 a b < 0) = (decide (a < 0) ^^ decide (b < 0)) := by
  have e : bits .xor .i64 a b = (BitVec.ofInt 64 a ^^^ BitVec.ofInt 64 b).toInt := wrap_toInt _
  rw [e]
  refine ⟨toInt_in _, ?_⟩
  rw [toInt_neg, BitVec.msb_xor, msb_of a ha1 ha2, msb_of b hb1 hb2]
theorem and_sign (a b : Int) (ha1 : -9223372036854775808 ≤ a) (ha2 : a ≤ 9223372036854775807) (hb1 : -9223372036854775808 ≤ b) (hb2 : b ≤ 9223372036854775807) :
    decide (bits .and .i64 a b < 0) = (decide (a < 0) && decide (b < 0)) := by
  have e : bits .and .i64 a b = (BitVec.ofInt 64 a &&& BitVec.ofInt 64 b).toInt := wrap_toInt _
  rw [e, toInt_neg, BitVec.msb_and, msb_of a ha1 ha2, msb_of b hb1 hb2]
/-- 'c := a + b; (a^c)&(b^c) < 0' says that a + b runs over. -/
theorem add_over (a b : Int) (ha1 : -9223372036854775808 ≤ a) (ha2 : a ≤ 9223372036854775807) (hb1 : -9223372036854775808 ≤ b) (hb2 : b ≤ 9223372036854775807) :
    decide (bits .and .i64 (bits .xor .i64 a (wrap64 (a + b))) (bits .xor .i64 b (wrap64 (a + b))) < 0) = !(inI (a + b)) := by
  have hw : wrap64 (a + b) = IntKind.i64.wrap (a + b) := by rw [IntKind.wrap_i64]; unfold wrap64; rfl
  have hc : -9223372036854775808 ≤ wrap64 (a + b) ∧ wrap64 (a + b) ≤ 9223372036854775807 := by rw [hw, IntKind.wrap_i64]; omega
  obtain ⟨⟨x1, x2⟩, x3⟩ := xor_sign a _ ha1 ha2 hc.1 hc.2
  obtain ⟨⟨y1, y2⟩, y3⟩ := xor_sign b _ hb1 hb2 hc.1 hc.2
  rw [and_sign _ _ x1 x2 y1 y2, x3, y3, Bool.eq_iff_iff]
  rw [hw, IntKind.wrap_i64]
  simp only [Bool.and_eq_true, bne_iff_ne, ne_eq, Bool.not_eq_true', inI, Bool.and_eq_false_iff, decide_eq_false_iff_not, decide_eq_decide]
  omega
theorem sub_over (a b : Int) (ha1 : -9223372036854775808 ≤ a) (ha2 : a ≤ 9223372036854775807) (hb1 : -9223372036854775808 ≤ b) (hb2 : b ≤ 9223372036854775807) :
    decide (bits .and .i64 (bits .xor .i64 a b) (bits .xor .i64 a (wrap64 (a - b))) < 0) = !(inI (a - b)) := by
  have hw : wrap64 (a - b) = IntKind.i64.wrap (a - b) := by rw [IntKind.wrap_i64]; unfold wrap64; rfl
  have hc : -9223372036854775808 ≤ wrap64 (a - b) ∧ wrap64 (a - b) ≤ 9223372036854775807 := by rw [hw, IntKind.wrap_i64]; omega
  obtain ⟨⟨x1, x2⟩, x3⟩ := xor_sign a _ ha1 ha2 hc.1 hc.2
  obtain ⟨⟨y1, y2⟩, y3⟩ := xor_sign a b ha1 ha2 hb1 hb2
  rw [and_sign _ _ y1 y2 x1 x2, x3, y3, Bool.eq_iff_iff]
  rw [hw, IntKind.wrap_i64]
  simp only [Bool.and_eq_true, bne_iff_ne, ne_eq, Bool.not_eq_true', inI, Bool.and_eq_false_iff, decide_eq_false_iff_not, decide_eq_decide]
  omega
/-- A sum without its sign. -/
def mag (a : Int) : Nat := a.natAbs
theorem mag_le {a : Int} (ha1 : -9223372036854775808 ≤ a) (ha2 : a ≤ 9223372036854775807) : mag a ≤ 9223372036854775808 := by unfold mag; omega
end Go.Proofs.Ytaohgefpnndjcaa
