/-
  The order of texts, byte by byte: whole, and lists that rise by it. Plain.
-/
import Derived.Test.YtaohgefpnndjcaaMapS
namespace Go.Proofs.Ytaohgefpnndjcaa
set_option linter.unusedVariables false
open Go.RowKit
theorem bb_irrefl : ∀ a : List UInt8, bytesBefore a a = false
  | [] => rfl
  | a :: r => by simp [bytesBefore, bb_irrefl r]
theorem bb_cons (a b : UInt8) (r s : List UInt8) : bytesBefore (a :: r) (b :: s) = true ↔ a < b ∨ (a = b ∧ bytesBefore r s = true) := by simp [bytesBefore]
theorem bb_trans : ∀ a b c : List UInt8, bytesBefore a b = true → bytesBefore b c = true → bytesBefore a c = true
  | [], [], _, h, _ => by simp [bytesBefore] at h
  | [], _ :: _, [], _, h => by simp [bytesBefore] at h
  | [], _ :: _, _ :: _, _, _ => rfl
  | _ :: _, [], _, h, _ => by simp [bytesBefore] at h
  | _ :: _, _ :: _, [], _, h => by simp [bytesBefore] at h
  | x :: a, y :: b, z :: c, h, g => by
    rw [bb_cons] at h g ⊢
    rcases h with h | ⟨rfl, h⟩
    · rcases g with g | ⟨rfl, g⟩
      · exact .inl (UInt8.lt_trans h g)
      · exact .inl h
    · rcases g with g | ⟨rfl, g⟩
      · exact .inl g
      · exact .inr ⟨rfl, bb_trans a b c h g⟩
theorem bb_total : ∀ a b : List UInt8, bytesBefore a b = true ∨ a = b ∨ bytesBefore b a = true
  | [], [] => .inr (.inl rfl)
  | [], _ :: _ => .inl rfl
  | _ :: _, [] => .inr (.inr rfl)
  | x :: a, y :: b => by
    rw [bb_cons, bb_cons]
    have tri : x < y ∨ x = y ∨ y < x := by
      rcases Nat.lt_trichotomy x.toNat y.toNat with h | h | h
      · exact .inl (UInt8.lt_iff_toNat_lt.2 h)
      · exact .inr (.inl (UInt8.toNat_inj.1 h))
      · exact .inr (.inr (UInt8.lt_iff_toNat_lt.2 h))
    rcases tri with h | rfl | h
    · exact .inl (.inl h)
    · rcases bb_total a b with h | rfl | h
      · exact .inl (.inr ⟨rfl, h⟩)
      · exact .inr (.inl rfl)
      · exact .inr (.inr (.inr ⟨rfl, h⟩))
    · exact .inr (.inr (.inl h))
theorem bb_asymm {a b : List UInt8} (h : bytesBefore a b = true) : bytesBefore b a = false := by
  cases hb : bytesBefore b a with
  | false => rfl
  | true => have := bb_trans a b a h hb; rw [bb_irrefl] at this; cases this
theorem bb_ne {a b : List UInt8} (h : bytesBefore a b = true) : a ≠ b := by rintro rfl; rw [bb_irrefl] at h; cases h
end Go.Proofs.Ytaohgefpnndjcaa
