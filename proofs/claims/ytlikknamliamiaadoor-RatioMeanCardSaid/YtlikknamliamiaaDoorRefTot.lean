/-
  The reference of chapter 1: Total. No condition.
-/
import Derived.Test.YtlikknamliamiaaDoorRefCoin
namespace Go.Proofs.YtlikknamliamiaaDoor
set_option linter.unusedVariables false
open Go.RowKit
theorem isum_bd : ∀ (l : List Int), I64s l → -(9223372036854775808 * (l.length : Int)) ≤ isum l ∧ isum l ≤ 9223372036854775808 * (l.length : Int) := by
  intro l
  induction l with
  | nil => intro _; simp [isum_nil]
  | cons x l ih =>
    intro h
    have h1 := h x (by simp)
    have h2 := ih (fun y hy => h y (by simp [hy]))
    rw [isum_cons]
    unfold I64 at h1
    simp only [List.length_cons, Int.natCast_add, Int.natCast_one]
    omega
end Go.Proofs.YtlikknamliamiaaDoor
