import Derived.Test.YtimlfdihodoolaaGreatZp4
import Derived.Deep.QuietTactic
import Derived.BigQuiet
/-
  The reference's comparison of bytes. No condition.
-/
namespace Go.Proofs.YtimlfdihodoolaaGreat
set_option linter.unusedVariables false
set_option linter.unusedSimpArgs false
open Go.RowKit
theorem conv_bytes (A : Option Addr) (n c : Nat) (l : List UInt8) (w : World) (h : RdB w A n l) : ∀ k, (convert 22 9 (.slice A n c)).run Tryz.prog (w.drewN k) = .ok (.string (txt l)) (w.drewN k) :=
  fun k => run_string_of_bytes (w.drewN k) _ _ 5 Tryz.underlying22 Tryz.underlying5 Tryz.underlying9 A n c l h
theorem conv_bytes0 (A : Option Addr) (n c : Nat) (l : List UInt8) (w : World) (h : RdB w A n l) : (convert 22 9 (.slice A n c)).run Tryz.prog w = .ok (.string (txt l)) w :=
  conv_bytes A n c l w h 0
theorem txt_inj (a b : List UInt8) : txt a = txt b ↔ a = b := by
  constructor
  · intro h
    have := congrArg ByteArray.toList h
    simpa using this
  · rintro rfl; rfl
end Go.Proofs.YtimlfdihodoolaaGreat
