/-
  The reference's comparison of lists of numbers. No condition.
-/
import Derived.Test.YtaohgefpnndjcaaApp
import Derived.Deep.QuietTactic
import Derived.BigQuiet
namespace Go.Proofs.Ytaohgefpnndjcaa
set_option linter.unusedVariables false
open Go.RowKit
theorem rdi_get {w : World} {A : Option Addr} {n : Nat} {xs : List Int} (h : RdI w A n xs) {j : Nat} (hj : j < n) : ∃ b o, A = some ⟨b, o, none⟩ ∧ ∃ hl : j < xs.length, w.cell? ⟨b, o + j, none⟩ = some (.int .i64 xs[j]) := by
  obtain ⟨b, o, e, hc⟩ := Rd.form h (by omega) (by omega)
  have hl : j < xs.length := by rw [h.len]; exact hj
  exact ⟨b, o, e, hl, hc j _ (ivs_get hl)⟩
end Go.Proofs.Ytaohgefpnndjcaa
