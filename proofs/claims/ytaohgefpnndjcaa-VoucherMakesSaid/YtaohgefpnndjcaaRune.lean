/-
  A range over a text: what its runes are, byte by byte. Plain.
-/
import Derived.Test.YtaohgefpnndjcaaOrdP
import Derived.Lib.DecodeN
import Derived.Lib.QuoteLoop
import Derived.Lib.OthersKept
namespace Go.Proofs.Ytaohgefpnndjcaa
set_option linter.unusedVariables false
open Go.RowKit
set_option maxRecDepth 100000 in
theorem dec_wide (s : ByteArray) (i : Nat) (h : 128 ≤ (s.get! i).toNat) : 128 ≤ (Utf8.decode s i).1 ∧ ((Utf8.decode s i).1 < 55296 ∨ 57343 < (Utf8.decode s i).1 ∧ (Utf8.decode s i).1 ≤ 1114111) := by
  refine ⟨?_, ?_⟩
  · rw [Lib.decode_at]
    generalize (s.get! i).toNat = b0 at h
    generalize (s.get! (i + 1)).toNat = b1
    generalize (s.get! (i + 2)).toNat = b2
    generalize (s.get! (i + 3)).toNat = b3
    unfold Lib.decodeN
    repeat' split
    all_goals (simp only; omega)
  · rw [Lib.decode_at]
    exact Lib.decodeN_valid _ _ _ _ _ (UInt8.toNat_lt _)
end Go.Proofs.Ytaohgefpnndjcaa
