/-
  The contracts of coins.Add, coins.Less, coins.Between. No condition.
-/
import Derived.Test.YtaohgefpnndjcaaCoinP
import Derived.Test.YtaohgefpnndjcaaMem2
import Derived.Test.YtaohgefpnndjcaaRows
namespace Go.Proofs.Ytaohgefpnndjcaa
set_option linter.unusedVariables false
open Go.RowKit
/-- Two results: a sum, an error; the world is as it was. -/
def SumPost (x : Int × Nat) (w : World) (e : Ending) (w' : World) : Prop := e = .returned (.tuple #[.int .i64 x.1, .int .i64 (x.2 : Int)]) ∧ w = w'
theorem SumPost.yes {x : Int} {w : World} {e : Ending} {w' : World} (h : SumPost (x, 0) w e w') : e = .returned (.tuple #[.int .i64 x, .int .i64 0]) ∧ w = w' := h
theorem SumPost.no {w : World} {e : Ending} {w' : World} (h : SumPost (0, 2) w e w') : e = .returned (.tuple #[.int .i64 0, .int .i64 2]) ∧ w = w' := h
def I64 (a : Int) : Prop := -9223372036854775808 ≤ a ∧ a ≤ 9223372036854775807
set_option maxRecDepth 100000 in
theorem add_ok (w : World) (a b : Int) (ha : I64 a) (hb : I64 b) : Calls Try.prog 56 #[.int .i64 a, .int .i64 b] w (SumPost (sumR (a + b)) w) := by
  have H := add_over a b ha.1 ha.2 hb.1 hb.2
  by_cases h : inI (a + b) = true
  · rw [h] at H
    rw [sumR_yes h]
    have hw := Lib.hid (IntWalk.wrap64_in (a + b) (inI_yes.1 h))
    rw [Bool.not_true] at H
    replace h := Lib.hid h
    replace ha := Lib.hid ha
    replace hb := Lib.hid hb
    go_enter Try.func56, Try.ntmps56
    go_wp2
    go_ret2
    refine ⟨?_, rfl⟩
    show Ending.returned (.tuple #[.int .i64 (wrap64 (a + b)), .int .i64 0]) = _
    rw [hw.out]; rfl
  · have h : inI (a + b) = false := by simpa using h
    rw [h] at H
    rw [sumR_no h]
    rw [Bool.not_false] at H
    replace h := Lib.hid h
    replace ha := Lib.hid ha
    replace hb := Lib.hid hb
    go_enter Try.func56, Try.ntmps56
    go_wp2
    go_ret2
    exact ⟨rfl, rfl⟩
set_option maxRecDepth 100000 in
theorem less_ok (w : World) (a b : Int) (ha : I64 a) (hb : I64 b) : Calls Try.prog 49 #[.int .i64 a, .int .i64 b] w (SumPost (sumR (a - b)) w) := by
  have H := sub_over a b ha.1 ha.2 hb.1 hb.2
  by_cases h : inI (a - b) = true
  · rw [h] at H
    rw [sumR_yes h]
    have hw := Lib.hid (IntWalk.wrap64_in (a - b) (inI_yes.1 h))
    rw [Bool.not_true] at H
    replace h := Lib.hid h
    replace ha := Lib.hid ha
    replace hb := Lib.hid hb
    go_enter Try.func49, Try.ntmps49
    go_wp2
    go_ret2
    refine ⟨?_, rfl⟩
    show Ending.returned (.tuple #[.int .i64 (wrap64 (a - b)), .int .i64 0]) = _
    rw [hw.out]; rfl
  · have h : inI (a - b) = false := by simpa using h
    rw [h] at H
    rw [sumR_no h]
    rw [Bool.not_false] at H
    replace h := Lib.hid h
    replace ha := Lib.hid ha
    replace hb := Lib.hid hb
    go_enter Try.func49, Try.ntmps49
    go_wp2
    go_ret2
    exact ⟨rfl, rfl⟩
/-- The nearest. -/
def btw (a lo hi : Int) : Int := max lo (min a hi)
end Go.Proofs.Ytaohgefpnndjcaa
