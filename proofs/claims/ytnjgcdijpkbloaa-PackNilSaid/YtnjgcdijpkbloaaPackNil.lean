/-
  PackNil: the walk. No condition.
-/
import Derived.Test.YtnjgcdijpkbloaaPackLives
namespace Go.Proofs.Ytnjgcdijpkbloaa
set_option linter.unusedVariables false
open Go.RowKit
set_option maxRecDepth 100000 in
set_option maxHeartbeats 1000000 in
theorem packNil_walk (w : World) (n most : Int) : Calls Try.prog 3 #[.int .i64 n, .int .i64 most] w fun e w' => e = .returned (.bool true) ∧ Below w.heap.size w w' := by
  go_enter Try.func3, Try.ntmps3
  go_wp2_with fail
  refine (lives_ok _).mono ?_
  rintro e w1 ⟨rfl, hm1⟩
  dsimp only
  replace hm1 := Lib.hid hm1
  go_wp2_with (first
    | (go_at_call 7; refine (rnum_nil _).mono ?_; rintro e w' ⟨rfl, rfl⟩; dsimp only)
    | (go_at_call 8; refine (range_nil _ _ _).mono ?_; rintro e w' ⟨rfl, rfl⟩; dsimp only)
    | (go_at_call 9; refine (rtext_nil _ _).mono ?_; rintro e w' ⟨rfl, rfl⟩; dsimp only)
    | (go_at_call 10; refine (rnums_nil _ _).mono ?_; rintro e w' ⟨rfl, rfl⟩; dsimp only)
    | (go_at_call 11; refine (left_nil _).mono ?_; rintro e w' ⟨rfl, rfl⟩; dsimp only)
    | (go_at_call 12; refine (done_nil _).mono ?_; rintro e w' ⟨rfl, rfl⟩; dsimp only))
  go_ret
  exact ⟨rfl, hm1.out.below0⟩
end Go.Proofs.Ytnjgcdijpkbloaa
