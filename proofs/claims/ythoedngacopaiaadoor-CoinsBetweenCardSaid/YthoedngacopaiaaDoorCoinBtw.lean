/-
  CoinsBetween, CoinsTimes: the walks. The table of powers of ten reads as the program's text lays it, and the variable of the library's search in place 0 is a number.
-/
import Derived.Test.YthoedngacopaiaaDoorCoinLives
namespace Go.Proofs.YthoedngacopaiaaDoor
set_option linter.unusedVariables false
open Go.RowKit
set_option maxRecDepth 100000 in
set_option maxHeartbeats 2000000 in
theorem coinsBetween_walk (w : World) (a lo hi : Int) (hG : Gw w) : Calls Tryd.prog 5 #[.int .i64 a, .int .i64 lo, .int .i64 hi] w fun e w' => e = .returned (.bool true) ∧ Below w.heap.size w w' := by
  have hl := Lib.hid (lives_ok w hG)
  by_cases h1 : hi < lo
  · have hb := Lib.hid (fun W => between_ok W a lo hi)
    rw [show btw a lo hi = lo by unfold btw; omega] at hb
    go_enter Tryd.func5, Tryd.ntmps5
    go_wp2_with fail
    refine hl.out.mono ?_
    rintro e w1 ⟨rfl, hm1⟩
    dsimp only
    replace hm1 := Lib.hid hm1
    go_wp2_with fail
    refine (hb.out w1).mono ?_
    rintro e w2 ⟨rfl, rfl⟩
    dsimp only
    go_wp2_with fail
    go_ret
    exact ⟨rfl, hm1.out.below0⟩
  · by_cases h2 : a < lo
    · have hb := Lib.hid (fun W => between_ok W a lo hi)
      rw [show btw a lo hi = lo by unfold btw; omega] at hb
      go_enter Tryd.func5, Tryd.ntmps5
      go_wp2_with fail
      refine hl.out.mono ?_
      rintro e w1 ⟨rfl, hm1⟩
      dsimp only
      replace hm1 := Lib.hid hm1
      go_wp2_with fail
      refine (hb.out w1).mono ?_
      rintro e w2 ⟨rfl, rfl⟩
      dsimp only
      go_wp2_with fail
      all_goals
        go_ret
        exact ⟨rfl, hm1.out.below0⟩
    · by_cases h3 : hi < a
      · have hb := Lib.hid (fun W => between_ok W a lo hi)
        rw [show btw a lo hi = hi by unfold btw; omega] at hb
        go_enter Tryd.func5, Tryd.ntmps5
        go_wp2_with fail
        refine hl.out.mono ?_
        rintro e w1 ⟨rfl, hm1⟩
        dsimp only
        replace hm1 := Lib.hid hm1
        go_wp2_with fail
        refine (hb.out w1).mono ?_
        rintro e w2 ⟨rfl, rfl⟩
        dsimp only
        go_wp2_with fail
        all_goals
          go_ret
          exact ⟨rfl, hm1.out.below0⟩
      · have hb := Lib.hid (fun W => between_ok W a lo hi)
        rw [show btw a lo hi = a by unfold btw; omega] at hb
        go_enter Tryd.func5, Tryd.ntmps5
        go_wp2_with fail
        refine hl.out.mono ?_
        rintro e w1 ⟨rfl, hm1⟩
        dsimp only
        replace hm1 := Lib.hid hm1
        go_wp2_with fail
        refine (hb.out w1).mono ?_
        rintro e w2 ⟨rfl, rfl⟩
        dsimp only
        go_wp2_with fail
        all_goals
          go_ret
          exact ⟨rfl, hm1.out.below0⟩
end Go.Proofs.YthoedngacopaiaaDoor
