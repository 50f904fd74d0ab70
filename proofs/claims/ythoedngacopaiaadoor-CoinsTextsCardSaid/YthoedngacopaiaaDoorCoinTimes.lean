/-
  The contracts of coins.size, coins.Times, coins.Total. No condition.
-/
import Derived.Test.YthoedngacopaiaaDoorCoinAdd
import Derived.Test.YthoedngacopaiaaDoorApp
import Derived.Shelf.Bits.Mul64
import Derived.Test.YthoedngacopaiaaDoorShelf
namespace Go.Proofs.YthoedngacopaiaaDoor
set_option linter.unusedVariables false
open Go.RowKit
theorem ret2i {x x' y y' : Int} (h1 : x = x') (h2 : y = y') : Ending.returned (.tuple #[.int .i64 x, .int .i64 y]) = .returned (.tuple #[.int .i64 x', .int .i64 y']) := by rw [h1, h2]
theorem add64_run (x y : Nat) (w : World) : (callFunc 34 #[.int .u64 (x : Int), .int .u64 (y : Int), .int .u64 0]).run Tryd.prog w =
    .ok (.value (.tuple #[.int .u64 (((x + y) % 18446744073709551616 : Nat) : Int), .int .u64 (((x + y) / 18446744073709551616 : Nat) : Int)])) w := by
  rw [run_callFunc_extern Tryd.func34 (by kernel_rfl) (by kernel_rfl) (by kernel_rfl) (e := add64Entry) (by kernel_rfl), run_add64 x y 0 (by omega) (by omega) (by omega) (by omega)]
  simp only [Result.andThen]
  congr 5 <;> omega
theorem size_val (a : Int) (ha : I64 a) : (a < 0 → IntKind.u64.wrap (-(IntKind.u64.wrap a)) = (mag a : Int)) ∧ (¬ a < 0 → IntKind.u64.wrap a = (mag a : Int)) := by
  obtain ⟨h1, h2⟩ := ha
  simp only [IntKind.wrap_u64]
  unfold mag
  constructor <;> intro h <;> omega
set_option maxRecDepth 100000 in
theorem size_ok (w : World) (a : Int) (ha : I64 a) : Calls Tryd.prog 32 #[.int .i64 a] w fun e w' => e = .returned (.int .u64 (mag a : Int)) ∧ w = w' := by
  obtain ⟨s1, s2⟩ := size_val a ha
  by_cases h : a < 0
  · have s := Lib.hid (s1 h)
    clear s1 s2
    replace ha := Lib.hid ha
    go_enter Tryd.func32, Tryd.ntmps32
    go_wp2
    go_ret
    exact ⟨by rw [← s.out]; rfl, rfl⟩
  · have s := Lib.hid (s2 h)
    clear s1 s2
    replace ha := Lib.hid ha
    go_enter Tryd.func32, Tryd.ntmps32
    go_wp2
    go_ret
    exact ⟨by rw [← s.out]; rfl, rfl⟩
theorem mag_mul (a b : Int) : (a < 0 → b < 0 → a * b = ((mag a * mag b : Nat) : Int)) ∧ (a < 0 → ¬ b < 0 → a * b = -((mag a * mag b : Nat) : Int)) ∧ (¬ a < 0 → b < 0 → a * b = -((mag a * mag b : Nat) : Int)) ∧ (¬ a < 0 → ¬ b < 0 → a * b = ((mag a * mag b : Nat) : Int)) := by
  unfold mag
  rw [Int.natCast_mul]
  refine ⟨fun h1 h2 => ?_, fun h1 h2 => ?_, fun h1 h2 => ?_, fun h1 h2 => ?_⟩
  · rw [show (a.natAbs : Int) = -a by omega, show (b.natAbs : Int) = -b by omega, Int.neg_mul_neg]
  · rw [show (a.natAbs : Int) = -a by omega, show (b.natAbs : Int) = b by omega, Int.neg_mul, Int.neg_neg]
  · rw [show (a.natAbs : Int) = a by omega, show (b.natAbs : Int) = -b by omega, Int.mul_neg, Int.neg_neg]
  · rw [show (a.natAbs : Int) = a by omega, show (b.natAbs : Int) = b by omega]
set_option maxRecDepth 100000 in
theorem times_neg {P : Int} {n : Nat} (h : P = -(n : Int)) (hn : n ≤ 9223372036854775808) : sumR P = (-(n : Int), 0) := by
  rw [sumR_yes (inI_yes.2 (by omega)), h]
set_option maxRecDepth 100000 in
theorem times_pos {P : Int} {n : Nat} (h : P = (n : Int)) (hn : n < 9223372036854775808) : sumR P = ((n : Int), 0) := by
  rw [sumR_yes (inI_yes.2 (by omega)), h]
theorem times_no {P : Int} (h : ¬ (-9223372036854775808 ≤ P ∧ P ≤ 9223372036854775807)) : sumR P = (0, 2) := by
  refine sumR_no ?_
  cases hh : inI P with
  | false => rfl
  | true => exact absurd (inI_yes.1 hh) h
theorem mul64_ok (w : World) (x y hi lo : Nat) (hx : x ≤ 9223372036854775808) (hy : y ≤ 9223372036854775808) (h : x * y = hi * 18446744073709551616 + lo) (hlo : lo < 18446744073709551616) :
    Calls Tryd.prog 38 #[.int .u64 (x : Int), .int .u64 (y : Int)] w fun e w' => e = .returned (.tuple #[.int .u64 (hi : Int), .int .u64 (lo : Int)]) ∧ w = w' := by
  refine (Tryd.bits_Mul64 x y (by omega) (by omega) w).mono ?_
  rintro e w' ⟨rfl, rfl⟩
  have e1 : x * y / 18446744073709551616 = hi := by rw [h]; omega
  have e2 : x * y % 18446744073709551616 = lo := by rw [h]; omega
  rw [e1, e2]
  exact ⟨rfl, rfl⟩
set_option maxRecDepth 100000 in
set_option maxHeartbeats 1000000 in
theorem times_core (w : World) (a b : Int) (ha : I64 a) (hb : I64 b) (P : Int) (hi lo : Nat) (h : mag a * mag b = hi * 18446744073709551616 + lo) (hlo : lo < 18446744073709551616)
    (hP : ((decide (a < 0) != decide (b < 0)) = true → P = -((hi * 18446744073709551616 + lo : Nat) : Int)) ∧ ((decide (a < 0) != decide (b < 0)) = false → P = ((hi * 18446744073709551616 + lo : Nat) : Int))) :
    Calls Tryd.prog 24 #[.int .i64 a, .int .i64 b] w (SumPost (sumR P) w) := by
  have hs1 := Lib.hid (size_ok w a ha)
  have hs2 := Lib.hid (size_ok w b hb)
  have hm := Lib.hid (mul64_ok w (mag a) (mag b) hi lo (mag_le ha.1 ha.2) (mag_le hb.1 hb.2) h hlo)
  obtain ⟨hP1, hP2⟩ := hP
  obtain ⟨d, hd⟩ : ∃ d, d = (decide (a < 0) != decide (b < 0)) := ⟨_, rfl⟩
  rw [← hd] at hP1 hP2
  have hd' := hd.symm
  have hd2 : (decide (a < 0) == decide (b < 0)) = !d := by rw [hd]; cases decide (a < 0) <;> cases decide (b < 0) <;> rfl
  clear hd h ha hb
  cases d
  · rw [Bool.not_false] at hd2
    have hP := hP2 rfl
    clear hP1 hP2
    by_cases c1 : 0 < hi
    · have r := Lib.hid (times_no (P := P) (by omega))
      have c2 : ¬ hi = 0 := by omega
      replace hP := Lib.hid hP
      replace c1 := Lib.hid c1
      replace hlo := Lib.hid hlo
      go_enter Tryd.func24, Tryd.ntmps24
      go_wp2_with fail
      refine hs1.out.mono ?_
      rintro e w1 ⟨rfl, rfl⟩
      dsimp only
      go_wp2_with fail
      refine hs2.out.mono ?_
      rintro e w1 ⟨rfl, rfl⟩
      dsimp only
      go_wp2_with fail
      refine hm.out.mono ?_
      rintro e w1 ⟨rfl, rfl⟩
      dsimp only
      go_wp2_with fail
      go_ret2
      exact ⟨by rw [r.out]; exact ret2i (by first | rfl | (unfold wrap64; omega)) rfl, rfl⟩
    · obtain rfl : hi = 0 := by omega
      clear c1
      by_cases c2 : (9223372036854775808 : Int) < (lo : Int)
      · have r := Lib.hid (times_no (P := P) (by omega))
        replace hP := Lib.hid hP
        replace hlo := Lib.hid hlo
        go_enter Tryd.func24, Tryd.ntmps24
        go_wp2_with fail
        refine hs1.out.mono ?_
        rintro e w1 ⟨rfl, rfl⟩
        dsimp only
        go_wp2_with fail
        refine hs2.out.mono ?_
        rintro e w1 ⟨rfl, rfl⟩
        dsimp only
        go_wp2_with fail
        refine hm.out.mono ?_
        rintro e w1 ⟨rfl, rfl⟩
        dsimp only
        go_wp2_with fail
        go_ret2
        exact ⟨by rw [r.out]; exact ret2i (by first | rfl | (unfold wrap64; omega)) rfl, rfl⟩
      · by_cases c4 : lo = 9223372036854775808
        · have r := Lib.hid (times_no (P := P) (by omega))
          subst c4
          replace hP := Lib.hid hP
          replace hlo := Lib.hid hlo
          go_enter Tryd.func24, Tryd.ntmps24
          go_wp2_with fail
          refine hs1.out.mono ?_
          rintro e w1 ⟨rfl, rfl⟩
          dsimp only
          go_wp2_with fail
          refine hs2.out.mono ?_
          rintro e w1 ⟨rfl, rfl⟩
          dsimp only
          go_wp2_with fail
          refine hm.out.mono ?_
          rintro e w1 ⟨rfl, rfl⟩
          dsimp only
          go_wp2_with fail
          go_ret2
          exact ⟨by rw [r.out]; exact ret2i (by first | rfl | (unfold wrap64; omega)) rfl, rfl⟩
        · have r := Lib.hid (times_pos (P := P) (n := lo) (by omega) (by omega))
          have c5 : ((lo : Int) == 9223372036854775808) = false := by simp; omega
          replace hP := Lib.hid hP
          replace hlo := Lib.hid hlo
          go_enter Tryd.func24, Tryd.ntmps24
          go_wp2_with fail
          refine hs1.out.mono ?_
          rintro e w1 ⟨rfl, rfl⟩
          dsimp only
          go_wp2_with fail
          refine hs2.out.mono ?_
          rintro e w1 ⟨rfl, rfl⟩
          dsimp only
          go_wp2_with fail
          refine hm.out.mono ?_
          rintro e w1 ⟨rfl, rfl⟩
          dsimp only
          go_wp2_with fail
          go_ret2
          exact ⟨by rw [r.out]; exact ret2i (by first | rfl | (unfold wrap64; omega)) rfl, rfl⟩
  · rw [Bool.not_true] at hd2
    have hP := hP1 rfl
    clear hP1 hP2
    by_cases c1 : 0 < hi
    · have r := Lib.hid (times_no (P := P) (by omega))
      have c2 : ¬ hi = 0 := by omega
      replace hP := Lib.hid hP
      replace c1 := Lib.hid c1
      replace hlo := Lib.hid hlo
      go_enter Tryd.func24, Tryd.ntmps24
      go_wp2_with fail
      refine hs1.out.mono ?_
      rintro e w1 ⟨rfl, rfl⟩
      dsimp only
      go_wp2_with fail
      refine hs2.out.mono ?_
      rintro e w1 ⟨rfl, rfl⟩
      dsimp only
      go_wp2_with fail
      refine hm.out.mono ?_
      rintro e w1 ⟨rfl, rfl⟩
      dsimp only
      go_wp2_with fail
      go_ret2
      exact ⟨by rw [r.out]; exact ret2i (by first | rfl | (unfold wrap64; omega)) rfl, rfl⟩
    · obtain rfl : hi = 0 := by omega
      clear c1
      by_cases c2 : (9223372036854775808 : Int) < (lo : Int)
      · have r := Lib.hid (times_no (P := P) (by omega))
        replace hP := Lib.hid hP
        replace hlo := Lib.hid hlo
        go_enter Tryd.func24, Tryd.ntmps24
        go_wp2_with fail
        refine hs1.out.mono ?_
        rintro e w1 ⟨rfl, rfl⟩
        dsimp only
        go_wp2_with fail
        refine hs2.out.mono ?_
        rintro e w1 ⟨rfl, rfl⟩
        dsimp only
        go_wp2_with fail
        refine hm.out.mono ?_
        rintro e w1 ⟨rfl, rfl⟩
        dsimp only
        go_wp2_with fail
        go_ret2
        exact ⟨by rw [r.out]; exact ret2i (by first | rfl | (unfold wrap64; omega)) rfl, rfl⟩
      · have r := Lib.hid (times_neg (P := P) (n := lo) (by omega) (by omega))
        by_cases c4 : lo = 9223372036854775808
        · subst c4
          replace hP := Lib.hid hP
          replace hlo := Lib.hid hlo
          go_enter Tryd.func24, Tryd.ntmps24
          go_wp2_with fail
          refine hs1.out.mono ?_
          rintro e w1 ⟨rfl, rfl⟩
          dsimp only
          go_wp2_with fail
          refine hs2.out.mono ?_
          rintro e w1 ⟨rfl, rfl⟩
          dsimp only
          go_wp2_with fail
          refine hm.out.mono ?_
          rintro e w1 ⟨rfl, rfl⟩
          dsimp only
          go_wp2_with fail
          go_ret2
          exact ⟨by rw [r.out]; exact ret2i (by first | rfl | (unfold wrap64; omega)) rfl, rfl⟩
        · have c5 : ((lo : Int) == 9223372036854775808) = false := by simp; omega
          replace hP := Lib.hid hP
          replace hlo := Lib.hid hlo
          go_enter Tryd.func24, Tryd.ntmps24
          go_wp2_with fail
          refine hs1.out.mono ?_
          rintro e w1 ⟨rfl, rfl⟩
          dsimp only
          go_wp2_with fail
          refine hs2.out.mono ?_
          rintro e w1 ⟨rfl, rfl⟩
          dsimp only
          go_wp2_with fail
          refine hm.out.mono ?_
          rintro e w1 ⟨rfl, rfl⟩
          dsimp only
          go_wp2_with fail
          go_ret2
          exact ⟨by rw [r.out]; exact ret2i (by first | rfl | (unfold wrap64; omega)) rfl, rfl⟩
theorem times_ok (w : World) (a b : Int) (ha : I64 a) (hb : I64 b) : Calls Tryd.prog 24 #[.int .i64 a, .int .i64 b] w (SumPost (sumR (a * b)) w) := by
  obtain ⟨m1, m2, m3, m4⟩ := mag_mul a b
  have hq : mag a * mag b = (mag a * mag b) / 18446744073709551616 * 18446744073709551616 + (mag a * mag b) % 18446744073709551616 := by omega
  refine times_core w a b ha hb (a * b) _ _ hq (Nat.mod_lt _ (by omega)) ?_
  rw [← hq]
  by_cases h1 : a < 0 <;> by_cases h2 : b < 0 <;> simp [h1, h2]
  · exact m1 h1 h2
  · exact m2 h1 h2
  · exact m3 h1 h2
  · exact m4 h1 h2
end Go.Proofs.YthoedngacopaiaaDoor
