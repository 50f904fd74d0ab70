/-
  The reference of chapter 1: Add, Less, Total, Share, Between. No condition.
-/
import Derived.Test.YtaohgefpnndjcaaRefWide
import Derived.Test.YtaohgefpnndjcaaCoinShare
import Derived.Test.YtaohgefpnndjcaaSameI
namespace Go.Proofs.Ytaohgefpnndjcaa
set_option linter.unusedVariables false
open Go.RowKit
def SPost (x : Int) (w : World) (e : Ending) (w' : World) : Prop := e = .returned (.tuple #[.int .i64 (sumR x).1, .int .i64 ((sumR x).2 : Int)]) ∧ Mod none_ w w'
set_option maxRecDepth 100000 in
theorem radd_ok (w : World) (a b : Int) (ha : I64 a) (hb : I64 b) : Calls Try.prog 40 #[.int .i64 a, .int .i64 b] w (SPost (a + b) w) := by
  have a1 := ha.1; have a2 := ha.2; have b1 := hb.1; have b2 := hb.2
  have hp := fun W => plus_ok W a b (by omega) (by omega)
  have hs := fun W => sum_ok W (a + b) (by omega) (by omega)
  clear a1 a2 b1 b2
  replace ha := Lib.hid ha
  replace hb := Lib.hid hb
  replace hp := Lib.hid hp
  replace hs := Lib.hid hs
  go_enter Try.func40, Try.ntmps40
  go_wp2_with fail
  refine (of_ok _ a ha.out).mono ?_
  rintro e w1 ⟨rfl, hm1⟩
  dsimp only
  replace hm1 := Lib.hid hm1
  go_wp2_with fail
  refine (of_ok _ b hb.out).mono ?_
  rintro e w2 ⟨rfl, hm2⟩
  dsimp only
  replace hm2 := Lib.hid hm2
  go_wp2_with fail
  refine (hp.out _).mono ?_
  rintro e w3 ⟨rfl, hm3⟩
  dsimp only
  replace hm3 := Lib.hid hm3
  go_wp2_with fail
  refine (hs.out _).mono ?_
  rintro e w4 ⟨rfl, hm4⟩
  dsimp only
  replace hm4 := Lib.hid hm4
  go_wp2_with fail
  go_ret2
  exact ⟨rfl, ((hm1.out.trans hm2.out).trans hm3.out).trans hm4.out⟩
set_option maxRecDepth 100000 in
theorem rless_ok (w : World) (a b : Int) (ha : I64 a) (hb : I64 b) : Calls Try.prog 39 #[.int .i64 a, .int .i64 b] w (SPost (a - b) w) := by
  have a1 := ha.1; have a2 := ha.2; have b1 := hb.1; have b2 := hb.2
  have hn := fun W => minus_ok W b (by omega) (by omega)
  have hp := fun W => plus_ok W a (-b) (by omega) (by omega)
  have hs := fun W => sum_ok W (a + -b) (by omega) (by omega)
  rw [show a - b = a + -b by omega]
  clear a1 a2 b1 b2
  replace ha := Lib.hid ha
  replace hb := Lib.hid hb
  replace hp := Lib.hid hp
  replace hs := Lib.hid hs
  replace hn := Lib.hid hn
  go_enter Try.func39, Try.ntmps39
  go_wp2_with fail
  refine (of_ok _ a ha.out).mono ?_
  rintro e w1 ⟨rfl, hm1⟩
  dsimp only
  replace hm1 := Lib.hid hm1
  go_wp2_with fail
  refine (of_ok _ b hb.out).mono ?_
  rintro e w2 ⟨rfl, hm2⟩
  dsimp only
  replace hm2 := Lib.hid hm2
  go_wp2_with fail
  refine (hn.out _).mono ?_
  rintro e w5 ⟨rfl, hm5⟩
  dsimp only
  replace hm5 := Lib.hid hm5
  go_wp2_with fail
  refine (hp.out _).mono ?_
  rintro e w3 ⟨rfl, hm3⟩
  dsimp only
  replace hm3 := Lib.hid hm3
  go_wp2_with fail
  refine (hs.out _).mono ?_
  rintro e w4 ⟨rfl, hm4⟩
  dsimp only
  replace hm4 := Lib.hid hm4
  go_wp2_with fail
  go_ret2
  exact ⟨rfl, (((hm1.out.trans hm2.out).trans hm5.out).trans hm3.out).trans hm4.out⟩
theorem rbtw_val (a lo hi : Int) : btw a lo hi = if hi < lo ∨ a < lo then lo else if hi < a then hi else a := by
  unfold btw
  split
  · omega
  · split <;> omega
end Go.Proofs.Ytaohgefpnndjcaa
