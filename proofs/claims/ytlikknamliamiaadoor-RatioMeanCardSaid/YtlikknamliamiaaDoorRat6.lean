/-
  The contracts of the reference's Near and Same; what Near answers, turned round.
-/
import Derived.Test.YtlikknamliamiaaDoorRat5
namespace Go.Proofs.YtlikknamliamiaaDoor
set_option linter.unusedVariables false
open Go.RowKit
set_option maxRecDepth 100000 in
set_option maxHeartbeats 4000000 in
theorem rnear_ok (w : World) (a b part : Nat) (ha : a < 2^64) (hb : b < 2^64) : Calls Tryd.prog 17 #[.float .f64 a, .float .f64 b, .float .f64 part] w (BoolPost (nearV a b part) w) := by
  have ia := Lib.hid (fun W => isinf0_ok W a ha)
  have ib := Lib.hid (fun W => isinf0_ok W b hb)
  unfold nearV
  by_cases n1 : Nan a
  · rw [nanB_yes n1, Bool.true_or, if_pos rfl]
    have o : FloatKind.f64.format.order a a = none := order_nanl a a n1
    replace n1 := Lib.hid n1
    replace ha := Lib.hid ha
    replace hb := Lib.hid hb
    go_enter Tryd.func17, Tryd.ntmps17
    go_wp2_with fail
    go_ret
    exact ⟨rfl, Mod.refl _ _⟩
  · have c1 := nanB_no n1
    have o1 := order_self a n1
    by_cases n2 : Nan b
    · rw [nanB_yes n2, Bool.or_true, if_pos rfl]
      have o : FloatKind.f64.format.order b b = none := order_nanl b b n2
      replace n1 := Lib.hid n1
      replace n2 := Lib.hid n2
      replace c1 := Lib.hid c1
      replace ha := Lib.hid ha
      replace hb := Lib.hid hb
      go_enter Tryd.func17, Tryd.ntmps17
      go_wp2_with fail
      go_ret
      exact ⟨rfl, Mod.refl _ _⟩
    · have c2 := nanB_no n2
      have o2 := order_self b n2
      rw [c1, c2, Bool.or_false, if_neg (by decide)]
      cases c3 : infB 0 a with
      | true =>
        rw [c3] at ia
        rw [Bool.true_or, if_pos rfl]
        replace n1 := Lib.hid n1
        replace n2 := Lib.hid n2
        replace c1 := Lib.hid c1
        replace c2 := Lib.hid c2
        replace c3 := Lib.hid c3
        replace ha := Lib.hid ha
        replace hb := Lib.hid hb
        go_enter Tryd.func17, Tryd.ntmps17
        go_wp2_with fail
        refine (ia.out _).mono ?_
        rintro e w1 ⟨rfl, rfl⟩
        dsimp only
        go_wp2_with fail
        go_ret
        exact ⟨rfl, Mod.refl _ _⟩
      | false =>
        rw [c3] at ia
        cases c4 : infB 0 b with
        | true =>
          rw [c4] at ib
          rw [Bool.or_true, if_pos rfl]
          replace n1 := Lib.hid n1
          replace n2 := Lib.hid n2
          replace c1 := Lib.hid c1
          replace c2 := Lib.hid c2
          replace c3 := Lib.hid c3
          replace c4 := Lib.hid c4
          replace ha := Lib.hid ha
          replace hb := Lib.hid hb
          go_enter Tryd.func17, Tryd.ntmps17
          go_wp2_with fail
          refine (ia.out _).mono ?_
          rintro e w1 ⟨rfl, rfl⟩
          dsimp only
          go_wp2_with fail
          refine (ib.out _).mono ?_
          rintro e w1 ⟨rfl, rfl⟩
          dsimp only
          go_wp2_with fail
          go_ret
          exact ⟨rfl, Mod.refl _ _⟩
        | false =>
          rw [c4] at ib
          rw [Bool.or_false, if_neg (by decide)]
          have fa := fin_of c1 c3
          have fb := fin_of c2 c4
          obtain ⟨s1, s2⟩ := sub_ok64 a b fa fb
          have hs := fun W ty => run_float_arith (P := Tryd.prog) W .sub ty .f64 a b _ s1
          rw [← near_ref a b part fa fb ha hb]
          obtain ⟨q, k, hq, _, hrun⟩ := run_arith .mul (.inr (.inr (.inl rfl))) part (topc (negc a) (negc b)) w
          rw [show D.mul part (topc (negc a) (negc b)) = floatBits .mul .f64 part (topc (negc a) (negc b)) from rfl, ← leB_of hq]
          generalize subB a b = z1 at *
          replace n1 := Lib.hid n1
          replace n2 := Lib.hid n2
          replace c1 := Lib.hid c1
          replace c2 := Lib.hid c2
          replace c3 := Lib.hid c3
          replace c4 := Lib.hid c4
          replace ha := Lib.hid ha
          replace hb := Lib.hid hb
          replace fa := Lib.hid fa
          replace fb := Lib.hid fb
          replace s1 := Lib.hid s1
          replace s2 := Lib.hid s2
          replace hq := Lib.hid hq
          have core : ∀ (z2 a2 b2 m2 : Nat), negc z1 = z2 → negc a = a2 → negc b = b2 → topc a2 b2 = m2 → True := fun _ _ _ _ _ _ _ _ => trivial
          rcases lt_split z1 with h1 | h1 <;> rcases lt_split a with h2 | h2 <;> rcases lt_split b with h3 | h3 <;> rcases gt_split (negc b) (negc a) with h4 | h4
          all_goals
            first | rw [topc_yes h4] at hrun | rw [topc_no h4] at hrun
            first | rw [negc_yes h1] | rw [negc_no h1]
            first | rw [negc_yes h2] at hrun h4 | rw [negc_no h2] at hrun h4 | rw [negc_yes h2] at h4 | rw [negc_no h2] at h4
            first | rw [negc_yes h3] at hrun h4 | rw [negc_no h3] at hrun h4 | rw [negc_yes h3] at h4 | rw [negc_no h3] at h4
            clear core
            go_enter Tryd.func17, Tryd.ntmps17
            go_wp2_with fail
            refine (ia.out _).mono ?_
            rintro e w1 ⟨rfl, rfl⟩
            dsimp only
            go_wp2_with fail
            refine (ib.out _).mono ?_
            rintro e w1 ⟨rfl, rfl⟩
            dsimp only
            go_wp2_with fail
            go_ret
            exact ⟨rfl, (Mod.refl _ _).drewN k⟩
end Go.Proofs.YtlikknamliamiaaDoor
