/-
  The contracts of ratio.Near, of the reference's Near and Same.
-/
import Derived.Test.YtlikknamliamiaaDoorRat3
namespace Go.Proofs.YtlikknamliamiaaDoor
set_option linter.unusedVariables false
open Go.RowKit
def leB (z : Nat) (q : Option Nat) : Bool := match q with | some q => FloatKind.f64.format.order z q == some .lt || FloatKind.f64.format.order z q == some .eq | none => false
def subB (a b : Nat) : Nat := (D.sub a b).getD 0
def nearV (a b part : Nat) : Bool :=
  if nanB a || nanB b then false else if infB 0 a || infB 0 b then FloatKind.f64.format.order a b == some .eq else leB (subB a b % 2^63) (D.mul part (max (a % 2^63) (b % 2^63)))
theorem fin_of {a : Nat} (h1 : nanB a = false) (h2 : infB 0 a = false) : Fin' a := by
  unfold nanB at h1
  unfold infB at h2
  simp at h1 h2
  unfold Fin'; omega
theorem V_pos {r : Nat} (h : r < 2^63) : V r = rmag r := by
  unfold V
  have : sgn r = false := by unfold sgn; simp; omega
  rw [this, Nat.mod_eq_of_lt h]; simp
theorem run_maxf (W : World) (ts : Array TypeId) (t : TypeId) (x y : Nat) (hx : x < infR) (hy : y < infR) : (Builtin.max_ ts t #[.float .f64 x, .float .f64 y]).run Tryd.prog W = .ok (.float .f64 (max x y)) W := by
  have hi : infR < 2^63 := by unfold infR; omega
  have fx : Fin' x := by unfold Fin'; omega
  have fy : Fin' y := by unfold Fin'; omega
  have e := order_num x y (not_nan_of_fin fx) (not_nan_of_fin fy)
  rw [V_pos (by omega), V_pos (by omega)] at e
  have e' : FloatKind.f64.format.order x y = _ := e
  rcases Nat.lt_trichotomy x y with c | c | c
  · have := rmag_lt.2 c
    rw [Int.compare_eq_lt.2 (by omega)] at e'
    simp [Builtin.max_, Builtin.max2, e']
    omega
  · subst c
    rw [Int.compare_eq_eq.2 rfl] at e'
    simp [Builtin.max_, Builtin.max2, e']
  · have := rmag_lt.2 c
    rw [Int.compare_eq_gt.2 (by omega)] at e'
    simp [Builtin.max_, Builtin.max2, e']
    omega
def BoolPost (b : Bool) (w : World) (e : Ending) (w' : World) : Prop := e = .returned (.bool b) ∧ Mod none_ w w'
theorem leB_of {z : Nat} {o : Option Nat} {q : Nat} (h : o = some q ∨ (o = none ∧ Nan q)) : (FloatKind.f64.format.order z q == some .lt || FloatKind.f64.format.order z q == some .eq) = leB z o := by
  rcases h with rfl | ⟨rfl, h⟩
  · rfl
  · rw [show FloatKind.f64.format.order z q = none from order_nanr z q h]; rfl
theorem sub_ok64 (a b : Nat) (ha : Fin' a) (hb : Fin' b) : floatBits .sub .f64 a b = some (subB a b) ∧ subB a b < 2^64 := by
  obtain ⟨z, h, _⟩ := sub_fin a b ha hb
  have e : subB a b = z := by unfold subB; rw [h]; rfl
  have h' : floatBits .sub .f64 a b = some z := h
  rw [e]
  refine ⟨h', ?_⟩
  have := floatBits_wf h'
  simpa [Lit.wf] using this
set_option maxRecDepth 100000 in
set_option maxHeartbeats 1000000 in
theorem near_ok (w : World) (a b part : Nat) (ha : a < 2^64) (hb : b < 2^64) : Calls Tryd.prog 16 #[.float .f64 a, .float .f64 b, .float .f64 part] w (BoolPost (nearV a b part) w) := by
  have na := Lib.hid (fun W => isnan_ok W a)
  have nb := Lib.hid (fun W => isnan_ok W b)
  have ia := Lib.hid (fun W => isinf0_ok W a ha)
  have ib := Lib.hid (fun W => isinf0_ok W b hb)
  have aa := Lib.hid (fun W => abs_ok W a ha)
  have ab := Lib.hid (fun W => abs_ok W b hb)
  unfold nearV
  cases c1 : nanB a with
  | true =>
    rw [c1] at na
    rw [Bool.true_or, if_pos rfl]
    replace c1 := Lib.hid c1
    replace ha := Lib.hid ha
    replace hb := Lib.hid hb
    go_enter Tryd.func16, Tryd.ntmps16
    go_wp2_with fail
    refine (na.out _).mono ?_
    rintro e w1 ⟨rfl, rfl⟩
    dsimp only
    go_wp2_with fail
    go_ret
    exact ⟨rfl, Mod.refl _ _⟩
  | false =>
    rw [c1] at na
    cases c2 : nanB b with
    | true =>
      rw [c2] at nb
      rw [Bool.or_true, if_pos rfl]
      replace c1 := Lib.hid c1
      replace c2 := Lib.hid c2
      replace ha := Lib.hid ha
      replace hb := Lib.hid hb
      go_enter Tryd.func16, Tryd.ntmps16
      go_wp2_with fail
      refine (na.out _).mono ?_
      rintro e w1 ⟨rfl, rfl⟩
      dsimp only
      go_wp2_with fail
      refine (nb.out _).mono ?_
      rintro e w1 ⟨rfl, rfl⟩
      dsimp only
      go_wp2_with fail
      go_ret
      exact ⟨rfl, Mod.refl _ _⟩
    | false =>
      rw [c2] at nb
      rw [Bool.or_false, if_neg (by decide)]
      cases c3 : infB 0 a with
      | true =>
        rw [c3] at ia
        rw [Bool.true_or, if_pos rfl]
        replace c1 := Lib.hid c1
        replace c2 := Lib.hid c2
        replace c3 := Lib.hid c3
        replace ha := Lib.hid ha
        replace hb := Lib.hid hb
        go_enter Tryd.func16, Tryd.ntmps16
        go_wp2_with fail
        refine (na.out _).mono ?_
        rintro e w1 ⟨rfl, rfl⟩
        dsimp only
        go_wp2_with fail
        refine (nb.out _).mono ?_
        rintro e w1 ⟨rfl, rfl⟩
        dsimp only
        go_wp2_with fail
        refine (ia.out _).mono ?_
        rintro e w1 ⟨rfl, rfl⟩
        dsimp only
        go_wp2_with fail
        go_ret
        exact ⟨rfl, Mod.refl _ _⟩
      | false =>
        rw [c3] at ia
        cases c4 : infB 0 b with
        | true =>
          rw [c4] at ib
          rw [Bool.or_true, if_pos rfl]
          replace c1 := Lib.hid c1
          replace c2 := Lib.hid c2
          replace c3 := Lib.hid c3
          replace c4 := Lib.hid c4
          replace ha := Lib.hid ha
          replace hb := Lib.hid hb
          go_enter Tryd.func16, Tryd.ntmps16
          go_wp2_with fail
          refine (na.out _).mono ?_
          rintro e w1 ⟨rfl, rfl⟩
          dsimp only
          go_wp2_with fail
          refine (nb.out _).mono ?_
          rintro e w1 ⟨rfl, rfl⟩
          dsimp only
          go_wp2_with fail
          refine (ia.out _).mono ?_
          rintro e w1 ⟨rfl, rfl⟩
          dsimp only
          go_wp2_with fail
          refine (ib.out _).mono ?_
          rintro e w1 ⟨rfl, rfl⟩
          dsimp only
          go_wp2_with fail
          go_ret
          exact ⟨rfl, Mod.refl _ _⟩
        | false =>
          rw [c4] at ib
          rw [Bool.or_false, if_neg (by decide)]
          have fa := fin_of c1 c3
          have fb := fin_of c2 c4
          obtain ⟨s1, s2⟩ := sub_ok64 a b fa fb
          have hs := fun W ty => run_float_arith (P := Tryd.prog) W .sub ty .f64 a b _ s1
          have az := Lib.hid (fun W => abs_ok W (subB a b) s2)
          have hm := fun W ts t => run_maxf W ts t (a % 2^63) (b % 2^63) fa fb
          obtain ⟨q, k, hq, _, hrun⟩ := run_arith .mul (.inr (.inr (.inl rfl))) part (max (a % 2^63) (b % 2^63)) w
          rw [show D.mul part (max (a % 2^63) (b % 2^63)) = floatBits .mul .f64 part (max (a % 2^63) (b % 2^63)) from rfl, ← leB_of hq]
          generalize a % 2^63 = a1 at *
          generalize b % 2^63 = b1 at *
          generalize max a1 b1 = mm at *
          generalize subB a b % 2^63 = z1 at *
          replace c1 := Lib.hid c1
          replace c2 := Lib.hid c2
          replace c3 := Lib.hid c3
          replace c4 := Lib.hid c4
          replace ha := Lib.hid ha
          replace hb := Lib.hid hb
          replace fa := Lib.hid fa
          replace fb := Lib.hid fb
          replace s1 := Lib.hid s1
          replace s2 := Lib.hid s2
          replace hq := Lib.hid hq
          go_enter Tryd.func16, Tryd.ntmps16
          go_wp2_with fail
          refine (na.out _).mono ?_
          rintro e w1 ⟨rfl, rfl⟩
          dsimp only
          go_wp2_with fail
          refine (nb.out _).mono ?_
          rintro e w1 ⟨rfl, rfl⟩
          dsimp only
          go_wp2_with fail
          refine (ia.out _).mono ?_
          rintro e w1 ⟨rfl, rfl⟩
          dsimp only
          go_wp2_with fail
          refine (ib.out _).mono ?_
          rintro e w1 ⟨rfl, rfl⟩
          dsimp only
          go_wp2_with fail
          refine (az.out _).mono ?_
          rintro e w1 ⟨rfl, rfl⟩
          dsimp only
          go_wp2_with fail
          refine (aa.out _).mono ?_
          rintro e w1 ⟨rfl, rfl⟩
          dsimp only
          go_wp2_with fail
          refine (ab.out _).mono ?_
          rintro e w1 ⟨rfl, rfl⟩
          dsimp only
          go_wp2_with fail
          go_ret
          exact ⟨rfl, (Mod.refl _ _).drewN k⟩
end Go.Proofs.YtlikknamliamiaaDoor
