/-
  The contracts of ratio.Times, ratio.Of, and of the reference's Round, Times, Same.
-/
import Derived.Test.YtlikknamliamiaaDoorRat
namespace Go.Proofs.YtlikknamliamiaaDoor
set_option linter.unusedVariables false
open Go.RowKit
def ofI (a : Int) : Nat := D.write (.number (decide (a < 0)) a.natAbs 0)
theorem ofI_eq (a : Int) : floatOfInt .f64 a = ofI a := rfl
def timesR (a : Int) (x : Nat) : Option Int := (D.mul (ofI a) x).bind rnd
def errR (r : Option Int) : Ending := match r with | some n => .returned (.tuple #[.int .i64 n, .int .i64 0]) | none => .returned (.tuple #[.int .i64 0, .int .i64 13])
def TimesPost (r : Option Int) (w : World) (e : Ending) (w' : World) : Prop := e = errR r ∧ Mod none_ w w'
theorem rnd_nan {b : Nat} (h : Nan b) : rnd b = none := (rnd_none_iff b).2 (.inl h)
theorem timesR_of {a : Int} {x b : Nat} (h : floatBits .mul .f64 (floatOfInt .f64 a) x = some b ∨ (floatBits .mul .f64 (floatOfInt .f64 a) x = none ∧ Nan b)) : timesR a x = rnd b := by
  unfold timesR
  rcases h with h | ⟨h, hn⟩
  · rw [show D.mul (ofI a) x = some b from h]; rfl
  · rw [show D.mul (ofI a) x = none from h, rnd_nan hn]; rfl
set_option maxRecDepth 100000 in
theorem ratTimes_ok (w : World) (a : Int) (x : Nat) : Calls Tryd.prog 10 #[.int .i64 a, .float .f64 x] w (TimesPost (timesR a x) w) := by
  obtain ⟨b, k, hb, _, hrun⟩ := run_arith .mul (.inr (.inr (.inl rfl))) (floatOfInt .f64 a) x w
  rw [timesR_of hb]
  have hc := Lib.hid (fun W => round_ok W b)
  cases hr : rnd b with
  | none =>
    rw [hr] at hc
    replace hb := Lib.hid hb
    replace hr := Lib.hid hr
    go_enter Tryd.func10, Tryd.ntmps10
    go_wp2_with fail
    refine (hc.out _).mono ?_
    rintro e w1 ⟨rfl, hm⟩
    dsimp only [rndR]
    replace hm := Lib.hid hm
    go_wp2_with fail
    go_ret2
    exact ⟨rfl, ((Mod.refl _ _).drewN k).then hm.out (fun _ _ h => h)⟩
  | some n =>
    rw [hr] at hc
    replace hb := Lib.hid hb
    replace hr := Lib.hid hr
    go_enter Tryd.func10, Tryd.ntmps10
    go_wp2_with fail
    refine (hc.out _).mono ?_
    rintro e w1 ⟨rfl, hm⟩
    dsimp only [rndR]
    replace hm := Lib.hid hm
    go_wp2_with fail
    go_ret2
    exact ⟨rfl, ((Mod.refl _ _).drewN k).then hm.out (fun _ _ h => h)⟩
/-- x / y: the bits, or some bits of none -/
def Quo (x y b : Nat) : Prop := (D.div x y = some b ∨ (D.div x y = none ∧ Nan b)) ∧ b < 2^64
def QuoPost (x y : Nat) (w : World) (e : Ending) (w' : World) : Prop := ∃ b, Quo x y b ∧ e = .returned (.float .f64 b) ∧ Mod none_ w w'
set_option maxRecDepth 100000 in
theorem ratOf_ok (w : World) (a b : Int) : Calls Tryd.prog 13 #[.int .i64 a, .int .i64 b] w (QuoPost (ofI a) (ofI b) w) := by
  obtain ⟨z, k, hb, hz, hrun⟩ := run_arith .quo (.inr (.inr (.inr rfl))) (floatOfInt .f64 a) (floatOfInt .f64 b) w
  replace hb := Lib.hid hb
  replace hz := Lib.hid hz
  go_enter Tryd.func13, Tryd.ntmps13
  go_wp2_with fail
  go_ret
  exact ⟨z, ⟨hb.out, hz.out⟩, rfl, (Mod.refl _ _).drewN k⟩
theorem not_nan_of_fin {x : Nat} (h : Fin' x) : ¬ Nan x := by unfold Nan; unfold Fin' at h; omega
theorem big_whole (x : Nat) (hx : Fin' x) (h : e52 ≤ V x ∨ V x ≤ -e52) : (D.read x).toInt .zero = some (rneI (V x)) := by
  rcases small_or_whole x hx with ⟨n, hn⟩ | h2
  · have e : rneI (V x) = n := (rneI_ok _).uniq (hn ▸ IsR.exact n)
    rw [toInt_fin x hx, e]
    have hm2 : rmag (x % 2^63) = n.natAbs*U := by
      rw [← V_abs, hn, Int.natAbs_mul]; rfl
    have hV := hn
    unfold V at hV
    rw [hm2] at hV ⊢
    rw [Nat.mul_div_cancel _ U_pos]
    have hU : (0:Int) < U := by have := U_pos; omega
    rw [Int.natCast_mul] at hV
    refine congrArg some ?_
    cases hs : sgn x
    · rw [hs] at hV
      simp only [Bool.false_eq_true, if_false] at hV ⊢
      exact Int.eq_of_mul_eq_mul_right (Int.ne_of_gt hU) hV
    · rw [hs] at hV
      simp only [if_true] at hV ⊢
      rw [← Int.neg_mul] at hV
      exact Int.eq_of_mul_eq_mul_right (Int.ne_of_gt hU) hV
  · omega
theorem ord_edge (z : Nat) (h : ¬ Nan z) : FloatKind.f64.format.order z 4890909195324358656 = some (compare (V z) edge) := by rw [← V_edge]; exact order_num z _ h (by unfold Nan infR; decide)
theorem ord_low (z : Nat) (h : ¬ Nan z) : FloatKind.f64.format.order z 14114281232179134464 = some (compare (V z) (-edge)) := by rw [← V_low]; exact order_num z _ h (by unfold Nan infR; decide)
theorem ord_52 (z : Nat) (h : ¬ Nan z) : FloatKind.f64.format.order z 4841369599423283200 = some (compare (V z) e52) := by rw [← V_52]; exact order_num z _ h (by unfold Nan infR; decide)
theorem ord_m52 (z : Nat) (h : ¬ Nan z) : FloatKind.f64.format.order z 14064741636278059008 = some (compare (V z) (-e52)) := by rw [← V_m52]; exact order_num z _ h (by unfold Nan infR; decide)
theorem ord_half (z : Nat) (h : ¬ Nan z) : FloatKind.f64.format.order z 4602678819172646912 = some (compare (V z) HU) := by rw [← V_half]; exact order_num z _ h (by unfold Nan infR; decide)
theorem ord_zero (z : Nat) (h : ¬ Nan z) : FloatKind.f64.format.order z 0 = some (compare (V z) 0) := by
  have := order_num z 0 h (by unfold Nan infR; decide)
  rw [V_zero] at this; exact this
theorem cmp_not_lt {a b : Int} (h : b ≤ a) : (some (compare a b) == some Ordering.lt) = false := by
  rcases Int.lt_or_eq_of_le h with d | d
  · rw [Int.compare_eq_gt.2 d]; rfl
  · rw [Int.compare_eq_eq.2 d.symm]; rfl
theorem cmp_not_ge {a b : Int} (h : a < b) : (some (compare a b) == some Ordering.gt) = false ∧ (some (compare a b) == some Ordering.eq) = false := by
  rw [Int.compare_eq_lt.2 h]; exact ⟨rfl, rfl⟩
theorem conv_int (W : World) (x : Nat) (n : Int) (h : (D.read x).toInt .zero = some n) (h1 : -9223372036854775808 ≤ n) (h2 : n ≤ 9223372036854775807) : (convert 22 2 (.float .f64 x)).run Tryd.prog W = .ok (.int .i64 n) W := by
  have hv : floatToIntVal .f64 x .i64 = some n := by
    unfold floatToIntVal
    rw [show (FloatKind.f64.decode x).toInt .zero = some n from h]
    simp only [IntKind.min, IntKind.max, IntKind.signed, IntKind.bits]
    rw [if_pos (by simp; omega)]
  exact run_convert_float_int (P := Tryd.prog) W 22 2 .f64 .i64 x n (by kernel_rfl) (by kernel_rfl) hv
set_option maxRecDepth 100000 in
/-- the reference's Round: no sum -/
theorem rround_no (w : World) (x : Nat) (hr : rnd x = none) : Calls Tryd.prog 23 #[.float .f64 x] w (RndPost (rnd x) w) := by
  rw [hr]
  rcases (rnd_none_iff x).1 hr with h | h
  · have o : FloatKind.f64.format.order x x = none := order_nanl x x h
    replace h := Lib.hid h
    replace hr := Lib.hid hr
    go_enter Tryd.func23, Tryd.ntmps23
    go_wp2_with fail
    go_ret2
    exact ⟨rfl, Mod.refl _ _⟩
  · by_cases hn : Nan x
    · have o : FloatKind.f64.format.order x x = none := order_nanl x x hn
      replace h := Lib.hid h
      replace hr := Lib.hid hr
      replace hn := Lib.hid hn
      go_enter Tryd.func23, Tryd.ntmps23
      go_wp2_with fail
      go_ret2
      exact ⟨rfl, Mod.refl _ _⟩
    · have o := order_self x hn
      have o1 := ord_edge x hn
      have o2 := ord_low x hn
      rcases Int.lt_trichotomy (V x) edge with c | c | c
      · rw [Int.compare_eq_lt.2 c] at o1
        rw [Int.compare_eq_lt.2 (show V x < -edge by omega)] at o2
        replace h := Lib.hid h
        replace hr := Lib.hid hr
        replace hn := Lib.hid hn
        replace c := Lib.hid c
        go_enter Tryd.func23, Tryd.ntmps23
        go_wp2_with fail
        go_ret2
        exact ⟨rfl, Mod.refl _ _⟩
      · rw [Int.compare_eq_eq.2 c] at o1
        clear o2
        replace h := Lib.hid h
        replace hr := Lib.hid hr
        replace hn := Lib.hid hn
        replace c := Lib.hid c
        go_enter Tryd.func23, Tryd.ntmps23
        go_wp2_with fail
        go_ret2
        exact ⟨rfl, Mod.refl _ _⟩
      · rw [Int.compare_eq_gt.2 c] at o1
        clear o2
        replace h := Lib.hid h
        replace hr := Lib.hid hr
        replace hn := Lib.hid hn
        replace c := Lib.hid c
        go_enter Tryd.func23, Tryd.ntmps23
        go_wp2_with fail
        go_ret2
        exact ⟨rfl, Mod.refl _ _⟩
end Go.Proofs.YtlikknamliamiaaDoor
