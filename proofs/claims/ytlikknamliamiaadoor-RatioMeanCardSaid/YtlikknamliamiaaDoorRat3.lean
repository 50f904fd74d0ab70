/-
  The contracts of the reference's Round and Times.
-/
import Derived.Test.YtlikknamliamiaaDoorRat2
namespace Go.Proofs.YtlikknamliamiaaDoor
set_option linter.unusedVariables false
open Go.RowKit
set_option maxRecDepth 100000 in
set_option maxHeartbeats 1000000 in
/-- the reference's Round: a great number -/
theorem rround_big (w : World) (x : Nat) (hx : Fin' x) (h1 : V x < edge) (h2 : -edge ≤ V x) (hb : e52 ≤ V x ∨ V x ≤ -e52) (n : Int) (ht : (D.read x).toInt .zero = some n) (hn1 : -9223372036854775808 ≤ n) (hn2 : n ≤ 9223372036854775807) :
    Calls Tryd.prog 23 #[.float .f64 x] w (RndPost (some n) w) := by
  have hn := not_nan_of_fin hx
  have o := order_self x hn
  have o1 := ord_edge x hn
  have o2 : (FloatKind.f64.format.order x 14114281232179134464 == some .lt) = false := by rw [ord_low x hn]; exact cmp_not_lt h2
  have o3 := ord_52 x hn
  have o4 := ord_m52 x hn
  have hcv := fun W => conv_int W x n ht hn1 hn2
  rw [Int.compare_eq_lt.2 h1] at o1
  rcases Int.lt_trichotomy (V x) e52 with c | c | c
  · rw [Int.compare_eq_lt.2 c] at o3
    rcases Int.lt_or_eq_of_le (show V x ≤ -e52 by omega) with d | d
    · rw [Int.compare_eq_lt.2 d] at o4
      replace hx := Lib.hid hx
      replace h1 := Lib.hid h1
      replace h2 := Lib.hid h2
      replace hb := Lib.hid hb
      replace ht := Lib.hid ht
      replace hn := Lib.hid hn
      replace hn1 := Lib.hid hn1
      replace hn2 := Lib.hid hn2
      replace c := Lib.hid c
      replace d := Lib.hid d
      go_enter Tryd.func23, Tryd.ntmps23
      go_wp2_with fail
      go_ret2
      exact ⟨rfl, Mod.refl _ _⟩
    · rw [Int.compare_eq_eq.2 d] at o4
      replace hx := Lib.hid hx
      replace h1 := Lib.hid h1
      replace h2 := Lib.hid h2
      replace hb := Lib.hid hb
      replace ht := Lib.hid ht
      replace hn := Lib.hid hn
      replace hn1 := Lib.hid hn1
      replace hn2 := Lib.hid hn2
      replace c := Lib.hid c
      replace d := Lib.hid d
      go_enter Tryd.func23, Tryd.ntmps23
      go_wp2_with fail
      go_ret2
      exact ⟨rfl, Mod.refl _ _⟩
  · rw [Int.compare_eq_eq.2 c] at o3
    clear o4
    replace hx := Lib.hid hx
    replace h1 := Lib.hid h1
    replace h2 := Lib.hid h2
    replace hb := Lib.hid hb
    replace ht := Lib.hid ht
    replace hn := Lib.hid hn
    replace hn1 := Lib.hid hn1
    replace hn2 := Lib.hid hn2
    replace c := Lib.hid c
    go_enter Tryd.func23, Tryd.ntmps23
    go_wp2_with fail
    go_ret2
    exact ⟨rfl, Mod.refl _ _⟩
  · rw [Int.compare_eq_gt.2 c] at o3
    clear o4
    replace hx := Lib.hid hx
    replace h1 := Lib.hid h1
    replace h2 := Lib.hid h2
    replace hb := Lib.hid hb
    replace ht := Lib.hid ht
    replace hn := Lib.hid hn
    replace hn1 := Lib.hid hn1
    replace hn2 := Lib.hid hn2
    replace c := Lib.hid c
    go_enter Tryd.func23, Tryd.ntmps23
    go_wp2_with fail
    go_ret2
    exact ⟨rfl, Mod.refl _ _⟩
/-- how the rest stands to a half, and whether one is added -/
inductive Half (z : Nat) (t : Int) : Int → Prop
  | gt : FloatKind.f64.format.order z 4602678819172646912 = some .gt → Half z t (t+1)
  | odd : FloatKind.f64.format.order z 4602678819172646912 = some .eq → t.tmod 2 ≠ 0 → Half z t (t+1)
  | even : FloatKind.f64.format.order z 4602678819172646912 = some .eq → t.tmod 2 = 0 → Half z t t
  | lt : FloatKind.f64.format.order z 4602678819172646912 = some .lt → Half z t t
theorem half_of (z : Nat) (t : Int) (hz : Fin' z) : Half z t (if V z > HU ∨ (V z = HU ∧ t % 2 ≠ 0) then t + 1 else t) := by
  have o := ord_half z (not_nan_of_fin hz)
  rcases Int.lt_trichotomy (V z) HU with c | c | c
  · rw [if_neg (by omega)]
    rw [Int.compare_eq_lt.2 c] at o
    exact .lt o
  · rw [Int.compare_eq_eq.2 c] at o
    by_cases d : t % 2 = 0
    · rw [if_neg (by omega)]
      exact .even o (Int.tmod_eq_zero_of_dvd (Int.dvd_of_emod_eq_zero d))
    · rw [if_pos (.inr ⟨c, d⟩)]
      exact .odd o (fun h => d (Int.emod_eq_zero_of_dvd (Int.dvd_of_tmod_eq_zero h)))
  · rw [if_pos (.inl c)]
    rw [Int.compare_eq_gt.2 c] at o
    exact .gt o
set_option maxRecDepth 100000 in
set_option maxHeartbeats 2000000 in
/-- the reference's Round: a small number, not less than what is ahead of its point -/
theorem rround_up (w : World) (x z : Nat) (t n : Int) (hx : Fin' x) (h1 : V x < e52) (h2 : -e52 < V x) (ht : (D.read x).toInt .zero = some t) (hn1 : -4503599627370496 ≤ t) (hn2 : t ≤ 4503599627370496)
    (hz : D.sub x (ofI t) = some z) (hzf : Fin' z) (h0 : 0 ≤ V z) (hh : Half z t n) :
    Calls Tryd.prog 23 #[.float .f64 x] w (RndPost (some n) w) := by
  have hn := not_nan_of_fin hx
  have o := order_self x hn
  have h3 := e52_edge
  have o1 := ord_edge x hn
  rw [Int.compare_eq_lt.2 (show V x < edge by omega)] at o1
  have o2 : (FloatKind.f64.format.order x 14114281232179134464 == some .lt) = false := by rw [ord_low x hn]; exact cmp_not_lt (by omega)
  have o3 := ord_52 x hn
  rw [Int.compare_eq_lt.2 h1] at o3
  have o4 := ord_m52 x hn
  rw [Int.compare_eq_gt.2 h2] at o4
  have hcv := fun W => conv_int W x t ht (by omega) (by omega)
  have hs := fun W ty => run_float_arith (P := Tryd.prog) W .sub ty .f64 x (floatOfInt .f64 t) z hz
  have o5 : (FloatKind.f64.format.order z 0 == some .lt) = false := by rw [ord_zero z (not_nan_of_fin hzf)]; exact cmp_not_lt h0
  replace hx := Lib.hid hx
  replace h1 := Lib.hid h1
  replace h2 := Lib.hid h2
  replace h3 := Lib.hid h3
  replace ht := Lib.hid ht
  replace hn := Lib.hid hn
  replace hz := Lib.hid hz
  replace hzf := Lib.hid hzf
  replace h0 := Lib.hid h0
  cases hh with
  | gt g =>
    go_enter Tryd.func23, Tryd.ntmps23
    go_wp2_with fail
    go_ret2
    exact ⟨rfl, Mod.refl _ _⟩
  | odd g d =>
    go_enter Tryd.func23, Tryd.ntmps23
    go_wp2_with fail
    go_ret2
    exact ⟨rfl, Mod.refl _ _⟩
  | even g d =>
    go_enter Tryd.func23, Tryd.ntmps23
    go_wp2_with fail
    go_ret2
    exact ⟨rfl, Mod.refl _ _⟩
  | lt g =>
    go_enter Tryd.func23, Tryd.ntmps23
    go_wp2_with fail
    go_ret2
    exact ⟨rfl, Mod.refl _ _⟩
set_option maxRecDepth 100000 in
set_option maxHeartbeats 2000000 in
/-- the reference's Round: a small number, less than what is ahead of its point -/
theorem rround_down (w : World) (x z y : Nat) (t n : Int) (hx : Fin' x) (h1 : V x < e52) (h2 : -e52 < V x) (ht : (D.read x).toInt .zero = some t) (hn1 : -4503599627370496 ≤ t) (hn2 : t ≤ 4503599627370496)
    (hz : D.sub x (ofI t) = some z) (hzf : Fin' z) (h0 : V z < 0) (hy : D.sub x (ofI (t-1)) = some y) (hh : Half y (t-1) n) :
    Calls Tryd.prog 23 #[.float .f64 x] w (RndPost (some n) w) := by
  have hn := not_nan_of_fin hx
  have o := order_self x hn
  have h3 := e52_edge
  have o1 := ord_edge x hn
  rw [Int.compare_eq_lt.2 (show V x < edge by omega)] at o1
  have o2 : (FloatKind.f64.format.order x 14114281232179134464 == some .lt) = false := by rw [ord_low x hn]; exact cmp_not_lt (by omega)
  have o3 := ord_52 x hn
  rw [Int.compare_eq_lt.2 h1] at o3
  have o4 := ord_m52 x hn
  rw [Int.compare_eq_gt.2 h2] at o4
  have hcv := fun W => conv_int W x t ht (by omega) (by omega)
  have hs := fun W ty => run_float_arith (P := Tryd.prog) W .sub ty .f64 x (floatOfInt .f64 t) z hz
  have hs2 := fun W ty => run_float_arith (P := Tryd.prog) W .sub ty .f64 x (floatOfInt .f64 (t-1)) y hy
  have o5 := ord_zero z (not_nan_of_fin hzf)
  rw [Int.compare_eq_lt.2 h0] at o5
  replace hx := Lib.hid hx
  replace h1 := Lib.hid h1
  replace h2 := Lib.hid h2
  replace h3 := Lib.hid h3
  replace ht := Lib.hid ht
  replace hn := Lib.hid hn
  replace hz := Lib.hid hz
  replace hzf := Lib.hid hzf
  replace h0 := Lib.hid h0
  replace hy := Lib.hid hy
  cases hh with
  | gt g =>
    go_enter Tryd.func23, Tryd.ntmps23
    go_wp2_with fail
    go_ret2
    refine ⟨?_, Mod.refl _ _⟩
    rw [show t - 1 + 1 = t by omega]
    rfl
  | odd g d =>
    go_enter Tryd.func23, Tryd.ntmps23
    go_wp2_with fail
    go_ret2
    refine ⟨?_, Mod.refl _ _⟩
    rw [show t - 1 + 1 = t by omega]
    rfl
  | even g d =>
    go_enter Tryd.func23, Tryd.ntmps23
    go_wp2_with fail
    go_ret2
    exact ⟨rfl, Mod.refl _ _⟩
  | lt g =>
    go_enter Tryd.func23, Tryd.ntmps23
    go_wp2_with fail
    go_ret2
    exact ⟨rfl, Mod.refl _ _⟩
theorem rround_ok (w : World) (x : Nat) : Calls Tryd.prog 23 #[.float .f64 x] w (RndPost (rnd x) w) := by
  cases hr : rnd x with
  | none => rw [← hr]; exact rround_no w x hr
  | some n =>
    have h0 : ¬ (Nan x ∨ edge ≤ V x ∨ V x < -edge) := fun h => by rw [(rnd_none_iff x).2 h] at hr; cases hr
    have hx : Fin' x := by
      rcases tri x with h | h | h
      · exact h
      · have := inf_V x h; omega
      · exact absurd (.inl h) h0
    have hn : n = rneI (V x) := by
      unfold rnd at hr
      unfold Nan at h0
      rw [if_neg h0] at hr
      exact (Option.some.inj hr).symm
    by_cases c : e52 ≤ V x ∨ V x ≤ -e52
    · have hb := rneI_edge (X := V x) (by omega) (by omega)
      have hb2 : rneI (V x) < 9223372036854775808 := by
        rcases small_or_whole x hx with ⟨m, hm⟩ | h2
        · have e : rneI (V x) = m := (rneI_ok _).uniq (hm ▸ IsR.exact m)
          rw [e]
          refine mulU_lt.1 ?_
          have : V x < edge := by omega
          rw [hm] at this; exact this
        · omega
      subst hn
      exact rround_big w x hx (by omega) (by omega) c _ (big_whole x hx c) hb.1 (by omega)
    · obtain ⟨t, t1, t2, t3, z, z1, z2, z3, z4⟩ := ref_small x hx (by omega) (by omega)
      by_cases d : 0 ≤ V z
      · have e := z3 d
        rw [hn, e]
        exact rround_up w x z t _ hx (by omega) (by omega) t1 (by omega) (by omega) z1 z2 d (half_of z t z2)
      · obtain ⟨y, y1, y2, y3⟩ := z4 (by omega)
        rw [hn, y3]
        exact rround_down w x z y t _ hx (by omega) (by omega) t1 (by omega) (by omega) z1 z2 (by omega) y1 (half_of y (t-1) y2)
set_option maxRecDepth 100000 in
theorem rratTimes_ok (w : World) (a : Int) (x : Nat) : Calls Tryd.prog 11 #[.int .i64 a, .float .f64 x] w (TimesPost (timesR a x) w) := by
  obtain ⟨b, k, hb, _, hrun⟩ := run_arith .mul (.inr (.inr (.inl rfl))) (floatOfInt .f64 a) x w
  rw [timesR_of hb]
  have hc := Lib.hid (fun W => rround_ok W b)
  cases hr : rnd b with
  | none =>
    rw [hr] at hc
    replace hb := Lib.hid hb
    replace hr := Lib.hid hr
    go_enter Tryd.func11, Tryd.ntmps11
    go_wp2_with fail
    refine (hc.out _).mono ?_
    rintro e w1 ⟨rfl, hm⟩
    dsimp only [rndR]
    replace hm := Lib.hid hm
    go_wp2_with fail
    go_ret2
    exact ⟨rfl, ((Mod.refl _ _).drewN k).then hm.out (fun _ _ h => h)⟩
  | some n =>
    rw [hr] at hc
    replace hb := Lib.hid hb
    replace hr := Lib.hid hr
    go_enter Tryd.func11, Tryd.ntmps11
    go_wp2_with fail
    refine (hc.out _).mono ?_
    rintro e w1 ⟨rfl, hm⟩
    dsimp only [rndR]
    replace hm := Lib.hid hm
    go_wp2_with fail
    go_ret2
    exact ⟨rfl, ((Mod.refl _ _).drewN k).then hm.out (fun _ _ h => h)⟩
end Go.Proofs.YtlikknamliamiaaDoor
