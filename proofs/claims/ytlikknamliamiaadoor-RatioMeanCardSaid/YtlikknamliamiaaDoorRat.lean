/-
  The contracts of math.IsNaN, math.Abs, math.IsInf, ratio.round.
-/
import Derived.Test.YtlikknamliamiaaDoorFop
import Derived.Lib.Hide
namespace Go.Proofs.YtlikknamliamiaaDoor
set_option linter.unusedVariables false
open Go.RowKit
def nanB (x : Nat) : Bool := decide (infR < x % 2^63)
theorem nanB_yes {x : Nat} (h : Nan x) : nanB x = true := decide_eq_true h
theorem nanB_no {x : Nat} (h : ¬ Nan x) : nanB x = false := decide_eq_false h
theorem order_self (x : Nat) (h : ¬ Nan x) : FloatKind.f64.format.order x x = some .eq := by
  have := order_num x x h h
  rw [Int.compare_eq_eq.2 rfl] at this; exact this
theorem isnan_ok (w : World) (x : Nat) : Calls Tryd.prog 25 #[.float .f64 x] w fun e w' => e = .returned (.bool (nanB x)) ∧ w = w' := by
  by_cases h : Nan x
  · rw [nanB_yes h]
    have ho : FloatKind.f64.format.order x x = none := order_nanl x x h
    replace h := Lib.hid h
    go_enter Tryd.func25, Tryd.ntmps25
    go_wp2_with fail
    go_ret
    exact ⟨rfl, rfl⟩
  · rw [nanB_no h]
    have ho := order_self x h
    replace h := Lib.hid h
    go_enter Tryd.func25, Tryd.ntmps25
    go_wp2_with fail
    go_ret
    exact ⟨rfl, rfl⟩
set_option maxRecDepth 100000 in
theorem abs_ok (w : World) (x : Nat) (hx : x < 2^64) : Calls Tryd.prog 28 #[.float .f64 x] w fun e w' => e = .returned (.float .f64 (x % 2^63)) ∧ w = w' := by
  have hb : (bits BinOp.andNot IntKind.u64 (x : Int) 9223372036854775808).toNat = x % 2^63 := by
    rw [show (9223372036854775808 : Int) = ((9223372036854775808 : Nat) : Int) from rfl, u64_andNot_nat x 9223372036854775808 (by omega) (by omega), Int.toNat_natCast]
    exact Nat.and_two_pow_sub_one_eq_mod x 63
  replace hb := Lib.hid hb
  go_enter Tryd.func28, Tryd.ntmps28
  go_wp2_with fail
  go_ret
  refine ⟨?_, rfl⟩
  show Ending.returned (.float .f64 (bits BinOp.andNot IntKind.u64 (x : Int) 9223372036854775808).toNat) = _
  rw [hb.out]
def infB (s : Int) (x : Nat) : Bool := decide (x % 2^63 = infR ∧ (s = 0 ∨ (s = 1 ∧ sgn x = false) ∨ (s = -1 ∧ sgn x = true)))
theorem V_max : V 9218868437227405311 = (rmag (infR - 1) : Int) := by
  have h2 : V 9218868437227405311 = (if sgn 9218868437227405311 then -(rmag (9218868437227405311 % 2^63) : Int) else (rmag (9218868437227405311 % 2^63) : Int)) := rfl
  rw [show sgn 9218868437227405311 = false by decide, if_neg (by decide), show 9218868437227405311 % 2^63 = infR - 1 by decide] at h2
  exact h2
theorem big_gt (y : Nat) : (FloatKind.f64.format.order y 9218868437227405311 == some .gt) = decide (y % 2^63 = infR ∧ sgn y = false) := by
  show (D.order y 9218868437227405311 == some .gt) = _
  by_cases h : Nan y
  · rw [order_nanl y _ h, decide_eq_false (by unfold Nan at h; omega)]; rfl
  · rw [order_num y _ h (by unfold Nan infR; decide), V_max]
    have key : (V y > (rmag (infR - 1) : Int)) ↔ (y % 2^63 = infR ∧ sgn y = false) := by
      have h1 : rmag (infR - 1) < rmag infR := rmag_lt.2 (by unfold infR; omega)
      constructor
      · intro g
        unfold V at g
        cases hs : sgn y
        · rw [hs] at g
          simp only [Bool.false_eq_true, if_false] at g
          have : infR - 1 < y % 2^63 := rmag_lt.1 (by omega)
          unfold Nan at h
          exact ⟨by omega, rfl⟩
        · rw [hs] at g
          simp only [if_true] at g; omega
      · intro ⟨g1, g2⟩
        unfold V
        rw [g1, g2]
        simp only [Bool.false_eq_true, if_false]; omega
    by_cases c : V y > (rmag (infR - 1) : Int)
    · rw [Int.compare_eq_gt.2 c, decide_eq_true (key.1 c)]; rfl
    · rw [decide_eq_false (fun g => c (key.2 g))]
      rcases Int.lt_or_eq_of_le (Int.not_lt.1 c) with d | d
      · rw [Int.compare_eq_lt.2 d]; rfl
      · rw [Int.compare_eq_eq.2 d]; rfl
theorem neg_mod (x : Nat) : (x ^^^ 2^63) % 2^63 = x % 2^63 := by
  rw [Nat.xor_mod_two_pow]
  simp
theorem neg_sgn (x : Nat) : sgn (x ^^^ 2^63) = !sgn x := by
  unfold sgn
  rw [Nat.xor_div_two_pow]
  have h : (x / 2^63 ^^^ 2^63/2^63) % 2 = (x/2^63 % 2) ^^^ 1 := by
    have := Nat.xor_mod_two_pow (a := x/2^63) (b := 1) (n := 1)
    simpa using this
  rw [h]
  have : x/2^63 % 2 = 0 ∨ x/2^63 % 2 = 1 := by omega
  rcases this with h | h <;> rw [h] <;> rfl
theorem abs_sgn (x : Nat) : sgn (x % 2^63) = false := by unfold sgn; simp
set_option maxRecDepth 100000 in
theorem isinf0_ok (w : World) (x : Nat) (hx : x < 2^64) : Calls Tryd.prog 26 #[.float .f64 x, .int .i64 0] w fun e w' => e = .returned (.bool (infB 0 x)) ∧ w = w' := by
  have ha := Lib.hid (abs_ok w x hx)
  go_enter Tryd.func26, Tryd.ntmps26
  go_wp2_with fail
  refine ha.out.mono ?_
  rintro e w1 ⟨rfl, rfl⟩
  dsimp only
  go_wp2_with fail
  go_ret
  refine ⟨?_, rfl⟩
  show Ending.returned (.bool (FloatKind.f64.format.order (x % 2^63) 9218868437227405311 == some .gt)) = _
  rw [big_gt, abs_sgn]
  unfold infB
  simp
set_option maxRecDepth 100000 in
theorem isinf1_ok (w : World) (x : Nat) : Calls Tryd.prog 26 #[.float .f64 x, .int .i64 1] w fun e w' => e = .returned (.bool (infB 1 x)) ∧ w = w' := by
  go_enter Tryd.func26, Tryd.ntmps26
  go_wp2_with fail
  go_ret
  refine ⟨?_, rfl⟩
  show Ending.returned (.bool (FloatKind.f64.format.order x 9218868437227405311 == some .gt)) = _
  rw [big_gt]
  unfold infB
  simp
set_option maxRecDepth 100000 in
theorem isinfm_ok (w : World) (x : Nat) : Calls Tryd.prog 26 #[.float .f64 x, .int .i64 (-1)] w fun e w' => e = .returned (.bool (infB (-1) x)) ∧ w = w' := by
  go_enter Tryd.func26, Tryd.ntmps26
  go_wp2_with fail
  go_ret
  refine ⟨?_, rfl⟩
  show Ending.returned (.bool (FloatKind.f64.format.order (x ^^^ 2^63) 9218868437227405311 == some .gt)) = _
  rw [big_gt, neg_mod, neg_sgn]
  unfold infB
  simp
/-- what a sum and whether there is one is returned as -/
def rndR (r : Option Int) : Ending := match r with | some n => .returned (.tuple #[.int .i64 n, .bool true]) | none => .returned (.tuple #[.int .i64 0, .bool false])
def RndPost (r : Option Int) (w : World) (e : Ending) (w' : World) : Prop := e = rndR r ∧ Mod none_ w w'
theorem rte_inf (x : Nat) (h : x % 2^63 = infR) : ¬ Nan (rte x) ∧ V (rte x) = V x := by
  have e : rte x = D.word (sgn x) infR := by
    unfold rte; rw [read_inf x h]; rfl
  have ⟨a, b⟩ := word_sgn (sgn x) infR (by unfold infR; omega)
  rw [e]
  exact ⟨by unfold Nan; omega, by unfold V; rw [a, b, h]⟩
set_option maxRecDepth 100000 in
theorem round_none (w : World) (x z : Nat) (hn : ¬ Nan x) (hz : rte x = z) (hzn : ¬ Nan z) (h : edge ≤ V z ∨ V z < -edge) (hr : rnd x = none) : Calls Tryd.prog 22 #[.float .f64 x] w (RndPost (rnd x) w) := by
  rw [hr]
  have hc := fun W => run_rte x hn W
  rw [hz] at hc
  have hi := Lib.hid (fun W => isnan_ok W z)
  rw [nanB_no hzn] at hi
  have o1 : FloatKind.f64.format.order z 4890909195324358656 = some (compare (V z) edge) := by rw [← V_edge]; exact order_num z _ hzn (by unfold Nan infR; decide)
  have o2 : FloatKind.f64.format.order z 14114281232179134464 = some (compare (V z) (-edge)) := by rw [← V_low]; exact order_num z _ hzn (by unfold Nan infR; decide)
  rcases Int.lt_trichotomy (V z) edge with c | c | c
  · have d : V z < -edge := by omega
    rw [Int.compare_eq_lt.2 c] at o1
    rw [Int.compare_eq_lt.2 d] at o2
    clear c d
    replace hn := Lib.hid hn
    replace hzn := Lib.hid hzn
    replace h := Lib.hid h
    replace hr := Lib.hid hr
    replace hz := Lib.hid hz
    go_enter Tryd.func22, Tryd.ntmps22
    go_wp2_with fail
    refine (hi.out _).mono ?_
    rintro e w1 ⟨rfl, rfl⟩
    dsimp only
    go_wp2_with fail
    go_ret2
    exact ⟨rfl, Mod.refl _ _⟩
  · rw [Int.compare_eq_eq.2 c] at o1
    clear c o2
    replace hn := Lib.hid hn
    replace hzn := Lib.hid hzn
    replace h := Lib.hid h
    replace hr := Lib.hid hr
    replace hz := Lib.hid hz
    go_enter Tryd.func22, Tryd.ntmps22
    go_wp2_with fail
    refine (hi.out _).mono ?_
    rintro e w1 ⟨rfl, rfl⟩
    dsimp only
    go_wp2_with fail
    go_ret2
    exact ⟨rfl, Mod.refl _ _⟩
  · rw [Int.compare_eq_gt.2 c] at o1
    clear c o2
    replace hn := Lib.hid hn
    replace hzn := Lib.hid hzn
    replace h := Lib.hid h
    replace hr := Lib.hid hr
    replace hz := Lib.hid hz
    go_enter Tryd.func22, Tryd.ntmps22
    go_wp2_with fail
    refine (hi.out _).mono ?_
    rintro e w1 ⟨rfl, rfl⟩
    dsimp only
    go_wp2_with fail
    go_ret2
    exact ⟨rfl, Mod.refl _ _⟩
theorem rneI_edge {X : Int} (h1 : -edge ≤ X) (h2 : X < edge) : -9223372036854775808 ≤ rneI X ∧ rneI X ≤ 9223372036854775808 := by
  have hb := rneI_ok X
  refine ⟨(hb.bound (-9223372036854775808)).2 ?_, (hb.bound 9223372036854775808).1 ?_⟩
  · unfold edge at h1; omega
  · unfold edge at h2; omega
set_option maxRecDepth 100000 in
theorem round_some (w : World) (x z : Nat) (n : Int) (hn : ¬ Nan x) (hz : rte x = z) (hzn : ¬ Nan z) (h1 : V z < edge) (h2 : -edge ≤ V z) (ht : (D.read z).toInt .zero = some n) (hr : rnd x = some n) (hn1 : -9223372036854775808 ≤ n) (hn2 : n ≤ 9223372036854775807) :
    Calls Tryd.prog 22 #[.float .f64 x] w (RndPost (rnd x) w) := by
  rw [hr]
  have hc := fun W => run_rte x hn W
  rw [hz] at hc
  have hi := Lib.hid (fun W => isnan_ok W z)
  rw [nanB_no hzn] at hi
  have o1 : FloatKind.f64.format.order z 4890909195324358656 = some (compare (V z) edge) := by rw [← V_edge]; exact order_num z _ hzn (by unfold Nan infR; decide)
  have o2 : FloatKind.f64.format.order z 14114281232179134464 = some (compare (V z) (-edge)) := by rw [← V_low]; exact order_num z _ hzn (by unfold Nan infR; decide)
  have hv : floatToIntVal .f64 z .i64 = some n := by
    unfold floatToIntVal
    rw [show (FloatKind.f64.decode z).toInt .zero = some n from ht]
    simp only [IntKind.min, IntKind.max, IntKind.signed, IntKind.bits]
    rw [if_pos (by simp; omega)]
  have hcv := fun W => run_convert_float_int (P := Tryd.prog) W 22 2 .f64 .i64 z n (by kernel_rfl) (by kernel_rfl) hv
  rw [Int.compare_eq_lt.2 h1] at o1
  have o3 : (FloatKind.f64.format.order z 14114281232179134464 == some .lt) = false := by
    rw [o2]
    rcases Int.lt_or_eq_of_le h2 with d | d
    · rw [Int.compare_eq_gt.2 d]; rfl
    · rw [Int.compare_eq_eq.2 d.symm]; rfl
  clear o2
  replace hn := Lib.hid hn
  replace hzn := Lib.hid hzn
  replace h1 := Lib.hid h1
  replace h2 := Lib.hid h2
  replace hr := Lib.hid hr
  replace hz := Lib.hid hz
  replace ht := Lib.hid ht
  replace hn1 := Lib.hid hn1
  replace hn2 := Lib.hid hn2
  replace hv := Lib.hid hv
  go_enter Tryd.func22, Tryd.ntmps22
  go_wp2_with fail
  refine (hi.out _).mono ?_
  rintro e w1 ⟨rfl, rfl⟩
  dsimp only
  go_wp2_with fail
  go_ret2
  exact ⟨rfl, Mod.refl _ _⟩
set_option maxRecDepth 100000 in
theorem round_ok (w : World) (x : Nat) : Calls Tryd.prog 22 #[.float .f64 x] w (RndPost (rnd x) w) := by
  rcases tri x with hf | hf | hf
  · have hn : ¬ Nan x := by unfold Nan; unfold Fin' at hf; omega
    obtain ⟨z, h1, h2, h3, h4, h5, h6⟩ := round_fin x hf
    have hzn : ¬ Nan z := by unfold Nan; unfold Fin' at h2; omega
    by_cases c : edge ≤ V z ∨ V z < -edge
    · exact round_none w x z hn h1 hzn c ((rnd_none_iff x).2 (.inr (by rw [← h3, ← h4]; exact c)))
    · have hr : rnd x = some (rneI (V x)) := by
        unfold rnd; rw [if_neg]
        rw [← h3, ← h4]; unfold Nan at hn; omega
      have hb := rneI_edge (X := V x) (by omega) (by omega)
      have hb2 : rneI (V x) < 9223372036854775808 := by
        refine mulU_lt.1 ?_
        have : V z < edge := by omega
        rw [h6] at this; exact this
      exact round_some w x z _ hn h1 hzn (by omega) (by omega) h5 hr hb.1 (by omega)
  · have hn : ¬ Nan x := by unfold Nan; omega
    obtain ⟨h1, h2⟩ := rte_inf x hf
    have h3 := inf_V x hf
    exact round_none w x _ hn rfl h1 (by rw [h2]; exact h3) ((rnd_none_iff x).2 (.inr h3))
  · have hr : rnd x = none := (rnd_none_iff x).2 (.inl hf)
    rw [hr]
    obtain ⟨b, k, hb, hc⟩ := run_rte_nan x hf w
    have hi := Lib.hid (fun W => isnan_ok W b)
    rw [nanB_yes hb] at hi
    replace hf := Lib.hid hf
    replace hr := Lib.hid hr
    replace hb := Lib.hid hb
    go_enter Tryd.func22, Tryd.ntmps22
    go_wp2_with fail
    refine (hi.out _).mono ?_
    rintro e w1 ⟨rfl, rfl⟩
    dsimp only
    go_wp2_with fail
    go_ret2
    exact ⟨rfl, (Mod.refl _ _).drewN k⟩
end Go.Proofs.YtlikknamliamiaaDoor
