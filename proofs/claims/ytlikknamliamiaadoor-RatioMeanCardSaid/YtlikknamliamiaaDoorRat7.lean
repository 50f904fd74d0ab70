/-
  What Near answers, turned round; the contracts of the reference's Same and of both Show.
-/
import Derived.Test.YtlikknamliamiaaDoorRat6
import Derived.Test.YtlikknamliamiaaDoorRefTextB
namespace Go.Proofs.YtlikknamliamiaaDoor
set_option linter.unusedVariables false
open Go.RowKit
theorem order_eq_comm (a b : Nat) : (FloatKind.f64.format.order a b == some .eq) = (FloatKind.f64.format.order b a == some .eq) := by
  show (D.order a b == some .eq) = (D.order b a == some .eq)
  by_cases ha : Nan a
  · rw [order_nanl a b ha, order_nanr b a ha]
  · by_cases hb : Nan b
    · rw [order_nanr a b hb, order_nanl b a hb]
    · rw [order_num a b ha hb, order_num b a hb ha]
      rcases Int.lt_trichotomy (V a) (V b) with c | c | c
      · rw [Int.compare_eq_lt.2 c, Int.compare_eq_gt.2 c]; rfl
      · rw [c]
      · rw [Int.compare_eq_gt.2 c, Int.compare_eq_lt.2 c]; rfl
theorem sub_comm_abs (a b : Nat) (ha : Fin' a) (hb : Fin' b) : subB a b % 2^63 = subB b a % 2^63 := by
  obtain ⟨y, y1, R, y2, y3⟩ := sub_fin a b ha hb
  obtain ⟨z, z1, S, z2, z3⟩ := sub_fin b a hb ha
  have e1 : subB a b = y := by unfold subB; rw [y1]; rfl
  have e2 : subB b a = z := by unfold subB; rw [z1]; rfl
  have e3 : (V b - V a).natAbs = (V a - V b).natAbs := by omega
  rw [e3] at z2
  have := y2.uniq Nat.one_pos z2
  subst this
  rw [e1, e2, y3, z3, (word_sgn _ _ (by unfold infR; omega)).2, (word_sgn _ _ (by unfold infR; omega)).2]
theorem near_comm (a b part : Nat) : nearV a b part = nearV b a part := by
  unfold nearV
  rw [Bool.or_comm (nanB a), Bool.or_comm (infB 0 a), order_eq_comm a b, Nat.max_comm]
  by_cases c1 : (nanB b || nanB a) = true
  · rw [if_pos c1, if_pos c1]
  · rw [if_neg c1, if_neg c1]
    by_cases c2 : (infB 0 b || infB 0 a) = true
    · rw [if_pos c2, if_pos c2]
    · rw [if_neg c2, if_neg c2]
      simp only [Bool.or_eq_true, not_or, Bool.not_eq_true] at c1 c2
      rw [sub_comm_abs a b (fin_of c1.2 c2.2) (fin_of c1.1 c2.1)]
theorem nan_iff (a : Nat) : nanB a = true ↔ Nan a := by unfold nanB Nan; simp
theorem mul0 (m : Nat) (h : Fin' m) : ∃ z, D.mul 0 m = some z ∧ ¬ Nan z ∧ V z = 0 := by
  obtain ⟨z, z1, z2⟩ := mul_fin 0 m (by unfold Fin' infR; omega) h
  rw [show rmag (0 % 2^63) = 0 by simp [rmag], Nat.zero_mul] at z2
  obtain ⟨a1, a2, a3⟩ := z2.at (r := 0) U_pos (by simp [rmag]) (by unfold infR; omega)
  exact ⟨z, z1, not_nan_of_fin a1, by unfold V; rw [a3]; simp [rmag]⟩
theorem fin_max {a b : Nat} (ha : Fin' a) (hb : Fin' b) : Fin' (max (a % 2^63) (b % 2^63)) := by
  unfold Fin' at *
  rcases Nat.le_total (a % 2^63) (b % 2^63) with h | h
  · rw [Nat.max_eq_right h]; omega
  · rw [Nat.max_eq_left h]; omega
theorem leB_zero {r m : Nat} (hm : Fin' m) (hr : r ≤ infR) : leB r (D.mul 0 m) = decide (r = 0) := by
  obtain ⟨z, z1, z2, z3⟩ := mul0 m hm
  rw [z1]
  unfold leB
  simp only
  have hi : infR < 2^63 := by unfold infR; omega
  rw [show FloatKind.f64.format.order r z = _ from order_num r z (by unfold Nan; omega) z2, z3, V_pos (by omega)]
  by_cases c : r = 0
  · subst c
    rw [show rmag 0 = 0 by simp [rmag]]; rfl
  · have := (rmag_lt (r := 0) (s := r)).2 (by omega)
    rw [decide_eq_false c, Int.compare_eq_gt.2 (by omega)]; rfl
theorem sub_zero_iff (a b : Nat) (ha : Fin' a) (hb : Fin' b) : subB a b % 2^63 ≤ infR ∧ (subB a b % 2^63 = 0 ↔ V a = V b) := by
  obtain ⟨y, y1, R, y2, y3⟩ := sub_fin a b ha hb
  have e1 : subB a b = y := by unfold subB; rw [y1]; rfl
  rw [e1, y3, (word_sgn _ _ (by unfold infR; omega)).2]
  refine ⟨Nat.min_le_right _ _, ?_⟩
  constructor
  · intro h
    have hR : R = 0 := by unfold infR at h; omega
    subst hR
    by_cases c : V a = V b
    · exact c
    · exfalso
      have h1 := (Rnd.self 1 1 Nat.one_pos).mono Nat.one_pos y2 (by rw [show rmag 1 = 1 by simp [rmag]]; omega)
      omega
  · intro h
    rw [show (V a - V b).natAbs = rmag 0 * 1 by rw [h]; simp [rmag]] at y2
    rw [y2.exact Nat.one_pos, Nat.zero_min]
theorem near_self (a : Nat) : nearV a a 0 = (FloatKind.f64.format.order a a == some .eq) := by
  unfold nearV
  by_cases c1 : Nan a
  · rw [nanB_yes c1, show FloatKind.f64.format.order a a = none from order_nanl a a c1]; rfl
  · rw [nanB_no c1, order_self a c1, Bool.or_false, if_neg (by decide)]
    cases c2 : infB 0 a
    · rw [Bool.or_false, if_neg (by decide)]
      have hf := fin_of (nanB_no c1) c2
      obtain ⟨s1, s2⟩ := sub_zero_iff a a hf hf
      rw [leB_zero (fin_max hf hf) s1, decide_eq_true (s2.2 rfl)]; rfl
    · rfl
theorem near_zero (a b : Nat) : (!nearV a b 0 || (FloatKind.f64.format.order a b == some .eq)) = true := by
  unfold nearV
  by_cases c1 : (nanB a || nanB b) = true
  · rw [if_pos c1]; rfl
  · rw [if_neg c1]
    by_cases c2 : (infB 0 a || infB 0 b) = true
    · rw [if_pos c2]; cases (FloatKind.f64.format.order a b == some .eq) <;> rfl
    · rw [if_neg c2]
      simp only [Bool.or_eq_true, not_or, Bool.not_eq_true] at c1 c2
      have fa := fin_of c1.1 c2.1
      have fb := fin_of c1.2 c2.2
      obtain ⟨s1, s2⟩ := sub_zero_iff a b fa fb
      rw [leB_zero (fin_max fa fb) s1]
      by_cases c : subB a b % 2^63 = 0
      · rw [decide_eq_true c, show FloatKind.f64.format.order a b = _ from order_num a b (not_nan_of_fin fa) (not_nan_of_fin fb), s2.1 c, Int.compare_eq_eq.2 rfl]; rfl
      · rw [decide_eq_false c]; rfl
set_option maxRecDepth 100000 in
theorem same_ok (w : World) (x y : Nat) (h : x = y ∨ (Nan x ∧ Nan y)) : Calls Tryd.prog 12 #[.float .f64 x, .float .f64 y] w fun e w' => e = .returned (.bool true) ∧ w = w' := by
  by_cases c : x = y
  · subst c
    clear h
    go_enter Tryd.func12, Tryd.ntmps12
    go_wp2_with fail
    go_ret
    exact ⟨rfl, rfl⟩
  · obtain ⟨h1, h2⟩ := h.resolve_left c
    have ce : ((x:Int) == (y:Int)) = false := by simp; omega
    have o1 : FloatKind.f64.format.order x x = none := order_nanl x x h1
    have o2 : FloatKind.f64.format.order y y = none := order_nanl y y h2
    clear h
    replace h1 := Lib.hid h1
    replace h2 := Lib.hid h2
    go_enter Tryd.func12, Tryd.ntmps12
    go_wp2_with fail
    go_ret
    exact ⟨rfl, rfl⟩
def k1000 : Nat := 4652007308841189376
def showR (x : Nat) : Option Int := (D.mul x k1000).bind rnd
def showT (x : Nat) : List UInt8 := if nanB x then [110, 97, 110] else if infB 1 x then [105, 110, 102] else if infB (-1) x then [45, 105, 110, 102] else match showR x with | none => [102, 97, 114] | some n => txtC n 3
def TxtPost (t : List UInt8) (w : World) (e : Ending) (w' : World) : Prop := e = .returned (.string (txt t)) ∧ Mod none_ w w'
theorem rnd_i64 {x : Nat} {n : Int} (h : rnd x = some n) : I64 n := by
  have h0 : ¬ (Nan x ∨ edge ≤ V x ∨ V x < -edge) := fun g => by rw [(rnd_none_iff x).2 g] at h; cases h
  have hx : Fin' x := by
    rcases tri x with g | g | g
    · exact g
    · have := inf_V x g; omega
    · exact absurd (.inl g) h0
  have hn : n = rneI (V x) := by
    unfold rnd at h
    unfold Nan at h0
    rw [if_neg h0] at h
    exact (Option.some.inj h).symm
  have hb := rneI_edge (X := V x) (by omega) (by omega)
  obtain ⟨z, h1, h2, h3, h4, h5, h6⟩ := round_fin x hx
  have hb2 : rneI (V x) < 9223372036854775808 := by
    refine mulU_lt.1 ?_
    have : V z < edge := by omega
    rw [h6] at this; exact this
  unfold I64; omega
theorem showR_of {x b : Nat} (h : floatBits .mul .f64 x k1000 = some b ∨ (floatBits .mul .f64 x k1000 = none ∧ Nan b)) : showR x = rnd b := by
  unfold showR
  rcases h with h | ⟨h, hn⟩
  · rw [show D.mul x k1000 = some b from h]; rfl
  · rw [show D.mul x k1000 = none from h, rnd_nan hn]; rfl
theorem showR_i64 {x : Nat} {n : Int} (h : showR x = some n) : I64 n := by
  unfold showR at h
  cases hb : D.mul x k1000 with
  | none => rw [hb] at h; cases h
  | some b => rw [hb] at h; exact rnd_i64 h
set_option maxRecDepth 100000 in
set_option maxHeartbeats 2000000 in
theorem show_ok (w : World) (x : Nat) (ht : (∀ n, showR x = some n → 100 ≤ mag n → Tab w)) : Calls Tryd.prog 14 #[.float .f64 x] w (TxtPost (showT x) w) := by
  have hn := Lib.hid (fun W => isnan_ok W x)
  have h1 := Lib.hid (fun W => isinf1_ok W x)
  have h2 := Lib.hid (fun W => isinfm_ok W x)
  unfold showT
  cases c1 : nanB x with
  | true =>
    rw [c1] at hn
    rw [if_pos rfl]
    replace c1 := Lib.hid c1
    replace ht := Lib.hid ht
    go_enter Tryd.func14, Tryd.ntmps14
    go_wp2_with fail
    refine (hn.out _).mono ?_
    rintro e w1 ⟨rfl, rfl⟩
    dsimp only
    go_wp2_with fail
    go_ret
    exact ⟨rfl, Mod.refl _ _⟩
  | false =>
    rw [c1] at hn
    rw [if_neg (by decide)]
    cases c2 : infB 1 x with
    | true =>
      rw [c2] at h1
      rw [if_pos rfl]
      replace c1 := Lib.hid c1
      replace c2 := Lib.hid c2
      replace ht := Lib.hid ht
      go_enter Tryd.func14, Tryd.ntmps14
      go_wp2_with fail
      refine (hn.out _).mono ?_
      rintro e w1 ⟨rfl, rfl⟩
      dsimp only
      go_wp2_with fail
      refine (h1.out _).mono ?_
      rintro e w1 ⟨rfl, rfl⟩
      dsimp only
      go_wp2_with fail
      go_ret
      exact ⟨rfl, Mod.refl _ _⟩
    | false =>
      rw [c2] at h1
      rw [if_neg (by decide)]
      cases c3 : infB (-1) x with
      | true =>
        rw [c3] at h2
        rw [if_pos rfl]
        replace c1 := Lib.hid c1
        replace c2 := Lib.hid c2
        replace c3 := Lib.hid c3
        replace ht := Lib.hid ht
        go_enter Tryd.func14, Tryd.ntmps14
        go_wp2_with fail
        refine (hn.out _).mono ?_
        rintro e w1 ⟨rfl, rfl⟩
        dsimp only
        go_wp2_with fail
        refine (h1.out _).mono ?_
        rintro e w1 ⟨rfl, rfl⟩
        dsimp only
        go_wp2_with fail
        refine (h2.out _).mono ?_
        rintro e w1 ⟨rfl, rfl⟩
        dsimp only
        go_wp2_with fail
        go_ret
        exact ⟨rfl, Mod.refl _ _⟩
      | false =>
        rw [c3] at h2
        rw [if_neg (by decide)]
        obtain ⟨b, k, hb, _, hrun⟩ := run_arith .mul (.inr (.inr (.inl rfl))) x k1000 w
        have hsr := showR_of hb
        have hc := Lib.hid (fun W => round_ok W b)
        rw [← hsr] at hc
        unfold k1000 at hrun
        cases hr : showR x with
        | none =>
          rw [hr] at hc
          replace c1 := Lib.hid c1
          replace c2 := Lib.hid c2
          replace c3 := Lib.hid c3
          replace ht := Lib.hid ht
          replace hb := Lib.hid hb
          replace hr := Lib.hid hr
          replace hsr := Lib.hid hsr
          go_enter Tryd.func14, Tryd.ntmps14
          go_wp2_with fail
          refine (hn.out _).mono ?_
          rintro e w1 ⟨rfl, rfl⟩
          dsimp only
          go_wp2_with fail
          refine (h1.out _).mono ?_
          rintro e w1 ⟨rfl, rfl⟩
          dsimp only
          go_wp2_with fail
          refine (h2.out _).mono ?_
          rintro e w1 ⟨rfl, rfl⟩
          dsimp only
          go_wp2_with fail
          refine (hc.out _).mono ?_
          rintro e w1 ⟨rfl, hm⟩
          dsimp only [rndR]
          replace hm := Lib.hid hm
          go_wp2_with fail
          go_ret
          exact ⟨rfl, ((Mod.refl _ _).drewN k).then hm.out (fun _ _ h => h)⟩
        | some n =>
          rw [hr] at hc
          have ht2 := Lib.hid (ht n hr)
          have hi := Lib.hid (showR_i64 hr)
          clear ht
          replace c1 := Lib.hid c1
          replace c2 := Lib.hid c2
          replace c3 := Lib.hid c3
          replace hb := Lib.hid hb
          replace hr := Lib.hid hr
          replace hsr := Lib.hid hsr
          go_enter Tryd.func14, Tryd.ntmps14
          go_wp2_with fail
          refine (hn.out _).mono ?_
          rintro e w1 ⟨rfl, rfl⟩
          dsimp only
          go_wp2_with fail
          refine (h1.out _).mono ?_
          rintro e w1 ⟨rfl, rfl⟩
          dsimp only
          go_wp2_with fail
          refine (h2.out _).mono ?_
          rintro e w1 ⟨rfl, rfl⟩
          dsimp only
          go_wp2_with fail
          refine (hc.out _).mono ?_
          rintro e w1 ⟨rfl, hm⟩
          dsimp only [rndR]
          have hm0 := Lib.hid (((Mod.refl none_ w).drewN k).then hm (fun _ _ h => h))
          clear hm
          go_wp2_with fail
          refine (text_ok _ n 3 hi.out (fun g => (ht2.out g).mod hm0.out)).mono ?_
          rintro e w2 ⟨rfl, hm⟩
          dsimp only
          have hm1 := Lib.hid (hm0.out.then hm (fun _ _ h => h))
          clear hm hm0
          go_wp2_with fail
          go_ret
          exact ⟨rfl, hm1.out⟩
set_option maxRecDepth 100000 in
set_option maxHeartbeats 2000000 in
theorem rshow_ok (w : World) (x : Nat) : Calls Tryd.prog 15 #[.float .f64 x] w (TxtPost (showT x) w) := by
  have h1 := Lib.hid (fun W => isinf1_ok W x)
  have h2 := Lib.hid (fun W => isinfm_ok W x)
  unfold showT
  by_cases n1 : Nan x
  · have o : FloatKind.f64.format.order x x = none := order_nanl x x n1
    rw [nanB_yes n1, if_pos rfl]
    replace n1 := Lib.hid n1
    go_enter Tryd.func15, Tryd.ntmps15
    go_wp2_with fail
    go_ret
    exact ⟨rfl, Mod.refl _ _⟩
  · have o := order_self x n1
    rw [nanB_no n1, if_neg (by decide)]
    cases c2 : infB 1 x with
    | true =>
      rw [c2] at h1
      rw [if_pos rfl]
      replace n1 := Lib.hid n1
      replace c2 := Lib.hid c2
      go_enter Tryd.func15, Tryd.ntmps15
      go_wp2_with fail
      refine (h1.out _).mono ?_
      rintro e w1 ⟨rfl, rfl⟩
      dsimp only
      go_wp2_with fail
      go_ret
      exact ⟨rfl, Mod.refl _ _⟩
    | false =>
      rw [c2] at h1
      rw [if_neg (by decide)]
      cases c3 : infB (-1) x with
      | true =>
        rw [c3] at h2
        rw [if_pos rfl]
        replace n1 := Lib.hid n1
        replace c2 := Lib.hid c2
        replace c3 := Lib.hid c3
        go_enter Tryd.func15, Tryd.ntmps15
        go_wp2_with fail
        refine (h1.out _).mono ?_
        rintro e w1 ⟨rfl, rfl⟩
        dsimp only
        go_wp2_with fail
        refine (h2.out _).mono ?_
        rintro e w1 ⟨rfl, rfl⟩
        dsimp only
        go_wp2_with fail
        go_ret
        exact ⟨rfl, Mod.refl _ _⟩
      | false =>
        rw [c3] at h2
        rw [if_neg (by decide)]
        obtain ⟨b, k, hb, _, hrun⟩ := run_arith .mul (.inr (.inr (.inl rfl))) x k1000 w
        have hsr := showR_of hb
        have hc := Lib.hid (fun W => rround_ok W b)
        rw [← hsr] at hc
        unfold k1000 at hrun
        cases hr : showR x with
        | none =>
          rw [hr] at hc
          replace n1 := Lib.hid n1
          replace c2 := Lib.hid c2
          replace c3 := Lib.hid c3
          replace hb := Lib.hid hb
          replace hr := Lib.hid hr
          replace hsr := Lib.hid hsr
          go_enter Tryd.func15, Tryd.ntmps15
          go_wp2_with fail
          refine (h1.out _).mono ?_
          rintro e w1 ⟨rfl, rfl⟩
          dsimp only
          go_wp2_with fail
          refine (h2.out _).mono ?_
          rintro e w1 ⟨rfl, rfl⟩
          dsimp only
          go_wp2_with fail
          refine (hc.out _).mono ?_
          rintro e w1 ⟨rfl, hm⟩
          dsimp only [rndR]
          replace hm := Lib.hid hm
          go_wp2_with fail
          go_ret
          exact ⟨rfl, ((Mod.refl _ _).drewN k).then hm.out (fun _ _ h => h)⟩
        | some n =>
          rw [hr] at hc
          have hi := Lib.hid (showR_i64 hr)
          replace n1 := Lib.hid n1
          replace c2 := Lib.hid c2
          replace c3 := Lib.hid c3
          replace hb := Lib.hid hb
          replace hr := Lib.hid hr
          replace hsr := Lib.hid hsr
          go_enter Tryd.func15, Tryd.ntmps15
          go_wp2_with fail
          refine (h1.out _).mono ?_
          rintro e w1 ⟨rfl, rfl⟩
          dsimp only
          go_wp2_with fail
          refine (h2.out _).mono ?_
          rintro e w1 ⟨rfl, rfl⟩
          dsimp only
          go_wp2_with fail
          refine (hc.out _).mono ?_
          rintro e w1 ⟨rfl, hm⟩
          dsimp only [rndR]
          have hm0 := Lib.hid (((Mod.refl none_ w).drewN k).then hm (fun _ _ h => h))
          clear hm
          go_wp2_with fail
          refine (rtext_ok _ n 3 hi.out).mono ?_
          rintro e w2 ⟨rfl, hm⟩
          dsimp only
          have hm1 := Lib.hid (hm0.out.then hm (fun _ _ h => h))
          clear hm hm0
          go_wp2_with fail
          go_ret
          exact ⟨rfl, hm1.out⟩
end Go.Proofs.YtlikknamliamiaaDoor
