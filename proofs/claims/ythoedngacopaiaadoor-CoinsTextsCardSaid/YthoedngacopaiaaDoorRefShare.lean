/-
  The reference of chapter 1: Share. No condition.
-/
import Derived.Test.YthoedngacopaiaaDoorCoinShare
namespace Go.Proofs.YthoedngacopaiaaDoor
set_option linter.unusedVariables false
open Go.RowKit
/-- What is left of a behind j parts. -/
def remA (a : Int) (n j : Nat) : Int := ((n : Int) - (j : Int)) * (a / (n : Int)) + max (a % (n : Int) - (j : Int)) 0
def remOk (a : Int) (n : Nat) (v : Int) : Prop := (0 ≤ a / (n : Int) → 0 ≤ v ∧ v ≤ a) ∧ (a / (n : Int) < 0 → a ≤ v ∧ v ≤ 0)
theorem remA_zero (a : Int) (n : Nat) (h1 : 1 ≤ n) : remA a n 0 = a := by
  unfold remA
  have f := Int.emod_add_mul_ediv a (n : Int)
  have m0 := Int.emod_nonneg a (b := (n : Int)) (by omega)
  simp only [Int.natCast_zero, Int.sub_zero]
  omega
theorem remOk_zero (a : Int) (n : Nat) (h1 : 1 ≤ n) : remOk a n a := by
  have f := Int.emod_add_mul_ediv a (n : Int)
  have m0 := Int.emod_nonneg a (b := (n : Int)) (by omega)
  have m1 := Int.emod_lt_of_pos a (show (0 : Int) < (n : Int) by omega)
  constructor
  · intro h
    have := Int.mul_nonneg (show (0 : Int) ≤ (n : Int) by omega) h
    omega
  · intro h
    have := Int.mul_nonneg (show (0 : Int) ≤ (n : Int) by omega) (show (0 : Int) ≤ -(a / (n : Int)) - 1 by omega)
    rw [Int.mul_sub, Int.mul_neg] at this
    omega
theorem rem_step {a : Int} {n j : Nat} (h1 : 1 ≤ n) (hj : j < n) (hok : remOk a n (remA a n j)) :
    remA a n j / ((n : Int) - (j : Int)) = a / (n : Int) ∧ remA a n j % ((n : Int) - (j : Int)) = max (a % (n : Int) - (j : Int)) 0 ∧
    part a n j = a / (n : Int) + (if 0 < max (a % (n : Int) - (j : Int)) 0 then 1 else 0) ∧ remA a n (j + 1) = remA a n j - part a n j ∧ remOk a n (remA a n (j + 1)) := by
  have m0 := Int.emod_nonneg a (b := (n : Int)) (by omega)
  have m1 := Int.emod_lt_of_pos a (show (0 : Int) < (n : Int) by omega)
  have hp : part a n j = a / (n : Int) + (if 0 < max (a % (n : Int) - (j : Int)) 0 then 1 else 0) := by
    unfold part
    by_cases h : (j : Int) < a % (n : Int)
    · rw [if_pos h, if_pos (by omega)]
    · rw [if_neg h, if_neg (by omega)]
  have hr : remA a n (j + 1) = remA a n j - part a n j := by
    rw [hp]
    unfold remA
    have e : ((n : Int) - ((j + 1 : Nat) : Int)) * (a / (n : Int)) = ((n : Int) - (j : Int)) * (a / (n : Int)) - a / (n : Int) := by
      rw [show ((n : Int) - ((j + 1 : Nat) : Int)) = ((n : Int) - (j : Int)) - 1 by omega, Int.sub_mul, Int.one_mul]
    rw [e]
    split <;> omega
  refine ⟨?_, ?_, hp, hr, ?_⟩
  · unfold remA
    rw [Int.add_comm, Int.add_mul_ediv_left _ _ (by omega), Int.ediv_eq_zero_of_lt (by omega) (by omega)]; omega
  · unfold remA
    rw [Int.add_comm, Int.add_mul_emod_self_left, Int.emod_eq_of_lt (by omega) (by omega)]
  · have hv : remA a n (j + 1) = ((n : Int) - ((j + 1 : Nat) : Int)) * (a / (n : Int)) + max (a % (n : Int) - ((j + 1 : Nat) : Int)) 0 := rfl
    obtain ⟨k1, k2⟩ := hok
    constructor
    · intro h
      have := k1 h
      have h5 := Int.mul_nonneg (show (0 : Int) ≤ (n : Int) - ((j + 1 : Nat) : Int) by omega) h
      rw [hr]
      have h6 : 0 ≤ part a n j := by rw [hp]; split <;> omega
      rw [← hr]
      constructor
      · omega
      · rw [hr]; omega
    · intro h
      have := k2 h
      have h5 := Int.mul_nonneg (show (0 : Int) ≤ (n : Int) - ((j + 1 : Nat) : Int) by omega) (show (0 : Int) ≤ -(a / (n : Int)) - 1 by omega)
      rw [Int.mul_sub, Int.mul_neg] at h5
      have h6 : part a n j ≤ 0 := by rw [hp]; split <;> omega
      constructor
      · rw [hr]; omega
      · rw [hv]; omega
def RsRel (w : World) (a : Int) (n j : Nat) (av ov : Value) (wr : World) : Prop :=
  av = .int .i64 (remA a n j) ∧ remOk a n (remA a n j) ∧ ∃ A c, ov = .slice A j c ∧ OwI wr A j c ((shareL a n).take j) ∧ Fresh w A ∧ Mod none_ w wr
set_option maxRecDepth 100000 in
set_option maxHeartbeats 2000000 in
theorem rshare_yes (w : World) (a : Int) (n : Nat) (ha : I64 a) (h1 : 1 ≤ n) (h2 : n ≤ 100) : Calls Tryd.prog 19 #[.int .i64 a, .int .i64 (n : Int)] w fun e w' =>
    ∃ A c, e = .returned (.tuple #[.slice A n c, .int .i64 0]) ∧ OwI w' A n c (shareL a n) ∧ Fresh w A ∧ Mod none_ w w' := by
  replace ha := Lib.hid ha
  go_enter Tryd.func19, Tryd.ntmps19
  go_wp2_with fail
  go_loopw [0, 6, 7, 8, 9] (fun av ov x _ _ wr => ∃ j : Nat, x = .int .i64 j ∧ j ≤ n ∧ RsRel w a n j av ov wr) (fun _ _ x _ _ _ => n - (intOf x).toNat)
  case atStart => exact ⟨0, rfl, by omega, by rw [remA_zero a n h1], by rw [remA_zero a n h1]; exact remOk_zero a n h1, none, 0, rfl, by rw [List.take_zero]; exact Ow.nil _ _ _, (fun _ h => by cases h), Mod.refl _ w⟩
  case round =>
    obtain ⟨j, rfl, hj, rfl, hok, A, c, rfl, ho, hf, hm⟩ := hrel
    by_cases hlt : j < n
    · obtain ⟨p1, p2, p3, p4, p5⟩ := rem_step h1 hlt hok
      have hjl : j < (shareL a n).length := by simp [shareL, hlt]
      have htk : (shareL a n).take (j + 1) = (shareL a n).take j ++ [part a n j] := by
        rw [List.take_succ_eq_append_getElem hjl]; simp [shareL]
      obtain ⟨d, hd⟩ : ∃ d : Nat, n = j + d := ⟨n - j, by omega⟩
      have hd1 : 1 ≤ d := by omega
      have hvI : I64 (remA a n j) := by
        have := ha.out.1; have := ha.out.2
        unfold I64
        by_cases h0 : 0 ≤ a / (n : Int)
        · have := hok.1 h0; omega
        · have := hok.2 (by omega); omega
      have hvI2 : I64 (remA a n (j + 1)) := by
        have := ha.out.1; have := ha.out.2
        unfold I64
        by_cases h0 : 0 ≤ a / (n : Int)
        · have := p5.1 h0; omega
        · have := p5.2 (by omega); omega
      rw [show (n : Int) - (j : Int) = (d : Int) by omega] at p1 p2
      obtain ⟨V, hV⟩ : ∃ V, remA a n j = V := ⟨_, rfl⟩
      obtain ⟨V2, hV2⟩ : ∃ V2, remA a n (j + 1) = V2 := ⟨_, rfl⟩
      rw [hV] at p1 p2 hvI p4
      rw [hV2] at p4 p5 hvI2
      obtain ⟨q, r, hq, hr, q1, q2, r1, r2, r3, r4⟩ := tdiv_facts V d hvI hd1
      obtain ⟨P, hP⟩ : ∃ P, part a n j = P := ⟨_, rfl⟩
      rw [hP] at p3 p4 htk
      have hcase : (0 < r ∧ q + 1 = P) ∨ (¬ 0 < r ∧ q = P) := by
        by_cases h : 0 < r
        · have := r4 (by omega)
          refine .inl ⟨h, ?_⟩
          rw [p3, if_pos (by omega)]; omega
        · refine .inr ⟨h, ?_⟩
          by_cases h' : r < 0
          · have := r3 h'
            rw [p3, if_pos (by omega)]; omega
          · have := r4 (by omega)
            rw [p3, if_neg (by omega)]; omega
      have hVP : V - P = V2 := p4.symm
      have hPb : -9223372036854775808 ≤ P ∧ P ≤ 9223372036854775807 := by
        have h10 := hvI.1; have h11 := hvI.2
        have h12 := hvI2.1; have h13 := hvI2.2
        rw [hV] at hok
        have m0 := Int.emod_nonneg a (b := (n : Int)) (by omega)
        by_cases h0 : 0 ≤ a / (n : Int)
        · have h14 := hok.1 h0; have h15 := p5.1 h0
          have h16 : 0 ≤ P := by rw [p3]; split <;> omega
          omega
        · have h14 := hok.2 (by omega); have h15 := p5.2 (by omega)
          have h16 : P ≤ 0 := by rw [p3]; split <;> omega
          omega
      obtain ⟨pb1, pb2⟩ := hPb
      obtain ⟨v1, v2⟩ := hvI
      obtain ⟨v3, v4⟩ := hvI2
      rw [hV]
      have hnj : (n : Int) - (j : Int) = (d : Int) := by omega
      clear p1 p2 p3 p4 r3 r4 hjl hok
      replace ho := Lib.hid ho
      replace hf := Lib.hid hf
      replace hm := Lib.hid hm
      replace hV := Lib.hid hV
      replace hV2 := Lib.hid hV2
      replace p5 := Lib.hid p5
      replace htk := Lib.hid htk
      replace hP := Lib.hid hP
      replace hd := Lib.hid hd
      rcases hcase with ⟨hr0, hq0⟩ | ⟨hr0, hq0⟩
      all_goals
        go_wp2_with (at_builtin; go_loud (refine app64 rfl (.tmp 33) (.tmp 35) rfl rfl (ho.out.mod0 ((Mod.refl none_ _).alloc _)) rfl (rdi_one _ _ _) (by omega) ?_; intro A' c' w' ho' hm' hA'; replace ho' := Lib.hid ho'; replace hm' := Lib.hid hm'; replace hA' := Lib.hid hA'))
        go_roundw
        case rel => exact ⟨j + 1, by go_num, by omega, by rw [hV2.out], by rw [hV2.out]; exact p5.out, A', c', rfl, by rw [htk.out]; exact ho'.out, Fresh.app hf.out (hm.out.alloc _).size hA'.out, (hm.out.alloc _).app hf.out hm'.out⟩
        case measure => simp [intOf]; omega
    · have hjn : j = n := by omega
      subst hjn
      have hall : (shareL a j).take j = shareL a j := List.take_of_length_le (by simp [shareL])
      rw [hall] at ho
      clear hall hok
      replace ho := Lib.hid ho
      replace hf := Lib.hid hf
      replace hm := Lib.hid hm
      go_wp2_with fail
      go_ret2
      exact ⟨_, _, rfl, ho.out, hf.out, hm.out⟩
set_option maxRecDepth 100000 in
theorem rshare_no (w : World) (a p : Int) (h : ¬ (1 ≤ p ∧ p ≤ 100)) : Calls Tryd.prog 19 #[.int .i64 a, .int .i64 p] w fun e w' => e = .returned (.tuple #[.slice none 0 0, .int .i64 1]) ∧ w = w' := by
  by_cases h1 : p < 1
  · clear h
    go_enter Tryd.func19, Tryd.ntmps19
    go_wp2
    go_ret2
    exact ⟨rfl, rfl⟩
  · have h2 : 100 < p := by omega
    clear h
    go_enter Tryd.func19, Tryd.ntmps19
    go_wp2
    go_ret2
    exact ⟨rfl, rfl⟩
end Go.Proofs.YthoedngacopaiaaDoor
