/-
  CoinsDigits: the plain law and the walk. The table of powers of ten reads as the program's text lays it, and the variable of the library's search in place 0 is a number.
-/
import Derived.Test.YthoedngacopaiaaDoorCoinBck
namespace Go.Proofs.YthoedngacopaiaaDoor
set_option linter.unusedVariables false
open Go.RowKit
theorem dec_ten (u : Nat) (h : 1 ≤ u) : Lib.decDigits (10 * u) = Lib.decDigits u ++ [48] := by
  rw [Lib.decDigits, dif_neg (by omega), show 10 * u / 10 = u by omega, show 10 * u % 10 = 0 by omega]
  rfl
theorem pad_ten (k u : Nat) : padD (k + 1) (Lib.decDigits (10 * u)) = padD k (Lib.decDigits u) ++ [48] := by
  by_cases h : u = 0
  · subst h
    have e : Lib.decDigits 0 = [48] := Lib.decDigits_one (by omega)
    unfold padD
    rw [show 10 * 0 = 0 by omega, e]
    simp only [List.length_singleton, Nat.add_sub_cancel]
    rw [← List.replicate_succ', ← List.replicate_succ', ← List.replicate_succ']
  · rw [dec_ten u (by omega)]
    unfold padD
    rw [List.length_append, List.length_singleton, show k + 1 + 1 - ((Lib.decDigits u).length + 1) = k + 1 - (Lib.decDigits u).length by omega, List.append_assoc]
theorem txtN_ten (k u : Nat) : txtN (10 * u) (k + 1) = txtN u k ++ (if k = 0 then [46, 48] else [48]) := by
  unfold txtN
  rw [pad_ten]
  have hlen : k + 1 ≤ (padD k (Lib.decDigits u)).length := by unfold padD; rw [List.length_append, List.length_replicate]; omega
  generalize padD k (Lib.decDigits u) = P at hlen
  unfold dotted
  rw [if_pos (by omega), List.length_append, List.length_singleton, show P.length + 1 - (k + 1) = P.length - k by omega, List.take_append_of_le_length (by omega), List.drop_append_of_le_length (by omega)]
  by_cases h : k = 0
  · subst h
    rw [if_neg (by omega), if_pos rfl, Nat.sub_zero, List.take_length, List.drop_length]; rfl
  · rw [if_pos (by omega), if_neg h]; simp
theorem txtC_ten (a : Int) (k : Nat) : txtC (a * 10) (k + 1) = txtC a k ++ (if k = 0 then [46, 48] else [48]) := by
  have hm : mag (a * 10) = 10 * mag a := by unfold mag; omega
  unfold txtC
  rw [hm, txtN_ten]
  by_cases h : a < 0
  · rw [if_pos (by omega), if_pos h]; rfl
  · rw [if_neg (by omega), if_neg h]
theorem clamp_nat (k : Nat) (h : k ≤ 6) : clampD (k : Int) = k := by unfold clampD; omega
set_option maxRecDepth 100000 in
set_option maxHeartbeats 4000000 in
theorem coinsDigits_walk (w : World) (a n : Int) (ha : I64 a) (hG : Gw w) : Calls Tryd.prog 7 #[.int .i64 a, .int .i64 n] w fun e w' => e = .returned (.bool true) ∧ Below w.heap.size w w' := by
  have hl := Lib.hid (lives_ok w hG)
  obtain ⟨k, hk, u1, u2, u3⟩ := umod_lit n 6 (by omega) (by omega)
  rw [show ((6 : Nat) : Int) = 6 from rfl] at u1 u2 u3
  obtain ⟨t, q, e1⟩ : ∃ t q, sumR (a * 10) = (t, q) := ⟨_, _, rfl⟩
  have t1 := Lib.hid (fun W (e : Ending) (w' : World) (h : SumPost (sumR (a * 10)) W e w') => h.of e1)
  by_cases hi : inI (a * 10) = true
  · rw [sumR_yes hi] at e1
    injection e1 with e1 e2
    subst e1 e2
    have htI : I64 (a * 10) := inI_yes.1 hi
    have hx : ∀ W, Tab W → Calls Tryd.prog 14 #[.int .i64 (a * 10), .int .i64 ((k : Int) + 1)] W fun e w' => e = .returned (.string (txt (txtC a k ++ (if k = 0 then [46, 48] else [48])))) ∧ Mod none_ W w' := fun W hW => by
      refine (text_ok W (a * 10) _ htI (fun _ => hW)).mono fun e w' h => ?_
      rw [show clampD ((k : Int) + 1) = k + 1 from clamp_nat (k + 1) (by omega), txtC_ten] at h
      exact h
    have hs : ∀ W, Tab W → Calls Tryd.prog 14 #[.int .i64 a, .int .i64 (k : Int)] W fun e w' => e = .returned (.string (txt (txtC a k))) ∧ Mod none_ W w' := fun W hW => by
      refine (text_ok W a _ ha (fun _ => hW)).mono fun e w' h => ?_
      rw [clamp_nat k (by omega)] at h
      exact h
    have htl := txtC_len htI (show k + 1 ≤ 6 by omega)
    have htl2 := txtC_len ha (show k ≤ 6 by omega)
    have hr : ∀ W, Gw W → Calls Tryd.prog 12 #[.string (txt (txtC a k ++ (if k = 0 then [46, 48] else [48]))), .int .i64 ((k : Int) + 1)] W fun e w' => e = .returned (.tuple #[.int .i64 (a * 10), .int .i64 0]) ∧ Mod none_ W w' := fun W hW => by
      obtain ⟨g1, m, g2⟩ := hW
      rw [← txtC_ten]
      refine (read_ok W (txtC (a * 10) (k + 1)) _ m (by omega) g1 g2).mono fun e w' h => ?_
      rw [show clampD ((k : Int) + 1) = k + 1 from clamp_nat (k + 1) (by omega)] at h
      exact h.of htI rfl
    obtain ⟨ten, hten⟩ : ∃ ten, ten = a * 10 := ⟨_, rfl⟩
    have t1 : Hid (∀ W (e : Ending) (w' : World), SumPost (sumR (a * 10)) W e w' → e = .returned (.tuple #[.int .i64 ten, .int .i64 0]) ∧ W = w') := Lib.hid (fun W e w' h => by rw [hten]; exact h.of (sumR_yes hi))
    rw [← hten] at hx hr
    obtain ⟨S, hS⟩ : ∃ S, S = txtC a k := ⟨_, rfl⟩
    rw [← hS] at hx hs hr htl2
    have happ1 : txt S ++ (⟨#[48]⟩ : ByteArray) = txt (S ++ [48]) := txt_app S [48]
    have happ2 : txt S ++ (⟨#[46, 48]⟩ : ByteArray) = txt (S ++ [46, 48]) := txt_app S [46, 48]
    have hsz := txt_size_
    clear htl hi htI
    by_cases hk0 : k = 0
    · simp only [if_pos hk0] at hx hr
      have hkz : ((k : Int) == 0) = true := by simp; omega
      have hne : (S ++ [46, 48] == S ++ [48]) = false := by simp
      clear hk
      replace ha := Lib.hid ha
      replace hG := Lib.hid hG
      replace hx := Lib.hid hx
      replace hs := Lib.hid hs
      replace hr := Lib.hid hr
      replace hten := Lib.hid hten
      replace hS := Lib.hid hS
      replace hk0 := Lib.hid hk0
      go_enter Tryd.func7, Tryd.ntmps7
      go_wp2_with fail
      refine hl.out.mono ?_
      rintro e w1 ⟨rfl, hm1⟩
      dsimp only
      have hG1 := Lib.hid (hG.out.mod hm1)
      replace hm1 := Lib.hid hm1
      go_wp2_with fail
      (with_reducible refine (times_ok w1 a 10 ha.out (i64_lit _ (by omega) (by omega))).mono ?_)
      rintro e w2 hpp
      obtain ⟨rfl, rfl⟩ := t1.out _ _ _ hpp
      clear hpp
      dsimp only
      go_wp2_with fail
      (with_reducible refine (hx.out w1 hG1.out.tab).mono ?_)
      rintro e w2 ⟨rfl, hm2⟩
      dsimp only
      have hG2 := Lib.hid (hG1.out.mod hm2)
      replace hm2 := Lib.hid hm2
      go_wp2_with fail
      (with_reducible refine (hr.out w2 hG2.out).mono ?_)
      rintro e w3 ⟨rfl, hm3⟩
      dsimp only
      have hG3 := Lib.hid (hG2.out.mod hm3)
      replace hm3 := Lib.hid hm3
      go_wp2_with fail
      (with_reducible refine (hs.out w3 hG3.out.tab).mono ?_)
      rintro e w4 ⟨rfl, hm4⟩
      dsimp only
      have hG4 := Lib.hid (hG3.out.mod hm4)
      replace hm4 := Lib.hid hm4
      go_wp2_with fail
      (with_reducible refine (hx.out w4 hG4.out.tab).mono ?_)
      rintro e w5 ⟨rfl, hm5⟩
      dsimp only
      replace hm5 := Lib.hid hm5
      go_wp2_with fail
      go_ret
      exact ⟨rfl, ((((hm1.out.trans hm2.out).trans hm3.out).trans hm4.out).trans hm5.out).below0⟩
    · simp only [if_neg hk0] at hx hr
      clear hk
      replace ha := Lib.hid ha
      replace hG := Lib.hid hG
      replace hx := Lib.hid hx
      replace hs := Lib.hid hs
      replace hr := Lib.hid hr
      replace hten := Lib.hid hten
      replace hS := Lib.hid hS
      replace hk0 := Lib.hid hk0
      go_enter Tryd.func7, Tryd.ntmps7
      go_wp2_with fail
      refine hl.out.mono ?_
      rintro e w1 ⟨rfl, hm1⟩
      dsimp only
      have hG1 := Lib.hid (hG.out.mod hm1)
      replace hm1 := Lib.hid hm1
      go_wp2_with fail
      (with_reducible refine (times_ok w1 a 10 ha.out (i64_lit _ (by omega) (by omega))).mono ?_)
      rintro e w2 hpp
      obtain ⟨rfl, rfl⟩ := t1.out _ _ _ hpp
      clear hpp
      dsimp only
      go_wp2_with fail
      (with_reducible refine (hx.out w1 hG1.out.tab).mono ?_)
      rintro e w2 ⟨rfl, hm2⟩
      dsimp only
      have hG2 := Lib.hid (hG1.out.mod hm2)
      replace hm2 := Lib.hid hm2
      go_wp2_with fail
      (with_reducible refine (hr.out w2 hG2.out).mono ?_)
      rintro e w3 ⟨rfl, hm3⟩
      dsimp only
      have hG3 := Lib.hid (hG2.out.mod hm3)
      replace hm3 := Lib.hid hm3
      go_wp2_with fail
      (with_reducible refine (hs.out w3 hG3.out.tab).mono ?_)
      rintro e w4 ⟨rfl, hm4⟩
      dsimp only
      have hG4 := Lib.hid (hG3.out.mod hm4)
      replace hm4 := Lib.hid hm4
      go_wp2_with fail
      (with_reducible refine (hx.out w4 hG4.out.tab).mono ?_)
      rintro e w5 ⟨rfl, hm5⟩
      dsimp only
      replace hm5 := Lib.hid hm5
      go_wp2_with fail
      go_ret
      exact ⟨rfl, ((((hm1.out.trans hm2.out).trans hm3.out).trans hm4.out).trans hm5.out).below0⟩
  · have hi2 : inI (a * 10) = false := by simpa using hi
    rw [sumR_no hi2] at e1
    injection e1 with e1 e2
    subst e1 e2
    have hbig : 100000000000000000 < a ∨ a < -100000000000000000 := by
      have : ¬ (-9223372036854775808 ≤ a * 10 ∧ a * 10 ≤ 9223372036854775807) := fun h => hi (inI_yes.2 h)
      omega
    clear hi hi2
    replace ha := Lib.hid ha
    replace hG := Lib.hid hG
    rcases hbig with hb | hb
    all_goals
      go_enter Tryd.func7, Tryd.ntmps7
      go_wp2_with fail
      refine hl.out.mono ?_
      rintro e w1 ⟨rfl, hm1⟩
      dsimp only
      have hG1 := Lib.hid (hG.out.mod hm1)
      replace hm1 := Lib.hid hm1
      go_wp2_with fail
      (with_reducible refine (times_ok w1 a 10 ha.out (i64_lit _ (by omega) (by omega))).mono ?_)
      rintro e w2 hpp
      obtain ⟨rfl, rfl⟩ := t1.out _ _ _ hpp
      clear hpp
      dsimp only
      go_wp2_with fail
      go_ret
      exact ⟨rfl, hm1.out.below0⟩
end Go.Proofs.YthoedngacopaiaaDoor
