/-
  CoinsBack: the walk. The table of powers of ten reads as the program's text lays it, and the variable of the library's search in place 0 is a number.
-/
import Derived.Test.YthoedngacopaiaaDoorCoinLives
import Derived.Test.YthoedngacopaiaaDoorRefShare
import Derived.Test.YthoedngacopaiaaDoorCoinTms
import Derived.Deep.QuietTactic
namespace Go.Proofs.YthoedngacopaiaaDoor
set_option linter.unusedVariables false
open Go.RowKit
theorem Gw.tab {w : World} (h : Gw w) : Tab w := h.1
theorem OwI.rdi {w : World} {A : Option Addr} {n c : Nat} {l : List Int} (h : OwI w A n c l) : RdI w A n l := Ow.rd h
theorem share_sum (a : Int) (n : Nat) (h1 : 1 ≤ n) : isum (shareL a n) = a := by
  have key : ∀ j, j ≤ n → isum ((shareL a n).take j) + remA a n j = a ∧ remOk a n (remA a n j) := by
    intro j
    induction j with
    | zero => intro _; rw [remA_zero a n h1]; exact ⟨by simp [isum_nil], remOk_zero a n h1⟩
    | succ j ih =>
      intro hj
      obtain ⟨e1, e2⟩ := ih (by omega)
      obtain ⟨_, _, _, p4, p5⟩ := rem_step h1 (show j < n by omega) e2
      have hjl : j < (shareL a n).length := by simp [shareL]; omega
      refine ⟨?_, p5⟩
      rw [List.take_succ_eq_append_getElem hjl, isum_append, isum_cons, isum_nil, p4]
      have : (shareL a n)[j] = part a n j := by simp [shareL]
      rw [this]
      omega
  have := (key n (Nat.le_refl _)).1
  rw [List.take_of_length_le (by simp [shareL])] at this
  have m0 := Int.emod_nonneg a (b := (n : Int)) (by omega)
  have m1 := Int.emod_lt_of_pos a (show (0 : Int) < (n : Int) by omega)
  unfold remA at this
  rw [show ((n : Int) - (n : Int)) = 0 by omega, Int.zero_mul] at this
  omega
theorem part_in {a : Int} {n : Nat} (ha : I64 a) (h1 : 1 ≤ n) (i : Nat) : I64 (part a n i) := by
  obtain ⟨a1, a2⟩ := ha
  have f := Int.emod_add_mul_ediv a (n : Int)
  have m0 := Int.emod_nonneg a (b := (n : Int)) (by omega)
  have m1 := Int.emod_lt_of_pos a (show (0 : Int) < (n : Int) by omega)
  unfold I64 part
  by_cases hn : n = 1
  · subst hn
    have e : a % ((1 : Nat) : Int) = 0 := by omega
    rw [e, if_neg (by omega)]
    omega
  · rcases Int.lt_or_le (a / (n : Int)) 0 with h | h
    · have := Int.mul_le_mul_of_nonneg_right (show (2 : Int) ≤ (n : Int) by omega) (show 0 ≤ -(a / (n : Int)) - 1 by omega)
      rw [Int.mul_sub, Int.mul_sub, Int.mul_neg, Int.mul_neg] at this
      split <;> omega
    · have := Int.mul_le_mul_of_nonneg_right (show (2 : Int) ≤ (n : Int) by omega) h
      split <;> omega
theorem part_mono (a : Int) (n : Nat) {i j : Nat} (h : i ≤ j) : part a n j ≤ part a n i ∧ part a n i - part a n j ≤ 1 := by
  unfold part
  by_cases h1 : (j : Int) < a % (n : Int)
  · rw [if_pos h1, if_pos (by omega)]; omega
  · rw [if_neg h1]; split <;> omega
theorem part_get {a : Int} {n j : Nat} (h : j < (shareL a n).length) : (shareL a n)[j] = part a n j := by simp [shareL]
theorem share_mono {a : Int} {n i j : Nat} (hi : i < (shareL a n).length) (hj : j < (shareL a n).length) (h : i ≤ j) : (shareL a n)[j] ≤ (shareL a n)[i] ∧ (shareL a n)[i] - (shareL a n)[j] ≤ 1 := by
  rw [part_get hi, part_get hj]; exact part_mono a n h
theorem share_in {a : Int} {n : Nat} (ha : I64 a) (h1 : 1 ≤ n) : I64s (shareL a n) := by
  intro x hx
  unfold shareL at hx
  obtain ⟨i, _, rfl⟩ := List.mem_map.1 hx
  exact part_in ha h1 i
theorem txtC_len {a : Int} {d : Nat} (ha : I64 a) (hd : d ≤ 6) : (txtC a d).length ≤ 40 := by
  have hm := mag_le ha.1 ha.2
  have h1 : (Lib.decDigits (mag a)).length ≤ 20 := by rw [Lib.decDigits_length]; exact Lib.nDigits_le20 _ (by omega)
  have h2 : (padD d (Lib.decDigits (mag a))).length ≤ 30 := by unfold padD; rw [List.length_append, List.length_replicate]; omega
  have h3 : (txtN (mag a) d).length ≤ 39 := by
    unfold txtN dotted
    split
    · rw [List.length_append, List.length_cons, List.length_take, List.length_drop]; omega
    · omega
  unfold txtC
  split
  · rw [List.length_cons]; omega
  · omega
theorem clampD_le (x : Int) : clampD x ≤ 6 := by unfold clampD; omega
set_option maxRecDepth 100000 in
set_option maxHeartbeats 4000000 in
theorem coinsBack_walk (w : World) (a b n : Int) (ha : I64 a) (hb : I64 b) (hG : Gw w) : Calls Tryd.prog 8 #[.int .i64 a, .int .i64 b, .int .i64 n] w fun e w' => e = .returned (.bool true) ∧ Below w.heap.size w w' := by
  have hl := Lib.hid (lives_ok w hG)
  obtain ⟨k, hk, u1, u2, u3⟩ := umod_lit n 100 (by omega) (by omega)
  rw [show ((100 : Nat) : Int) = 100 from rfl] at u1 u2 u3
  obtain ⟨c, q1, e1⟩ : ∃ c q, sumR (a + b) = (c, q) := ⟨_, _, rfl⟩
  obtain ⟨d, q2, e2⟩ : ∃ d q, sumR (c - b) = (d, q) := ⟨_, _, rfl⟩
  have hcI : I64 c := by
    unfold sumR at e1
    cases hi : inI (a + b) with
    | true => rw [hi, if_pos rfl] at e1; injection e1 with e1 _; rw [← e1]; exact inI_yes.1 hi
    | false => rw [hi, if_neg (by decide)] at e1; injection e1 with e1 _; rw [← e1]; exact ⟨by omega, by omega⟩
  have hok : q1 = 0 → q2 = 0 ∧ d = a := by
    intro hq
    unfold sumR at e1
    cases hi : inI (a + b) with
    | false => rw [hi, if_neg (by decide)] at e1; injection e1 with _ e1; omega
    | true =>
      rw [hi, if_pos rfl] at e1
      injection e1 with e1 _
      rw [← e1, show a + b - b = a by omega, sumR_yes (inI_yes.2 ha)] at e2
      injection e2 with e2 e3
      exact ⟨e3.symm, e2.symm⟩
  have t1 := Lib.hid (fun W (e : Ending) (w' : World) (h : SumPost (sumR (a + b)) W e w') => h.of e1)
  have t2 := Lib.hid (fun W (e : Ending) (w' : World) (h : SumPost (sumR (c - b)) W e w') => h.of e2)
  have t3 := Lib.hid (fun W (e : Ending) (w' : World) (h : SumPost (sumR (isum (shareL a (k + 1)))) W e w') => by rw [share_sum a (k + 1) (by omega)] at h; exact h.of (sumR_yes (inI_yes.2 ha)))
  have hsh := fun W => share_yes W a (k + 1) ha (by omega) (by omega)
  have hki : (1 : Int) + (k : Int) = ((k + 1 : Nat) : Int) := by omega
  obtain ⟨p, hp⟩ : ∃ p, p = k + 1 := ⟨_, rfl⟩
  rw [← hp] at t3 hsh hki
  have hpb : 1 ≤ p ∧ p ≤ 100 := by omega
  obtain ⟨hp1, hp2⟩ := hpb
  have hin := share_in ha hp1
  have htl := txtC_len ha (clampD_le n)
  have hrd : ∀ W, Gw W → Calls Tryd.prog 12 #[.string (txt (txtC a (clampD n))), .int .i64 n] W fun e w' => e = .returned (.tuple #[.int .i64 a, .int .i64 0]) ∧ Mod none_ W w' := fun W hW => by
    obtain ⟨g1, m, g2⟩ := hW
    exact (read_ok W (txtC a (clampD n)) n m (by omega) g1 g2).mono fun e w' h => h.of ha rfl
  clear e1 e2 hp hk htl
  replace ha := Lib.hid ha
  replace hb := Lib.hid hb
  replace hG := Lib.hid hG
  replace hcI := Lib.hid hcI
  replace hok := Lib.hid hok
  replace hsh := Lib.hid hsh
  replace hin := Lib.hid hin
  replace hrd := Lib.hid hrd
  go_enter Tryd.func8, Tryd.ntmps8
  go_wp2_with fail
  refine hl.out.mono ?_
  rintro e w1 ⟨rfl, hm1⟩
  dsimp only
  have hG1 := Lib.hid (hG.out.mod hm1)
  replace hm1 := Lib.hid hm1
  go_wp2_with fail
  refine (add_ok w1 a b ha.out hb.out).mono ?_
  rintro e w2 hpp
  obtain ⟨rfl, rfl⟩ := t1.out _ _ _ hpp
  clear hpp
  dsimp only
  go_wp2_with fail
  refine (less_ok w1 c b hcI.out hb.out).mono ?_
  rintro e w2 hpp
  obtain ⟨rfl, rfl⟩ := t2.out _ _ _ hpp
  clear hpp
  dsimp only
  have hcase : (q1 = 0 ∧ q2 = 0 ∧ d = a) ∨ ¬ q1 = 0 := by
    by_cases h : q1 = 0
    · exact .inl ⟨h, hok.out h⟩
    · exact .inr h
  have hq1 : ((q1 : Int) == 0) = true ∧ q2 = 0 ∧ d = a ∨ ((q1 : Int) == 0) = false := by
    rcases hcase with ⟨h1, h2, h3⟩ | h
    · exact .inl ⟨by simp; omega, h2, h3⟩
    · exact .inr (by simp; omega)
  clear hcase
  rcases hq1 with ⟨hq, rfl, rfl⟩ | hq
  all_goals
    go_wp2_with fail
    (with_reducible refine (text_ok w1 _ n ha.out (fun _ => hG1.out.tab)).mono ?_)
    rintro e w3 ⟨rfl, hm3⟩
    dsimp only
    have hG3 := Lib.hid (hG1.out.mod hm3)
    replace hm3 := Lib.hid hm3
    go_wp2_with fail
    (with_reducible refine (hrd.out w3 hG3.out).mono ?_)
    rintro e w4 ⟨rfl, hm4⟩
    dsimp only
    replace hm4 := Lib.hid hm4
    go_wp2_with fail
    (with_reducible refine (hsh.out w4).mono ?_)
    rintro e w5 ⟨A, cA, rfl, hA, hAf, hm5⟩
    dsimp only
    have hr5 := Lib.hid hA.rdi
    replace hA := Lib.hid hA
    replace hAf := Lib.hid hAf
    replace hm5 := Lib.hid hm5
    go_wp2_with fail
    (with_reducible refine (total_ok w5 A p cA _ hr5.out (by omega) hin.out).mono ?_)
    rintro e w6 hpp
    obtain ⟨rfl, rfl⟩ := t3.out _ _ _ hpp
    clear hpp
    dsimp only
    go_wp2_with fail
    clear u1 u2 u3 hki hq
    go_loopw [18] (fun x wr => ∃ j : Nat, x = .int .i64 j ∧ 1 ≤ j ∧ j ≤ p ∧ Mod none_ w5 wr) (fun x _ => p - (intOf x).toNat)
    case atStart => exact ⟨1, rfl, by omega, by omega, Mod.refl _ _⟩
    case round =>
      obtain ⟨j, rfl, hj1, hj, hmr⟩ := hrel
      by_cases hlt : j < p
      · obtain ⟨bb, o, rfl, y1, c1⟩ := rdi_get (Rd.mod0 hr5.out hmr) hlt
        obtain ⟨bb', o', e', y2, c2⟩ := rdi_get (Rd.mod0 hr5.out hmr) (show j - 1 < p by omega)
        cases e'
        obtain ⟨bb', o', e', y3, c3⟩ := rdi_get (Rd.mod0 hr5.out hmr) (show 0 < p by omega)
        cases e'
        have m1 := hin.out _ (List.getElem_mem y1)
        have m3 := hin.out _ (List.getElem_mem y3)
        have z1 := share_mono y2 y1 (by omega)
        have z2 := share_mono y3 y1 (by omega)
        generalize (shareL _ p)[j] = x at c1 m1 z1 z2
        generalize (shareL _ p)[j - 1] = y at c2 z1
        generalize (shareL _ p)[0] = z at c3 m3 z2
        obtain ⟨i, rfl⟩ : ∃ i, j = i + 1 := ⟨j - 1, by omega⟩
        rw [Nat.add_sub_cancel] at c2
        rw [Nat.add_zero] at c3
        obtain ⟨m1a, m1b⟩ := m1
        obtain ⟨m3a, m3b⟩ := m3
        obtain ⟨z1a, z1b⟩ := z1
        obtain ⟨z2a, z2b⟩ := z2
        have hd : decide (y < x) = false := by simp; omega
        have hd2 : decide (1 < z - x) = false := by simp; omega
        replace hmr := Lib.hid hmr
        go_wp2_with (go_quiet (fail))
        refine ⟨⟨i + 2, by go_num, by omega, by omega, hmr.out.drewN _⟩, ?_⟩
        simp [intOf]; omega
      · have hjp : j = p := by omega
        subst hjp
        replace hmr := Lib.hid hmr
        go_wp2_with fail
        go_ret
        exact ⟨rfl, ((((hm1.out.trans hm3.out).trans hm4.out).trans hm5.out).trans hmr.out).below0⟩
end Go.Proofs.YthoedngacopaiaaDoor
