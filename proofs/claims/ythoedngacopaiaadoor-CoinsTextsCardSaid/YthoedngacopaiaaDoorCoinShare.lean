/-
  The contract of coins.Share. No condition.
-/
import Derived.Test.YthoedngacopaiaaDoorCoinTotal
import Derived.Test.YthoedngacopaiaaDoorCopy
import Derived.Deep.QuietTactic
namespace Go.Proofs.YthoedngacopaiaaDoor
set_option linter.unusedVariables false
open Go.RowKit
/-- The parts of a sum: none of them more than 1 apart, the greater ones first. -/
def part (a : Int) (n i : Nat) : Int := a / (n : Int) + if (i : Int) < a % (n : Int) then 1 else 0
def shareL (a : Int) (n : Nat) : List Int := (List.range n).map (part a n)
theorem i64size : (Tryd.prog.info? 2).map (·.size) = some 1 := by kernel_rfl
def SharePost (w : World) (a parts : Int) (e : Ending) (w' : World) : Prop :=
  (¬ (1 ≤ parts ∧ parts ≤ 100) ∧ e = .returned (.tuple #[.slice none 0 0, .int .i64 1]) ∧ w = w') ∨
  (∃ (n : Nat) (A : Option Addr) (c : Nat), parts = (n : Int) ∧ 1 ≤ n ∧ n ≤ 100 ∧ e = .returned (.tuple #[.slice A n c, .int .i64 0]) ∧ OwI w' A n c (shareL a n) ∧ Fresh w A ∧ Mod none_ w w')
theorem tdiv_facts (a : Int) (n : Nat) (ha : I64 a) (h1 : 1 ≤ n) : ∃ q r : Int, a.tdiv (n : Int) = q ∧ a.tmod (n : Int) = r ∧ -9223372036854775808 ≤ q ∧ q ≤ 9223372036854775807 ∧ -(n : Int) < r ∧ r < (n : Int) ∧
    (r < 0 → a / (n : Int) = q - 1 ∧ a % (n : Int) = r + (n : Int) ∧ -9223372036854775808 ≤ q - 1) ∧ (0 ≤ r → a / (n : Int) = q ∧ a % (n : Int) = r) := by
  obtain ⟨a1, a2⟩ := ha
  have hn : (0 : Int) < (n : Int) := by omega
  have e := Int.tmod_add_mul_tdiv a (n : Int)
  have f := Int.emod_add_mul_ediv a (n : Int)
  have m0 := Int.emod_nonneg a (b := (n : Int)) (by omega)
  have m1 := Int.emod_lt_of_pos a hn
  rcases Int.lt_or_le a 0 with hneg | hpos
  · have e2 : a.tdiv (n : Int) = -((-a) / (n : Int)) := by
      rw [show a = -(-a) by omega, Int.neg_tdiv, Int.tdiv_eq_ediv_of_nonneg (by omega)]; simp
    have e3 : a.tmod (n : Int) = -((-a) % (n : Int)) := by
      rw [show a = -(-a) by omega, Int.neg_tmod, Int.tmod_eq_emod_of_nonneg (by omega)]; simp
    have g := Int.emod_add_mul_ediv (-a) (n : Int)
    have n0 := Int.emod_nonneg (-a) (b := (n : Int)) (by omega)
    have n1 := Int.emod_lt_of_pos (-a) hn
    obtain ⟨Q, hQ⟩ : ∃ Q, Q = (-a) / (n : Int) := ⟨_, rfl⟩
    obtain ⟨R, hR⟩ : ∃ R, R = (-a) % (n : Int) := ⟨_, rfl⟩
    rw [← hQ] at e2 g
    rw [← hR] at e3 g n0 n1
    have hQ0 : 0 ≤ Q := by rw [hQ]; exact Int.ediv_nonneg (by omega) (by omega)
    have hQa : Q ≤ -a := by rw [hQ]; exact Int.ediv_le_self _ (by omega)
    refine ⟨-Q, -R, e2, e3, by omega, by omega, by omega, by omega, fun hr => ?_, fun hr => ?_⟩
    · have hd : a = ((n : Int) - R) + (n : Int) * (-Q - 1) := by rw [Int.mul_sub, Int.mul_neg]; omega
      have h3 : a / (n : Int) = -Q - 1 := by
        rw [hd, Int.add_mul_ediv_left _ _ (by omega), Int.ediv_eq_zero_of_lt (by omega) (by omega)]; omega
      have h4 : a % (n : Int) = -R + (n : Int) := by
        rw [hd, Int.add_mul_emod_self_left, Int.emod_eq_of_lt (by omega) (by omega)]; omega
      have h2n : 2 ≤ (n : Int) := by omega
      have hm : 2 * Q ≤ (n : Int) * Q := Int.mul_le_mul_of_nonneg_right h2n hQ0
      exact ⟨h3, h4, by omega⟩
    · have hR0 : R = 0 := by omega
      subst hR0
      have hd : a = 0 + (n : Int) * (-Q) := by rw [Int.mul_neg]; omega
      have h3 : a / (n : Int) = -Q := by
        rw [hd, Int.add_mul_ediv_left _ _ (by omega)]; simp
      have h4 : a % (n : Int) = 0 := by
        rw [hd, Int.add_mul_emod_self_left]; simp
      exact ⟨h3, by omega⟩
  · have e2 : a.tdiv (n : Int) = a / (n : Int) := Int.tdiv_eq_ediv_of_nonneg hpos
    have e3 : a.tmod (n : Int) = a % (n : Int) := Int.tmod_eq_emod_of_nonneg hpos
    have hQ0 : 0 ≤ a / (n : Int) := Int.ediv_nonneg hpos (by omega)
    have hQa : a / (n : Int) ≤ a := Int.ediv_le_self _ (by omega)
    exact ⟨_, _, e2, e3, by omega, by omega, by omega, by omega, fun hr => by omega, fun _ => ⟨rfl, rfl⟩⟩
def rowAt (a : Int) (n j : Nat) : List Int := (List.range n).map fun i => if i < j then part a n i else 0
theorem rowAt_len (a : Int) (n j : Nat) : (rowAt a n j).length = n := by simp [rowAt]
theorem rowAt_zero (a : Int) (n : Nat) : (madeCells #[Value.int .i64 0] n).toList = ivs (rowAt a n 0) := by
  apply List.ext_getElem
  · simp [size_madeCells, ivs, rowAt]
  · intro i h1 h2
    have e : i % 1 = 0 := Nat.mod_one i
    simp [madeCells, ivs, rowAt, e]
theorem rowAt_all (a : Int) (n : Nat) : rowAt a n n = shareL a n := by
  unfold rowAt shareL
  apply List.map_congr_left
  intro i hi
  rw [if_pos (List.mem_range.1 hi)]
theorem rowAt_next (a : Int) (n j : Nat) (hj : j < n) : (rowAt a n j).set j (part a n j) = rowAt a n (j + 1) := by
  apply List.ext_getElem
  · simp [rowAt]
  · intro i h1 h2
    simp only [rowAt, List.length_map, List.length_range] at h2
    rw [List.getElem_set]
    simp only [rowAt, List.getElem_map, List.getElem_range]
    by_cases h : j = i
    · subst h; simp
    · rw [if_neg h]
      by_cases h3 : i < j
      · rw [if_pos h3, if_pos (by omega)]
      · rw [if_neg h3, if_neg (by omega)]
theorem ivs_set (l : List Int) (k : Nat) (b : Int) : ivs (l.set k b) = (ivs l).set k (.int .i64 b) := by simp [ivs, List.map_set]
def ShRel (w : World) (a : Int) (n g j : Nat) (wr : World) : Prop := OwI wr (some ⟨g, 0, none⟩) n n (rowAt a n j) ∧ Mod none_ w wr
set_option maxRecDepth 100000 in
set_option maxHeartbeats 2000000 in
theorem share_yes (w : World) (a : Int) (n : Nat) (ha : I64 a) (h1 : 1 ≤ n) (h2 : n ≤ 100) : Calls Tryd.prog 18 #[.int .i64 a, .int .i64 (n : Int)] w fun e w' =>
    ∃ A c, e = .returned (.tuple #[.slice A n c, .int .i64 0]) ∧ OwI w' A n c (shareL a n) ∧ Fresh w A ∧ Mod none_ w w' := by
  have hmk : ∀ w : World, (Instr.makeSlice 28 (.int .i64 (n : Int)) (.int .i64 (n : Int))).run Tryd.prog w = .ok (.slice (some ⟨w.heap.size, 0, none⟩) n n) (w.alloc (.cells (madeCells #[.int .i64 0] n) 2)) :=
    fun w => make_run (P := Tryd.prog) w 28 2 _ _ n Tryd.underlying28 i64info rfl (by omega) (by omega)
  obtain ⟨q, r, hq, hr, q1, q2, r1, r2, r3, r4⟩ := tdiv_facts a n ha h1
  have hEM : ∃ E M : Int, a / (n : Int) = E ∧ a % (n : Int) = M ∧ (r < 0 → q - 1 = E ∧ r + (n : Int) = M) ∧ (0 ≤ r → q = E ∧ r = M) ∧ -9223372036854775808 ≤ E ∧ (0 < M → E + 1 ≤ 9223372036854775807) ∧ 0 ≤ M := by
    refine ⟨a / (n : Int), a % (n : Int), rfl, rfl, fun h => ⟨(r3 h).1.symm, (r3 h).2.1.symm⟩, fun h => ⟨(r4 h).1.symm, (r4 h).2.symm⟩, ?_, fun hM => ?_, Int.emod_nonneg a (by omega)⟩
    · by_cases h : r < 0
      · have := r3 h; omega
      · have := r4 (by omega); omega
    · have f := Int.emod_add_mul_ediv a (n : Int)
      have m1 := Int.emod_lt_of_pos a (show (0 : Int) < (n : Int) by omega)
      have ha2 := ha.2
      by_cases h0 : 0 ≤ a / (n : Int)
      · have hm := Int.mul_le_mul_of_nonneg_right (show (2 : Int) ≤ (n : Int) by omega) h0
        omega
      · omega
  obtain ⟨E, M, hE, hM, em1, em2, e1, e2, e3⟩ := hEM
  clear r3 r4
  have hp : ∀ i : Nat, part a n i = E + if (i : Int) < M then 1 else 0 := fun i => by unfold part; rw [hE, hM]
  replace ha := Lib.hid ha
  replace hE := Lib.hid hE
  replace hM := Lib.hid hM
  replace hp := Lib.hid hp
  have hcase : (r < 0 ∧ q - 1 = E ∧ r + (n : Int) = M) ∨ (0 ≤ r ∧ q = E ∧ r = M) := by
    by_cases h : r < 0
    · exact .inl ⟨h, em1 h⟩
    · exact .inr ⟨by omega, em2 (by omega)⟩
  clear em1 em2
  rcases hcase with ⟨hr0, m1, m2⟩ | ⟨hr0, m1, m2⟩
  all_goals
    go_enter Tryd.func18, Tryd.ntmps18
    go_wp2_with (go_quiet (fail))
    have hs0 : ∀ W0 : World, OwI (W0.alloc (.cells (madeCells #[.int .i64 0] n) 2)) (some ⟨W0.heap.size, 0, none⟩) n n (rowAt a n 0) := fun W0 => by
      have := Ow.new W0 2 1 n (madeCells #[.int .i64 0] n) (by unfold maxLen; omega) (by rw [size_madeCells]; omega)
      rwa [rowAt_zero] at this
    replace hs0 := Lib.hid hs0
    go_loopw [10, 35] (fun _ x wr => ∃ j : Nat, x = .int .i64 j ∧ j ≤ n ∧ ShRel w a n w.heap.size j wr) (fun _ x _ => n - (intOf x).toNat)
    case atStart => exact ⟨0, rfl, by omega, hs0.out _, ((Mod.refl none_ w).drewN _).alloc _⟩
    case round =>
      obtain ⟨j, rfl, hj, ho, hm⟩ := hrel
      by_cases hlt : j < n
      · have hl := ho.len
        have hcell : wr.cell? ⟨w.heap.size, j, none⟩ = (ivs (rowAt a n j))[j]? := ho.cell_ rfl j (by omega)
        have hj2 : j < (rowAt a n j).length := by rw [rowAt_len]; exact hlt
        rw [ivs_get hj2] at hcell
        have hfree : wr.frozen? ⟨w.heap.size, j, none⟩ = false := ho.free rfl j
        have hnx := rowAt_next a n j hlt
        rw [hp.out j] at hnx
        generalize (rowAt a n j)[j] = y at hcell
        by_cases hjm : (j : Int) < M
        · rw [if_pos hjm] at hnx
          have e5 := e2 (by omega)
          have hfin : Hid (ShRel w a n w.heap.size (j + 1) ((wr.setCell ⟨w.heap.size, j, none⟩ (.int .i64 E)).setCell ⟨w.heap.size, j, none⟩ (.int .i64 (E + 1)))) := by
            refine Lib.hid ⟨?_, (hm.setCell (.inr (Nat.le_refl _)) _).setCell (.inr (Nat.le_refl _)) _⟩
            have := ((ho.set_ rfl j (.int .i64 E)).set_ rfl j (.int .i64 (E + 1)))
            rw [List.set_set, ← ivs_set, hnx] at this
            exact this
          replace ho := Lib.hid ho
          replace hm := Lib.hid hm
          replace hnx := Lib.hid hnx
          go_wp2_with fail
          go_roundw
          case rel => exact ⟨j + 1, by go_num, by omega, hfin.out⟩
          case measure => simp [intOf]; omega
        · rw [if_neg hjm, Int.add_zero] at hnx
          have hfin : Hid (ShRel w a n w.heap.size (j + 1) (wr.setCell ⟨w.heap.size, j, none⟩ (.int .i64 E))) := by
            refine Lib.hid ⟨?_, hm.setCell (.inr (Nat.le_refl _)) _⟩
            have := ho.set_ rfl j (.int .i64 E)
            rw [← ivs_set, hnx] at this
            exact this
          replace ho := Lib.hid ho
          replace hm := Lib.hid hm
          replace hnx := Lib.hid hnx
          go_wp2_with fail
          go_roundw
          case rel => exact ⟨j + 1, by go_num, by omega, hfin.out⟩
          case measure => simp [intOf]; omega
      · have hjn : j = n := by omega
        subst hjn
        rw [rowAt_all] at ho
        replace ho := Lib.hid ho
        replace hm := Lib.hid hm
        go_wp2_with fail
        go_ret2
        exact ⟨_, _, rfl, ho.out, (fun a ha => by cases ha; exact Nat.le_refl _), hm.out⟩
set_option maxRecDepth 100000 in
theorem share_no (w : World) (a p : Int) (h : ¬ (1 ≤ p ∧ p ≤ 100)) : Calls Tryd.prog 18 #[.int .i64 a, .int .i64 p] w fun e w' => e = .returned (.tuple #[.slice none 0 0, .int .i64 1]) ∧ w = w' := by
  by_cases h1 : p < 1
  · clear h
    go_enter Tryd.func18, Tryd.ntmps18
    go_wp2
    go_ret2
    exact ⟨rfl, rfl⟩
  · have h2 : 100 < p := by omega
    clear h
    go_enter Tryd.func18, Tryd.ntmps18
    go_wp2
    go_ret2
    exact ⟨rfl, rfl⟩
end Go.Proofs.YthoedngacopaiaaDoor
