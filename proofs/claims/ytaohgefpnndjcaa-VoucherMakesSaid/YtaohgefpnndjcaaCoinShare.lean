/-
  The contract of coins.Share. No condition.
-/
import Derived.Test.YtaohgefpnndjcaaCoinTotal
import Derived.Test.YtaohgefpnndjcaaCopy
import Derived.Deep.QuietTactic
namespace Go.Proofs.Ytaohgefpnndjcaa
set_option linter.unusedVariables false
open Go.RowKit
/-- The parts of a sum: none of them more than 1 apart, the greater ones first. -/
def part (a : Int) (n i : Nat) : Int := a / (n : Int) + if (i : Int) < a % (n : Int) then 1 else 0
def shareL (a : Int) (n : Nat) : List Int := (List.range n).map (part a n)
theorem i64size : (Try.prog.info? 2).map (·.size) = some 1 := by kernel_rfl
def SharePost (w : World) (a parts : Int) (e : Ending) (w' : World) : Prop :=
  (¬ (1 ≤ parts ∧ parts ≤ 100) ∧ e = .returned (.tuple #[.slice none 0 0, .int .i64 1]) ∧ w = w') ∨
  (∃ (n : Nat) (A : Option Addr) (c : Nat), parts = (n : Int) ∧ 1 ≤ n ∧ n ≤ 100 ∧ e = .returned (.tuple #[.slice A n c, .int .i64 0]) ∧ OwI w' A n c (shareL a n) ∧ Fresh w A ∧ Mod none_ w w')
theorem tdiv_facts (a : Int) (n : Nat) (ha : I64 a) (h1 : 1 ≤ n) : ∃ q r : Int, a.tdiv (n : Int) = q ∧ a.tmod (n : Int) = r ∧ -9223372036854775808 ≤ q ∧ q ≤ 9223372036854775807 ∧ -(n : Int) < r ∧ r < (n : Int) ∧
    (r < 0 → a / (n : Int) = q - 1 ∧ a % (n : Int) = r + (n : Int) ∧ -9223372036854775808 ≤ q - 1) ∧ (0 ≤ r → a / (n : Int) = q ∧ a % (n : Int) = r) := by
  obtain ⟨a1, a2⟩ := ha
  have hn : (0 : Int) < (n : Int) := by omega
  have e := Int.tmod_add_mul_tdiv a (n : Int)
  have f := Int.emod_add_mul_ediv a (n : Int)
  have m0 := Int.emod_nonneg a (b := (n : Int)) (by omega)
  have m1 := Int.emod_lt_of_pos a hn
  rcases Int.lt_or_le a 0 with hneg | hpos
  · have e2 : a.tdiv (n : Int) = -((-a) / (n : Int)) := by
      rw [show a = -(-a) by omega, Int.neg_tdiv, Int.tdiv_eq_ediv_of_nonneg (by omega)]; simp
    have e3 : a.tmod (n : Int) = -((-a) % (n : Int)) := by
      rw [show a = -(-a) by omega, Int.neg_tmod, Int.tmod_eq_emod_of_nonneg (by omega)]; simp
    have g := Int.emod_add_mul_ediv (-a) (n : Int)
    have n0 := Int.emod_nonneg (-a) (b := (n : Int)) (by omega)
    have n1 := Int.emod_lt_of_pos (-a) hn
    obtain ⟨Q, hQ⟩ : ∃ Q, Q = (-a) / (n : Int) := ⟨_, rfl⟩
    obtain ⟨R, hR⟩ : ∃ R, R = (-a) % (n : Int) := ⟨_, rfl⟩
    rw [← hQ] at e2 g
    rw [← hR] at e3 g n0 n1
    have hQ0 : 0 ≤ Q := by rw [hQ]; exact Int.ediv_nonneg (by omega) (by omega)
    have hQa : Q ≤ -a := by rw [hQ]; exact Int.ediv_le_self _ (by omega)
    refine ⟨-Q, -R, e2, e3, by omega, by omega, by omega, by omega, fun hr => ?_, fun hr => ?_⟩
    · have hd : a = ((n : Int) - R) + (n : Int) * (-Q - 1) := by rw [Int.mul_sub, Int.mul_neg]; omega
      have h3 : a / (n : Int) = -Q - 1 := by
        rw [hd, Int.add_mul_ediv_left _ _ (by omega), Int.ediv_eq_zero_of_lt (by omega) (by omega)]; omega
      have h4 : a % (n : Int) = -R + (n : Int) := by
        rw [hd, Int.add_mul_emod_self_left, Int.emod_eq_of_lt (by omega) (by omega)]; omega
      have h2n : 2 ≤ (n : Int) := by omega
      have hm : 2 * Q ≤ (n : Int) * Q := Int.mul_le_mul_of_nonneg_right h2n hQ0
      exact ⟨h3, h4, by omega⟩
    · have hR0 : R = 0 := by omega
      subst hR0
      have hd : a = 0 + (n : Int) * (-Q) := by rw [Int.mul_neg]; omega
      have h3 : a / (n : Int) = -Q := by
        rw [hd, Int.add_mul_ediv_left _ _ (by omega)]; simp
      have h4 : a % (n : Int) = 0 := by
        rw [hd, Int.add_mul_emod_self_left]; simp
      exact ⟨h3, by omega⟩
  · have e2 : a.tdiv (n : Int) = a / (n : Int) := Int.tdiv_eq_ediv_of_nonneg hpos
    have e3 : a.tmod (n : Int) = a % (n : Int) := Int.tmod_eq_emod_of_nonneg hpos
    have hQ0 : 0 ≤ a / (n : Int) := Int.ediv_nonneg hpos (by omega)
    have hQa : a / (n : Int) ≤ a := Int.ediv_le_self _ (by omega)
    exact ⟨_, _, e2, e3, by omega, by omega, by omega, by omega, fun hr => by omega, fun _ => ⟨rfl, rfl⟩⟩
def rowAt (a : Int) (n j : Nat) : List Int := (List.range n).map fun i => if i < j then part a n i else 0
theorem rowAt_len (a : Int) (n j : Nat) : (rowAt a n j).length = n := by simp [rowAt]
theorem rowAt_zero (a : Int) (n : Nat) : (madeCells #[Value.int .i64 0] n).toList = ivs (rowAt a n 0) := by
  apply List.ext_getElem
  · simp [size_madeCells, ivs, rowAt]
  · intro i h1 h2
    have e : i % 1 = 0 := Nat.mod_one i
    simp [madeCells, ivs, rowAt, e]
theorem rowAt_all (a : Int) (n : Nat) : rowAt a n n = shareL a n := by
  unfold rowAt shareL
  apply List.map_congr_left
  intro i hi
  rw [if_pos (List.mem_range.1 hi)]
theorem rowAt_next (a : Int) (n j : Nat) (hj : j < n) : (rowAt a n j).set j (part a n j) = rowAt a n (j + 1) := by
  apply List.ext_getElem
  · simp [rowAt]
  · intro i h1 h2
    simp only [rowAt, List.length_map, List.length_range] at h2
    rw [List.getElem_set]
    simp only [rowAt, List.getElem_map, List.getElem_range]
    by_cases h : j = i
    · subst h; simp
    · rw [if_neg h]
      by_cases h3 : i < j
      · rw [if_pos h3, if_pos (by omega)]
      · rw [if_neg h3, if_neg (by omega)]
theorem ivs_set (l : List Int) (k : Nat) (b : Int) : ivs (l.set k b) = (ivs l).set k (.int .i64 b) := by simp [ivs, List.map_set]
def ShRel (w : World) (a : Int) (n g j : Nat) (wr : World) : Prop := OwI wr (some ⟨g, 0, none⟩) n n (rowAt a n j) ∧ Mod none_ w wr
end Go.Proofs.Ytaohgefpnndjcaa
