/-
  The reference's list of accounts: where a name stands, what a change at that place and an insertion are. Plain.
-/
import Derived.Test.YtaohgefpnndjcaaChApartP
namespace Go.Proofs.Ytaohgefpnndjcaa
set_option linter.unusedVariables false
open Go.RowKit
/-- where a name stands in the list -/
def StandsAt (C : List Ac) (s : List UInt8) (i : Nat) : Prop := ∃ h : i < C.length, C[i].n = s ∧ ∀ q (hq : q < i), (C[q]'(by omega)).n ≠ s
theorem stands_of {s : List UInt8} : ∀ {C : List Ac} {a : Ac}, getC C s = some a → ∃ i, StandsAt C s i ∧ C[i]? = some a
  | [], a, h => by simp [getC] at h
  | y :: l, a, h => by
    unfold getC at h
    by_cases e : y.n = s
    · rw [List.find?_cons_of_pos (by simpa using e)] at h
      injection h with h
      subst h
      exact ⟨0, ⟨by simp, e, fun q hq => absurd hq (by omega)⟩, rfl⟩
    · rw [List.find?_cons_of_neg (by simpa using e)] at h
      obtain ⟨i, ⟨hi, h1, h2⟩, h3⟩ := stands_of (C := l) h
      refine ⟨i + 1, ⟨by simp; omega, by simpa using h1, fun q hq => ?_⟩, by simpa using h3⟩
      cases q with
      | zero => exact e
      | succ q => exact h2 q (by omega)
theorem stands_none {C : List Ac} {s : List UInt8} (h : getC C s = none) : ∀ i (hi : i < C.length), C[i].n ≠ s := by
  intro i hi he
  have := List.find?_eq_none.1 h C[i] (List.getElem_mem hi)
  simp [he] at this
theorem set_at {C : List Ac} {i : Nat} {b : Ac} (hs : SortedC C) (hi : i < C.length) (hn : C[i].n = b.n) : setC C b = C.set i b := by
  apply List.ext_getElem?
  intro j
  unfold setC
  rw [List.getElem?_map, List.getElem?_set]
  by_cases hj : j < C.length
  · rw [List.getElem?_eq_getElem hj, Option.map_some]
    by_cases hij : i = j
    · subst hij
      rw [if_pos rfl, if_pos hi, if_pos (by simpa using hn)]
    · rw [if_neg hij]
      have hne : C[j].n ≠ b.n := by
        rw [← hn]
        rcases Nat.lt_or_gt_of_ne hij with h | h
        · exact (bb_ne (List.pairwise_iff_getElem.1 hs i j hi hj h)).symm
        · exact bb_ne (List.pairwise_iff_getElem.1 hs j i hj hi h)
      rw [if_neg (by simpa using hne)]
  · rw [List.getElem?_eq_none (by omega), Option.map_none]
    by_cases hij : i = j
    · omega
    · rw [if_neg hij]
theorem ins_at {a : Ac} : ∀ {C : List Ac} {k : Nat}, SortedC C → k ≤ C.length → (∀ i (hi : i < C.length), k ≤ i → bytesBefore a.n C[i].n = true) → (∀ i (hi : i < C.length), k = i + 1 → bytesBefore a.n C[i].n = false) →
    insC a C = C.take k ++ a :: C.drop k
  | [], k, _, _, _, _ => by simp [insC]
  | y :: l, 0, _, _, h1, _ => by
    have := h1 0 (by simp) (by omega)
    simp only [List.getElem_cons_zero] at this
    simp [insC, this]
  | y :: l, k + 1, hs, hk, h1, h2 => by
    obtain ⟨s1, s2⟩ := List.pairwise_cons.1 hs
    have hy : bytesBefore a.n y.n = false := by
      cases k with
      | zero => exact h2 0 (by simp) rfl
      | succ k =>
        have hkl : k < l.length := by simp at hk; omega
        have h3 := h2 (k + 1) (by simp; omega) rfl
        simp only [List.getElem_cons_succ] at h3
        cases hb : bytesBefore a.n y.n with
        | false => rfl
        | true => rw [bb_trans _ _ _ hb (s1 _ (List.getElem_mem hkl))] at h3; cases h3
    have ih := ins_at (a := a) (C := l) (k := k) s2 (by simpa using hk) (fun i hi hki => by have := h1 (i + 1) (by simpa using hi) (by omega); simpa using this) (fun i hi hki => by have := h2 (i + 1) (by simpa using hi) (by omega); simpa using this)
    rw [insC, if_neg (by simp [hy]), ih]
    simp
end Go.Proofs.Ytaohgefpnndjcaa
