/-
  What is done with one account changes no other one. Plain.
-/
import Derived.Test.YtaohgefpnndjcaaChBackP
namespace Go.Proofs.Ytaohgefpnndjcaa
set_option linter.unusedVariables false
open Go.RowKit
theorem get_setC_other {a : Ac} {n : List UInt8} (h : a.n ≠ n) : ∀ C : List Ac, getC (setC C a) n = getC C n
  | [] => rfl
  | y :: l => by
    have ih := get_setC_other h l
    have e : setC (y :: l) a = (if y.n == a.n then a else y) :: setC l a := rfl
    rw [e]
    unfold getC at ih ⊢
    by_cases h1 : y.n = a.n
    · rw [if_pos (by simpa using h1), List.find?_cons_of_neg (by simpa using h), List.find?_cons_of_neg (by rw [h1]; simpa using h)]
      exact ih
    · rw [if_neg (by simpa using h1)]
      by_cases h2 : y.n = n
      · rw [List.find?_cons_of_pos (by simpa using h2), List.find?_cons_of_pos (by simpa using h2)]
      · rw [List.find?_cons_of_neg (by simpa using h2), List.find?_cons_of_neg (by simpa using h2)]
        exact ih
theorem get_insC_other {a : Ac} {n : List UInt8} (h : a.n ≠ n) : ∀ C : List Ac, getC (insC a C) n = getC C n
  | [] => by unfold insC getC; rw [List.find?_cons_of_neg (by simpa using h)]
  | y :: l => by
    have ih := get_insC_other h l
    unfold insC
    split
    · unfold getC
      rw [List.find?_cons_of_neg (by simpa using h)]
    · unfold getC at ih ⊢
      by_cases h2 : y.n = n
      · rw [List.find?_cons_of_pos (by simpa using h2), List.find?_cons_of_pos (by simpa using h2)]
      · rw [List.find?_cons_of_neg (by simpa using h2), List.find?_cons_of_neg (by simpa using h2)]
        exact ih
theorem get_insC {a : Ac} : ∀ {C : List Ac}, getC C a.n = none → getC (insC a C) a.n = some a
  | [], _ => by unfold insC getC; rw [List.find?_cons_of_pos (by simp)]
  | y :: l, h => by
    unfold insC
    split
    · unfold getC
      rw [List.find?_cons_of_pos (by simp)]
    · have hy : ¬ y.n = a.n := by
        intro e
        unfold getC at h
        rw [List.find?_cons_of_pos (by simpa using e)] at h; cases h
      have hl : getC l a.n = none := by
        unfold getC at h ⊢
        rwa [List.find?_cons_of_neg (by simpa using hy)] at h
      have ih := get_insC hl
      unfold getC at ih ⊢
      rw [List.find?_cons_of_neg (by simpa using hy)]
      exact ih
theorem turn_other {C : List Ac} {s n : List UInt8} {x : Int} {act : Act_} (hn : ∀ a, (act a).1.n = a.n) (h : s ≠ n) : getC (turnR C s x act).1 n = getC C n := by
  unfold turnR
  cases hg : getC C s with
  | none => rfl
  | some a =>
    dsimp only
    split
    · rfl
    · split
      · rfl
      · split
        · rfl
        · exact get_setC_other (by rw [hn, getC_name hg]; exact h) C
theorem step_other {C : List Ac} {k : Nat} {s n : List UInt8} {x : Int} (h : s ≠ n) : getC (stepR C k s x).1 n = getC C n := by
  unfold stepR
  split
  · unfold openR
    split
    · rfl
    · split
      · rfl
      · split
        · rfl
        · exact get_insC_other h C
  · split
    · exact turn_other (fun _ => rfl) h
    · split
      · exact turn_other (fun _ => rfl) h
      · rfl
theorem turn_agree {C D : List Ac} {s : List UInt8} {x : Int} {act : Act_} (hn : ∀ a, (act a).1.n = a.n) (h : getC C s = getC D s) :
    (turnR C s x act).2 = (turnR D s x act).2 ∧ getC (turnR C s x act).1 s = getC (turnR D s x act).1 s := by
  unfold turnR
  rw [← h]
  cases hg : getC C s with
  | none => exact ⟨rfl, by rw [hg, ← h, hg]⟩
  | some a =>
    dsimp only
    have hg2 : getC D s = some a := by rw [← h, hg]
    split
    · exact ⟨rfl, by rw [hg, hg2]⟩
    · split
      · exact ⟨rfl, by rw [hg, hg2]⟩
      · split
        · exact ⟨rfl, by rw [hg, hg2]⟩
        · have e : (act a).1.n = s := by rw [hn, getC_name hg]
          exact ⟨rfl, by rw [getC_setC hg e, getC_setC hg2 e]⟩
theorem step_agree {C D : List Ac} {k : Nat} {s : List UInt8} {x : Int} (h : getC C s = getC D s) (h5 : (stepR C k s x).2 ≠ 5) (hD : D.length ≤ 1) :
    (stepR C k s x).2 = (stepR D k s x).2 ∧ getC (stepR C k s x).1 s = getC (stepR D k s x).1 s := by
  unfold stepR at h5 ⊢
  by_cases k0 : k = 0
  · rw [if_pos k0] at h5 ⊢
    rw [if_pos k0]
    unfold openR at h5 ⊢
    by_cases c1 : nameB s = false ∨ x < 0
    · rw [if_pos c1, if_pos c1]; exact ⟨rfl, h⟩
    · rw [if_neg c1] at h5 ⊢
      rw [if_neg c1]
      rw [← h]
      by_cases c2 : (getC C s).isSome = true
      · rw [if_pos c2, if_pos c2]; exact ⟨rfl, h⟩
      · rw [if_neg c2] at h5 ⊢
        rw [if_neg c2]
        by_cases c3 : C.length = 12
        · rw [if_pos c3] at h5; exact absurd rfl h5
        · rw [if_neg c3, if_neg (by omega)]
          have hg : getC C s = none := by
            cases hh : getC C s with
            | none => rfl
            | some a => rw [hh] at c2; exact absurd rfl c2
          refine ⟨rfl, ?_⟩
          have e1 := get_insC (a := ⟨s, 0, 0, x⟩) (C := C) hg
          have e2 := get_insC (a := ⟨s, 0, 0, x⟩) (C := D) (by rw [← h]; exact hg)
          exact e1.trans e2.symm
  · rw [if_neg k0] at h5 ⊢
    rw [if_neg k0]
    by_cases k1 : k = 1
    · rw [if_pos k1, if_pos k1]; exact turn_agree (fun _ => rfl) h
    · rw [if_neg k1, if_neg k1]
      by_cases k2 : k = 2
      · rw [if_pos k2, if_pos k2]; exact turn_agree (fun _ => rfl) h
      · rw [if_neg k2, if_neg k2]
        exact ⟨by unfold getV; rw [h], h⟩
theorem turn_names {C : List Ac} {s m : List UInt8} {x : Int} {act : Act_} (hn : ∀ a, (act a).1.n = a.n) (h : ∀ a ∈ C, a.n = m) : ∀ a ∈ (turnR C s x act).1, a.n = m := by
  unfold turnR
  cases hg : getC C s with
  | none => exact h
  | some a =>
    dsimp only
    split
    · exact h
    · split
      · exact h
      · split
        · exact h
        · intro y hy
          rcases setC_mem hy with rfl | hy
          · rw [hn]; exact h a (getC_mem hg)
          · exact h y hy
theorem step_names {C : List Ac} {k : Nat} {s : List UInt8} {x : Int} (h : ∀ a ∈ C, a.n = s) : ∀ a ∈ (stepR C k s x).1, a.n = s := by
  unfold stepR
  split
  · unfold openR
    split
    · exact h
    · split
      · exact h
      · split
        · exact h
        · intro y hy
          rcases insC_mem hy with rfl | hy
          · rfl
          · exact h y hy
  · split
    · exact turn_names (fun _ => rfl) h
    · split
      · exact turn_names (fun _ => rfl) h
      · exact h
theorem names_one {C : List Ac} {s : List UInt8} (hs : SortedC C) (h : ∀ a ∈ C, a.n = s) : C.length ≤ 1 := by
  match C, hs, h with
  | [], _, _ => simp
  | [_], _, _ => simp
  | x :: y :: l, hs, h =>
    exfalso
    obtain ⟨h1, _⟩ := List.pairwise_cons.1 hs
    have := bb_ne (h1 y (by simp))
    rw [h x (by simp), h y (by simp)] at this
    exact this rfl
/-- an account of a name that was not named stands as it stood -/
theorem apart_same {C : List Ac} {k : Nat} {s : List UInt8} {x : Int} {a b : Ac} (hC : SortedC C) (hC' : SortedC (stepR C k s x).1) (ha : a ∈ C) (hb : b ∈ (stepR C k s x).1) (hn : a.n = b.n) (hs : b.n ≠ s) : a = b := by
  obtain ⟨i, hi, rfl⟩ := List.getElem_of_mem ha
  obtain ⟨j, hj, rfl⟩ := List.getElem_of_mem hb
  have g1 := get_at_ hC (List.getElem?_eq_getElem hi)
  have g2 := get_at_ hC' (List.getElem?_eq_getElem hj)
  rw [step_other (fun e => hs e.symm), ← hn, g1] at g2
  exact Option.some.inj g2
end Go.Proofs.Ytaohgefpnndjcaa
