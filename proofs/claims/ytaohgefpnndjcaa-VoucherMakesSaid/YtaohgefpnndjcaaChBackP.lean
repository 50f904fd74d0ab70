/-
  What is given, and given back, is as it was. Plain.
-/
import Derived.Test.YtaohgefpnndjcaaChDoes
namespace Go.Proofs.Ytaohgefpnndjcaa
set_option linter.unusedVariables false
open Go.RowKit
theorem uniq_n {C : List Ac} (h : SortedC C) : ∀ {a b : Ac}, a ∈ C → b ∈ C → a.n = b.n → a = b := by
  induction C with
  | nil => intro a b ha; cases ha
  | cons y l ih =>
    intro a b ha hb hn
    obtain ⟨h1, h2⟩ := List.pairwise_cons.1 h
    rcases List.mem_cons.1 ha with ha | ha <;> rcases List.mem_cons.1 hb with hb | hb
    · rw [ha, hb]
    · exact absurd (ha ▸ hn) (bb_ne (h1 b hb))
    · exact absurd (hb ▸ hn.symm) (bb_ne (h1 a ha))
    · exact ih h2 ha hb hn
theorem setC_self {C : List Ac} (h : SortedC C) {a : Ac} (ha : a ∈ C) : setC C a = C := by
  unfold setC
  conv => rhs; rw [← List.map_id C]
  refine List.map_congr_left fun y hy => ?_
  by_cases e : y.n = a.n
  · rw [uniq_n h hy ha e]; simp
  · simp [e]
theorem setC_setC (C : List Ac) (a b : Ac) (h : a.n = b.n) : setC (setC C a) b = setC C b := by
  unfold setC
  rw [List.map_map]
  refine List.map_congr_left fun y hy => ?_
  simp only [Function.comp]
  by_cases e : y.n = a.n
  · simp [e, h]
  · have : ¬ y.n = b.n := by rw [← h]; exact e
    simp [e, this]
theorem getC_setC {C : List Ac} {a b : Ac} {s : List UInt8} (h : getC C s = some a) (hn : b.n = s) : getC (setC C b) s = some b := by
  induction C with
  | nil => simp [getC] at h
  | cons y l ih =>
    by_cases e : y.n = s
    · have : setC (y :: l) b = b :: setC l b := by
        show (if y.n == b.n then b else y) :: setC l b = _
        rw [if_pos (by simp [e, hn])]
      rw [this]
      unfold getC
      rw [List.find?_cons_of_pos (by simp [hn])]
    · have : setC (y :: l) b = y :: setC l b := by
        show (if y.n == b.n then b else y) :: setC l b = _
        rw [if_neg (by simp [e, hn])]
      rw [this]
      unfold getC at h ⊢
      rw [List.find?_cons_of_neg (by simpa using e)] at h ⊢
      exact ih h
theorem turn_zero {C : List Ac} {s : List UInt8} {x : Int} {act : Act_} (h : (turnR C s x act).2 = 0) : ∃ a, getC C s = some a ∧ (act a).2 = 0 ∧ ¬ (0 < x ∧ freeB a x = false) ∧ ¬ (act a).1.s < 0 ∧ turnR C s x act = (setC C (act a).1, 0) := by
  unfold turnR at h ⊢
  cases hg : getC C s with
  | none => rw [hg] at h; exact absurd h (by simp)
  | some a =>
    rw [hg] at h
    dsimp only at h ⊢
    by_cases h1 : (act a).2 ≠ 0
    · rw [if_pos h1] at h; exact absurd h h1
    · rw [if_neg h1] at h
      by_cases h2 : 0 < x ∧ freeB a x = false
      · rw [if_pos h2] at h; exact absurd h (by simp)
      · rw [if_neg h2] at h
        by_cases h3 : (act a).1.s < 0
        · rw [if_pos h3] at h; exact absurd h (by simp)
        · refine ⟨a, rfl, by simpa using h1, h2, h3, ?_⟩
          rw [if_neg h1, if_neg h2, if_neg h3]
theorem turn_same {C : List Ac} {s : List UInt8} {x : Int} {act : Act_} (h : (turnR C s x act).2 ≠ 0) : (turnR C s x act).1 = C := by
  unfold turnR at h ⊢
  cases hg : getC C s with
  | none => rfl
  | some a =>
    rw [hg] at h
    dsimp only at h ⊢
    split
    · rfl
    · split
      · rfl
      · split
        · rfl
        · rename_i h1 h2 h3
          rw [if_neg h1, if_neg h2, if_neg h3] at h; exact absurd rfl h
theorem actR_zero {x : Int} (h : (actR x).2 = 0) : inI x = true ∧ (actR x).1 = x := by
  unfold actR at h ⊢
  cases hi : inI x
  · rw [hi] at h; simp at h
  · exact ⟨rfl, rfl⟩
theorem inI_of {x : Int} (h : I64 x) : inI x = true := inI_yes.2 ⟨h.1, h.2⟩
/-- given, and given back -/
theorem give_back {C : List Ac} {s : List UInt8} {x : Int} (hs : SortedC C) (ho : OkC C) (hx : 0 ≤ x) (h : (turnR C s x (giveA x)).2 = 0) :
    ∃ a, getC C s = some a ∧ I64 (a.h - x) ∧ getC (turnR C s x (giveA x)).1 s = some { a with h := a.h - x } ∧ turnR (turnR C s x (giveA x)).1 s (-x) (giveA (-x)) = (C, 0) := by
  obtain ⟨a, hg, h1, h2, h3, h4⟩ := turn_zero h
  obtain ⟨h5, h6⟩ := actR_zero h1
  have hn := getC_name hg
  have hm := getC_mem hg
  have hw := ho.wf a hm
  have e1 : (giveA x a).1 = { a with h := a.h - x } := by unfold giveA; rw [h6]
  rw [h4, e1]
  have hg2 : getC (setC C { a with h := a.h - x }) s = some { a with h := a.h - x } := getC_setC hg hn
  refine ⟨a, hg, ⟨(inI_yes.1 h5).1, (inI_yes.1 h5).2⟩, hg2, ?_⟩
  unfold turnR
  rw [hg2]
  have e2 : giveA (-x) { a with h := a.h - x } = (a, 0) := by
    unfold giveA
    dsimp only
    rw [show a.h - x - -x = a.h by omega, act_yes (inI_of hw.1)]
  dsimp only
  rw [e2]
  dsimp only
  rw [if_neg (by simp), if_neg (by omega), if_neg (by have := hw.2.2.2.1; omega), setC_setC C _ a (by rfl), setC_self hs hm]
/-- set aside, and given back -/
theorem aside_back {C : List Ac} {s : List UInt8} {x : Int} (hs : SortedC C) (ho : OkC C) (hx : 0 ≤ x) (h : (turnR C s x (asideA x)).2 = 0) :
    turnR (turnR C s x (asideA x)).1 s (-x) (asideA (-x)) = (C, 0) := by
  obtain ⟨a, hg, h1, h2, h3, h4⟩ := turn_zero h
  obtain ⟨h5, h6⟩ := actR_zero h1
  have hn := getC_name hg
  have hm := getC_mem hg
  have hw := ho.wf a hm
  have e1 : (asideA x a).1 = { a with s := a.s + x } := by unfold asideA; rw [h6]
  rw [h4, e1]
  have hg2 : getC (setC C { a with s := a.s + x }) s = some { a with s := a.s + x } := getC_setC hg hn
  unfold turnR
  rw [hg2]
  have e2 : asideA (-x) { a with s := a.s + x } = (a, 0) := by
    unfold asideA
    dsimp only
    rw [show a.s + x + -x = a.s by omega, act_yes (inI_of hw.2.1)]
  dsimp only
  rw [e2]
  dsimp only
  rw [if_neg (by simp), if_neg (by omega), if_neg (by have := hw.2.2.2.1; omega), setC_setC C _ a (by rfl), setC_self hs hm]
end Go.Proofs.Ytaohgefpnndjcaa
