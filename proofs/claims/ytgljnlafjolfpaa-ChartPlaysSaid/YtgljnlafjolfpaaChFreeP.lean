/-
  No account has less than it may, behind a step. Plain.
-/
import Derived.Test.YtgljnlafjolfpaaChApartP
import Derived.Laws.Cover1
namespace Go.Proofs.Ytgljnlafjolfpaa
set_option linter.unusedVariables false
open Go.RowKit
theorem step_same {C : List Ac} {k : Nat} {s : List UInt8} {x : Int} (h : (stepR C k s x).2 ≠ 0) : (stepR C k s x).1 = C := by
  unfold stepR at h ⊢
  split
  · rename_i k0
    rw [if_pos k0] at h
    unfold openR at h ⊢
    split
    · rfl
    · split
      · rfl
      · split
        · rfl
        · rename_i h1 h2 h3
          rw [if_neg h1, if_neg h2, if_neg h3] at h
          exact absurd rfl h
  · rename_i k0
    rw [if_neg k0] at h
    split
    · rename_i k1
      rw [if_pos k1] at h
      exact turn_same h
    · rename_i k1
      rw [if_neg k1] at h
      split
      · rename_i k2
        rw [if_pos k2] at h
        exact turn_same h
      · rfl
theorem free_pos {a : Ac} {x : Int} (h : freeB a x = true) : inI (a.h - a.s - x) = true ∧ -a.l ≤ a.h - a.s - x := by
  unfold freeB at h
  simp at h
  exact ⟨h.1.2, h.2⟩
theorem mem_setC_name {C : List Ac} {a y : Ac} (h : y ∈ setC C a) (hn : y.n = a.n) : y = a := by
  unfold setC at h
  obtain ⟨z, hz, rfl⟩ := List.mem_map.1 h
  by_cases e : z.n = a.n
  · simp [e]
  · simp only [show (z.n == a.n) = false by simpa using e] at hn ⊢
    exact absurd hn e
/-- an account of the name that has less than it may: then nothing was changed -/
theorem free_law {C : List Ac} {k : Nat} {s : List UInt8} {x : Int} {a : Ac} (hs : SortedC C) (ho : OkC C) (ha : a ∈ (stepR C k s x).1) (hn : a.n = s) (hk : (k = 1 ∧ 0 ≤ x) ∨ (k = 2 ∧ 0 < x)) (hlow : wrap64 (a.h - a.s) < -a.l) : (stepR C k s x).1 = C := by
  by_cases he : (stepR C k s x).2 = 0
  · rcases hk with ⟨rfl, hx⟩ | ⟨rfl, hx⟩
    · have e : stepR C 1 s x = turnR C s x (giveA x) := by unfold stepR; simp
      rw [e] at he ha ⊢
      obtain ⟨a0, hg, h1, h2, h3, h4⟩ := turn_zero he
      obtain ⟨h5, h6⟩ := actR_zero h1
      have e1 : (giveA x a0).1 = { a0 with h := a0.h - x } := by unfold giveA; rw [h6]
      rw [h4, e1] at ha ⊢
      have hn0 := getC_name hg
      have hm := getC_mem hg
      have hea := mem_setC_name ha (by rw [hn]; exact hn0.symm)
      by_cases x0 : x = 0
      · subst x0
        have : ({ a0 with h := a0.h - 0 } : Ac) = a0 := by rw [Int.sub_zero]
        dsimp only
        rw [this]; exact setC_self hs hm
      · exfalso
        have hf : freeB a0 x = true := by
          cases hh : freeB a0 x with
          | true => rfl
          | false => exact absurd ⟨by omega, hh⟩ h2
        obtain ⟨f1, f2⟩ := free_pos hf
        have hi := inI_yes.1 f1
        subst hea
        dsimp only at hlow
        rw [show a0.h - x - a0.s = a0.h - a0.s - x by omega, IntWalk.wrap64_in _ hi] at hlow
        omega
    · have e : stepR C 2 s x = turnR C s x (asideA x) := by unfold stepR; simp
      rw [e] at he ha ⊢
      obtain ⟨a0, hg, h1, h2, h3, h4⟩ := turn_zero he
      obtain ⟨h5, h6⟩ := actR_zero h1
      have e1 : (asideA x a0).1 = { a0 with s := a0.s + x } := by unfold asideA; rw [h6]
      rw [h4, e1] at ha ⊢
      have hn0 := getC_name hg
      have hea := mem_setC_name ha (by rw [hn]; exact hn0.symm)
      exfalso
      have hf : freeB a0 x = true := by
        cases hh : freeB a0 x with
        | true => rfl
        | false => exact absurd ⟨by omega, hh⟩ h2
      obtain ⟨f1, f2⟩ := free_pos hf
      have hi := inI_yes.1 f1
      subst hea
      dsimp only at hlow
      rw [show a0.h - (a0.s + x) = a0.h - a0.s - x by omega, IntWalk.wrap64_in _ hi] at hlow
      omega
  · exact step_same he
theorem less_before : ∀ a b : List UInt8, Op.bytesLess a b = bytesBefore a b
  | [], [] => rfl
  | [], _ :: _ => rfl
  | _ :: _, [] => rfl
  | a :: x, b :: y => by
    unfold Op.bytesLess bytesBefore
    rw [less_before x y]
end Go.Proofs.Ytgljnlafjolfpaa
