/-
  The plain laws of chapter 2: what is read is written so; cut it is torn; what is written is read. No condition.
-/
import Derived.Test.YtnjgcdijpkbloaaPack
import Derived.Test.YtnjgcdijpkbloaaRNums
namespace Go.Proofs.Ytnjgcdijpkbloaa
set_option linter.unusedVariables false
theorem rn_err {l : List UInt8} {v : Int} {e : Nat} {r : List UInt8} (h : rn l 0 = (v, e, r)) (he : e ≠ 0) : r = [] := by
  unfold rn at h
  rw [if_neg (by omega)] at h
  by_cases h1 : (rdNum l).1 = 0
  · rw [if_pos h1] at h; simp only [Prod.mk.injEq] at h; omega
  · rw [if_neg h1] at h; simp only [Prod.mk.injEq] at h; exact h.2.2.symm
theorem rn_yes {l : List UInt8} {v : Int} {r : List UInt8} (h : rn l 0 = (v, 0, r)) : ∃ k, 0 < k ∧ k ≤ l.length ∧ r = l.drop k ∧ l.take k = vb (zig v) ∧ -9223372036854775808 ≤ v ∧ v ≤ 9223372036854775807 ∧ rdNum l = (0, zig v, k) := by
  unfold rn at h
  rw [if_neg (by omega)] at h
  by_cases h1 : (rdNum l).1 = 0
  · rw [if_pos h1] at h
    obtain ⟨c, m, k, hr⟩ : ∃ c m k, rdNum l = (c, m, k) := ⟨_, _, _, rfl⟩
    rw [hr] at h h1
    simp only at h h1
    subst h1
    simp only [Prod.mk.injEq, true_and] at h
    obtain ⟨rfl, rfl⟩ := h
    obtain ⟨a1, a2, a3, a4⟩ := rdNum_once hr
    have hb := unzig_in a4
    exact ⟨k, a1, a2, rfl, by rw [zig_unzig]; exact a3, hb.1, hb.2, by rw [zig_unzig]; exact hr⟩
  · rw [if_neg h1] at h; simp only [Prod.mk.injEq] at h; omega
theorem rn_of {l : List UInt8} {v : Int} {t : List UInt8} (h1 : -9223372036854775808 ≤ v) (h2 : v ≤ 9223372036854775807) (hl : l = vb (zig v) ++ t) : rn l 0 = (v, 0, t) := by
  have h := rdNum_vb (zig v) t (by have := zig_lt h1 h2; simpa using this)
  rw [← hl] at h
  unfold rn
  rw [if_neg (by omega), h]
  simp only [if_true, unzig_zig]
  rw [hl, List.drop_left]
theorem rn_cut {l : List UInt8} {v : Int} {k j : Nat} (h : rdNum l = (0, zig v, k)) (hj : j < k) : rn (l.take j) 0 = (0, 4, []) := by
  unfold rn
  rw [if_neg (by omega), rdNum_cut h hj]
  simp
theorem rnl_err : ∀ (n : Nat) (pre xs : List Int) (l : List UInt8) (e : Nat) (r : List UInt8), rnl n pre l = (xs, e, r) → e ≠ 0 → xs = [] ∧ r = [] := by
  intro n
  induction n with
  | zero => intro pre xs l e r h he; simp only [rnl, Prod.mk.injEq] at h; omega
  | succ n ih =>
    intro pre xs l e r h he
    simp only [rnl] at h
    by_cases h1 : (rn l 0).2.1 ≠ 0
    · rw [if_pos h1] at h
      simp only [Prod.mk.injEq] at h
      obtain ⟨a, b, c, hr⟩ : ∃ a b c, rn l 0 = (a, b, c) := ⟨_, _, _, rfl⟩
      rw [hr] at h h1
      exact ⟨h.1.symm, by rw [← (by simpa using congrArg (·.2) h.2 : c = r)]; exact rn_err hr h1⟩
    · rw [if_neg h1] at h
      exact ih _ _ _ _ _ h he
theorem rns_err {most : Int} {l : List UInt8} {xs : List Int} {e : Nat} {r : List UInt8} (h : rns most l 0 = (xs, e, r)) (he : e ≠ 0) : xs = [] ∧ r = [] := by
  unfold rns at h
  by_cases h1 : (rg 0 most l 0).2.1 ≠ 0
  · rw [if_pos h1] at h
    simp only [Prod.mk.injEq] at h
    refine ⟨h.1.symm, ?_⟩
    have h2 := h.2
    unfold rg at h2 h1
    by_cases h3 : (rn l 0).2.1 ≠ 0
    · rw [if_pos h3] at h2
      obtain ⟨a, b, c, hr⟩ : ∃ a b c, rn l 0 = (a, b, c) := ⟨_, _, _, rfl⟩
      rw [hr] at h2 h3
      have := rn_err hr h3
      rw [this] at h2
      exact (by simpa using congrArg (·.2) h2 : [] = r).symm
    · rw [if_neg h3] at h2 h1
      by_cases h4 : (rn l 0).1 < 0 ∨ most < (rn l 0).1
      · rw [if_pos h4] at h2
        exact (by simpa using congrArg (·.2) h2 : [] = r).symm
      · rw [if_neg h4] at h1
        exact absurd h1 h3
  · rw [if_neg h1] at h
    exact rnl_err _ _ _ _ _ _ h he
theorem rnl_yes : ∀ (n : Nat) (pre xs : List Int) (l : List UInt8) (r : List UInt8), rnl n pre l = (xs, 0, r) → ∃ ys k, xs = pre ++ ys ∧ ys.length = n ∧ k ≤ l.length ∧ r = l.drop k ∧ l.take k = ys.flatMap (fun x => vb (zig x)) ∧ i64In ys ∧
    (∀ j, j < k → ∀ q, (rnl n q (l.take j)).2.1 = 4) := by
  intro n
  induction n with
  | zero =>
    intro pre xs l r h
    simp only [rnl, Prod.mk.injEq] at h
    obtain ⟨rfl, _, rfl⟩ := h
    exact ⟨[], 0, by simp, rfl, by omega, by simp, by simp, by simp [i64In], fun j hj => by omega⟩
  | succ n ih =>
    intro pre xs l r h
    obtain ⟨v, e, l1, hr⟩ : ∃ v e l1, rn l 0 = (v, e, l1) := ⟨_, _, _, rfl⟩
    simp only [rnl, hr] at h
    by_cases h1 : e ≠ 0
    · rw [if_pos h1] at h; simp only [Prod.mk.injEq] at h; omega
    · rw [if_neg h1] at h
      have : e = 0 := by omega
      subst this
      obtain ⟨k1, a1, a2, rfl, a4, a5, a6, a7⟩ := rn_yes hr
      obtain ⟨ys, k2, b1, b2, b3, b4, b5, b6, b7⟩ := ih _ _ _ _ h
      rw [List.length_drop] at b3
      refine ⟨v :: ys, k1 + k2, by rw [b1]; simp, by simp [b2], by omega, by rw [b4, List.drop_drop], ?_, ?_, ?_⟩
      · rw [List.take_add, b5, a4]; simp
      · intro x hx
        rcases List.mem_cons.1 hx with rfl | hx
        · exact ⟨a5, a6⟩
        · exact b6 x hx
      · intro j hj q
        by_cases hjk : j < k1
        · simp only [rnl, rn_cut a7 hjk]; simp
        · have e1 : l.take j = vb (zig v) ++ (l.drop k1).take (j - k1) := by
            rw [← a4, ← List.take_add, show k1 + (j - k1) = j by omega]
          simp only [rnl, rn_of a5 a6 e1]
          rw [if_neg (by omega)]
          exact b7 _ (by omega) _
/-- PackOnce's heart. -/
theorem rns_yes {most : Int} {l : List UInt8} {xs : List Int} {r : List UInt8} (h : rns most l 0 = (xs, 0, r)) :
    ∃ k, 0 < k ∧ k ≤ l.length ∧ r = l.drop k ∧ l.take k = numsB xs ∧ i64In xs ∧ (xs.length : Int) ≤ most ∧ ∀ j, j < k → (rns most (l.take j) 0).2.1 = 4 := by
  obtain ⟨v, e, l1, hr⟩ : ∃ v e l1, rg 0 most l 0 = (v, e, l1) := ⟨_, _, _, rfl⟩
  unfold rns at h
  rw [hr] at h
  by_cases h1 : e ≠ 0
  · rw [if_pos h1] at h; simp only [Prod.mk.injEq] at h; omega
  · rw [if_neg h1] at h
    have : e = 0 := by omega
    subst this
    have hb := rg_bound hr
    have hrn : rn l 0 = (v, 0, l1) := by
      unfold rg at hr
      by_cases h3 : (rn l 0).2.1 ≠ 0
      · rw [if_pos h3] at hr
        exfalso
        exact h3 (congrArg (·.2.1) hr)
      · rw [if_neg h3] at hr
        by_cases h4 : (rn l 0).1 < 0 ∨ most < (rn l 0).1
        · rw [if_pos h4] at hr; simp at hr
        · rw [if_neg h4] at hr; exact hr
    obtain ⟨k1, a1, a2, rfl, a4, a5, a6, a7⟩ := rn_yes hrn
    obtain ⟨ys, k2, b1, b2, b3, b4, b5, b6, b7⟩ := rnl_yes _ _ _ _ _ h
    simp only [List.nil_append] at b1
    subst b1
    rw [List.length_drop] at b3
    have hlen : (xs.length : Int) = v := by rw [b2]; simp only; omega
    refine ⟨k1 + k2, by omega, by omega, by rw [b4, List.drop_drop], ?_, b6, by omega, ?_⟩
    · rw [List.take_add, b5, a4, numsB, hlen]
    · intro j hj
      unfold rns rg
      by_cases hjk : j < k1
      · rw [rn_cut a7 hjk]; simp
      · have e1 : l.take j = vb (zig v) ++ (l.drop k1).take (j - k1) := by
          rw [← a4, ← List.take_add, show k1 + (j - k1) = j by omega]
        rw [rn_of a5 a6 e1]
        simp only
        rw [if_neg (by omega : ¬ (v < 0 ∨ most < v))]
        simp only [ne_eq, not_true_eq_false, if_false]
        exact b7 _ (by omega) _
end Go.Proofs.Ytnjgcdijpkbloaa
