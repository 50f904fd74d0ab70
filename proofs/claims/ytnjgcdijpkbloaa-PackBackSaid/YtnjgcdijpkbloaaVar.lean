/-
  Numbers as bytes, as a function on lists: seven bits a byte, the lowest first. No condition.
-/
import Derived.Test.YtnjgcdijpkbloaaMem2
namespace Go.Proofs.Ytnjgcdijpkbloaa
def by_ (n : Nat) : UInt8 := UInt8.ofNat n
theorem by_toNat (n : Nat) : (by_ n).toNat = n % 256 := by simp [by_]
theorem by_eq (n : Nat) (x : UInt8) (h : n % 256 = x.toNat) : by_ n = x := UInt8.toNat_inj.1 (by rw [by_toNat, h])
def vbF : Nat → Nat → List UInt8
  | 0, _ => []
  | f + 1, m => if m < 128 then [by_ m] else by_ (m % 128 + 128) :: vbF f (m / 128)
/-- The bytes of a number without its sign. -/
def vb (m : Nat) : List UInt8 := vbF 10 m
/-- What reading tells, with i bytes read and m their bits: its error, the number, how many bytes. -/
def rdF : Nat → Nat → List UInt8 → Nat × Nat × Nat
  | _, _, [] => (4, 0, 0)
  | m, i, c :: t =>
    if i = 10 ∨ (i = 9 ∧ 1 < c.toNat) then (if t = [] ∧ 128 ≤ c.toNat ∧ i < 10 then 4 else 3, 0, 0)
    else if c.toNat < 128 ∧ c.toNat = 0 ∧ 0 < i then (3, 0, 0)
    else if c.toNat < 128 then (0, m + c.toNat * 2 ^ (7 * i), i + 1)
    else rdF (m + (c.toNat - 128) * 2 ^ (7 * i)) (i + 1) t
def rdNum (l : List UInt8) : Nat × Nat × Nat := rdF 0 0 l

/-- What is written is read. -/
theorem rdF_vbF : ∀ (f i m a : Nat) (t : List UInt8), f + i = 10 → m < 2 ^ (64 - 7 * i) → (0 < i → 0 < m) → rdF a i (vbF f m ++ t) = (0, a + m * 2 ^ (7 * i), i + (vbF f m).length) := by
  intro f
  induction f with
  | zero =>
    intro i m a t hf hm h0
    have : i = 10 := by omega
    subst this
    simp at hm
    have := h0 (by omega)
    omega
  | succ f ih =>
    intro i m a t hf hm h0
    simp only [vbF]
    by_cases h1 : m < 128
    · rw [if_pos h1]
      have e : (by_ m).toNat = m := by rw [by_toNat]; omega
      simp only [List.singleton_append, rdF, e]
      rw [if_neg (by
        rintro (h | ⟨h, h2⟩)
        · omega
        · subst h; simp at hm; omega), if_neg (by rintro ⟨_, h2, h3⟩; have := h0 h3; omega), if_pos h1]
      simp
    · rw [if_neg h1]
      have e : (by_ (m % 128 + 128)).toNat = m % 128 + 128 := by rw [by_toNat]; omega
      have hi : i < 9 := by
        rcases Nat.lt_or_ge i 9 with h | h
        · exact h
        · exfalso
          have : 64 - 7 * i ≤ 1 := by omega
          have h2 := Nat.pow_le_pow_right (n := 2) (by omega) this
          omega
      simp only [List.cons_append, rdF, e]
      rw [if_neg (by rintro (h | ⟨h, _⟩) <;> omega), if_neg (by rintro ⟨h, _⟩; omega), if_neg (by omega)]
      have hp : 2 ^ (64 - 7 * i) = 2 ^ (64 - 7 * (i + 1)) * 128 := by
        have e : 64 - 7 * i = 64 - 7 * (i + 1) + 7 := by omega
        rw [e, Nat.pow_add]
      rw [ih (i + 1) (m / 128) _ t (by omega) (by rw [hp] at hm; exact Nat.div_lt_of_lt_mul (by rw [Nat.mul_comm]; exact hm)) (fun _ => by omega)]
      have e2 : m % 128 + 128 - 128 = m % 128 := by omega
      have e3 : 2 ^ (7 * (i + 1)) = 128 * 2 ^ (7 * i) := by
        have e : 7 * (i + 1) = 7 + 7 * i := by omega
        rw [e, Nat.pow_add]
      rw [e2, e3]
      simp only [Prod.mk.injEq, true_and, List.length_cons]
      refine ⟨?_, by omega⟩
      have e4 : m % 128 + m / 128 * 128 = m := by omega
      rw [← Nat.mul_assoc, Nat.add_assoc, ← Nat.add_mul, e4]
theorem rdNum_vb (m : Nat) (t : List UInt8) (hm : m < 2 ^ 64) : rdNum (vb m ++ t) = (0, m, (vb m).length) := by
  have := rdF_vbF 10 0 m 0 t (by omega) (by simpa using hm) (by omega)
  simpa [rdNum, vb] using this
/-- Cut ahead of a number's last byte: torn. -/
theorem rdF_cut : ∀ (l : List UInt8) (i a m k j : Nat), rdF a i l = (0, m, k) → i + j < k → rdF a i (l.take j) = (4, 0, 0) := by
  intro l
  induction l with
  | nil => intro i a m k j h; simp [rdF] at h
  | cons c t ih =>
    intro i a m k j h hj
    cases j with
    | zero => rfl
    | succ j =>
      simp only [rdF, List.take_succ_cons] at h ⊢
      by_cases h1 : i = 10 ∨ (i = 9 ∧ 1 < c.toNat)
      · rw [if_pos h1] at h
        exfalso
        have := congrArg (·.1) h
        simp only at this
        split at this <;> omega
      · rw [if_neg h1] at h ⊢
        by_cases h2 : c.toNat < 128 ∧ c.toNat = 0 ∧ 0 < i
        · rw [if_pos h2] at h
          simp at h
        · rw [if_neg h2] at h ⊢
          by_cases h3 : c.toNat < 128
          · rw [if_pos h3] at h
            simp only [Prod.mk.injEq] at h
            omega
          · rw [if_neg h3] at h ⊢
            exact ih _ _ m k j h (by omega)
theorem rdNum_cut {l : List UInt8} {m k j : Nat} (h : rdNum l = (0, m, k)) (hj : j < k) : rdNum (l.take j) = (4, 0, 0) := rdF_cut l 0 0 m k j h (by omega)
/-- What is read is written so. -/
theorem rdF_once : ∀ (l : List UInt8) (i a M k : Nat), i ≤ 10 → rdF a i l = (0, M, k) → ∃ m, M = a + m * 2 ^ (7 * i) ∧ i < k ∧ k ≤ i + l.length ∧ l.take (k - i) = vbF (10 - i) m ∧ (0 < i → 0 < m) ∧ m < 2 ^ (64 - 7 * i) := by
  intro l
  induction l with
  | nil => intro i a M k _ h; simp [rdF] at h
  | cons c t ih =>
    intro i a M k hi h
    simp only [rdF] at h
    have hc := c.toNat_lt
    by_cases h1 : i = 10 ∨ (i = 9 ∧ 1 < c.toNat)
    · rw [if_pos h1] at h
      exfalso
      have := congrArg (·.1) h
      simp only at this
      split at this <;> omega
    · rw [if_neg h1] at h
      have hi9 : i ≤ 9 := by omega
      have hf : 10 - i = (9 - i) + 1 := by omega
      by_cases h2 : c.toNat < 128 ∧ c.toNat = 0 ∧ 0 < i
      · rw [if_pos h2] at h
        simp at h
      · rw [if_neg h2] at h
        by_cases h3 : c.toNat < 128
        · rw [if_pos h3] at h
          simp only [Prod.mk.injEq, true_and] at h
          obtain ⟨rfl, rfl⟩ := h
          refine ⟨c.toNat, rfl, by omega, by simp, ?_, fun h0 => by omega, ?_⟩
          · rw [hf]
            simp only [vbF]
            rw [if_pos h3, show i + 1 - i = 1 by omega]
            simp only [List.take_succ_cons, List.take_zero]
            rw [by_eq c.toNat c (by omega)]
          · by_cases h9 : i = 9
            · subst h9
              have : c.toNat < 2 := by omega
              simpa using this
            · have : 2 ^ 8 ≤ 2 ^ (64 - 7 * i) := Nat.pow_le_pow_right (by omega) (by omega)
              omega
        · rw [if_neg h3] at h
          have hi8 : i ≤ 8 := by omega
          obtain ⟨m, hM, hk, hkl, ht, hm0, hml⟩ := ih (i + 1) _ M k (by omega) h
          have hmp := hm0 (by omega)
          refine ⟨(c.toNat - 128) + m * 128, ?_, by omega, by simp only [List.length_cons]; omega, ?_, fun _ => by omega, ?_⟩
          · rw [hM]
            have e : 7 * (i + 1) = 7 + 7 * i := by omega
            rw [e, Nat.pow_add, ← Nat.mul_assoc, Nat.add_assoc, ← Nat.add_mul]
          · rw [hf]
            simp only [vbF]
            rw [if_neg (by omega), show k - i = (k - (i + 1)) + 1 by omega, List.take_succ_cons, ht]
            rw [by_eq _ c (by omega), show (c.toNat - 128 + m * 128) / 128 = m by omega, show 10 - (i + 1) = 9 - i by omega]
          · have e : 64 - 7 * i = 64 - 7 * (i + 1) + 7 := by omega
            rw [e, Nat.pow_add]
            have := Nat.mul_le_mul_right 128 (show m + 1 ≤ 2 ^ (64 - 7 * (i + 1)) from hml)
            omega
theorem rdNum_once {l : List UInt8} {m k : Nat} (h : rdNum l = (0, m, k)) : 0 < k ∧ k ≤ l.length ∧ l.take k = vb m ∧ m < 18446744073709551616 := by
  obtain ⟨m', hM, h1, h2, h3, _, h5⟩ := rdF_once l 0 0 m k (by omega) h
  have e : m = m' := by simpa using hM
  subst e
  exact ⟨h1, by omega, by simpa [vb] using h3, by simpa using h5⟩
end Go.Proofs.Ytnjgcdijpkbloaa
