/-
  The checksum, as a function on natural numbers; the table, the bitwise form, and that both are one. No condition.
-/
import Derived.Test.YtameeeblhllemaaBits
namespace Go.Proofs.Ytameeeblhllemaa
def step1 (h : Nat) : Nat := (h / 2) ^^^ (if h % 2 = 1 then 3988292384 else 0)
def stepN : Nat → Nat → Nat
  | 0, h => h
  | n + 1, h => step1 (stepN n h)
def tabN (i : Nat) : Nat := stepN 8 i
def crcStep (h : Nat) (b : UInt8) : Nat := (h / 256) ^^^ tabN ((h % 256) ^^^ b.toNat)
def crcFold (l : List UInt8) : Nat := l.foldl crcStep 4294967295
def crc (l : List UInt8) : Nat := 4294967295 - crcFold l

theorem xor_div2 (a b : Nat) : (a ^^^ b) / 2 = (a / 2) ^^^ (b / 2) := by
  have := Nat.shiftRight_xor_distrib (a := a) (b := b) (i := 1)
  simpa [Nat.shiftRight_eq_div_pow] using this
theorem xor_mod2 (a b : Nat) : (a ^^^ b) % 2 = (a % 2) ^^^ (b % 2) := by
  have := Nat.xor_mod_two_pow (a := a) (b := b) (n := 1)
  simpa using this
theorem step1_lin (a b : Nat) : step1 (a ^^^ b) = step1 a ^^^ step1 b := by
  unfold step1
  rw [xor_div2, xor_mod2]
  rcases Nat.mod_two_eq_zero_or_one a with h | h <;> rcases Nat.mod_two_eq_zero_or_one b with h' | h' <;> simp [h, h']
  · rw [Nat.xor_assoc]
  · rw [Nat.xor_assoc, Nat.xor_assoc, Nat.xor_comm 3988292384 (b / 2)]
  · rw [Nat.xor_assoc, Nat.xor_comm 3988292384, Nat.xor_assoc, Nat.xor_self, Nat.xor_zero]
theorem stepN_lin (n : Nat) : ∀ a b, stepN n (a ^^^ b) = stepN n a ^^^ stepN n b := by
  induction n with
  | zero => intro a b; rfl
  | succ n ih => intro a b; simp only [stepN, ih, step1_lin]
theorem step1_lt (h : Nat) (hh : h < 4294967296) : step1 h < 4294967296 := by
  unfold step1
  have : (h / 2) ^^^ (if h % 2 = 1 then 3988292384 else 0) < 2 ^ 32 := Nat.xor_lt_two_pow (by omega) (by split <;> omega)
  exact this
theorem stepN_lt (n : Nat) : ∀ h, h < 4294967296 → stepN n h < 4294967296 := by
  induction n with
  | zero => intro h hh; exact hh
  | succ n ih => intro h hh; exact step1_lt _ (ih h hh)
theorem step1_even (h : Nat) : step1 (h * 2) = h := by
  unfold step1
  rw [if_neg (by omega), Nat.xor_zero]
  omega
theorem stepN_shift (n : Nat) : ∀ h, stepN n (h * 2 ^ n) = h := by
  induction n with
  | zero => intro h; simp [stepN]
  | succ n ih =>
    intro h
    have e : h * 2 ^ (n + 1) = (h * 2) * 2 ^ n := by rw [Nat.pow_succ]; rw [Nat.mul_assoc, Nat.mul_comm 2]
    rw [stepN, e, ih, step1_even]
theorem tabN_lt (i : Nat) (h : i < 256) : tabN i < 4294967296 := stepN_lt 8 i (by omega)
theorem xor_lt8 (a b : Nat) (ha : a < 256) (hb : b < 256) : a ^^^ b < 256 := Nat.xor_lt_two_pow (n := 8) ha hb
theorem split256 (h : Nat) : h = (h / 256 * 2 ^ 8) ^^^ (h % 256) := by
  have h1 : h / 256 * 2 ^ 8 ^^^ h % 256 = (h / 256 * 2 ^ 8) ||| (h % 256) := by
    apply Nat.eq_of_testBit_eq
    intro i
    rw [Nat.testBit_xor, Nat.testBit_or, Nat.mul_comm, Nat.testBit_two_pow_mul]
    by_cases hi : 8 ≤ i
    · have : (h % 256).testBit i = false := Nat.testBit_lt_two_pow (Nat.lt_of_lt_of_le (Nat.mod_lt _ (by omega)) (Nat.pow_le_pow_right (n := 2) (by omega) hi : 2 ^ 8 ≤ 2 ^ i))
      simp [this]
    · simp [hi]
  rw [h1, or_add _ _ 8 (by omega)]
  omega
/-- The table's step is eight single steps. -/
theorem crcStep_eq (h : Nat) (b : UInt8) : crcStep h b = stepN 8 (h ^^^ b.toNat) := by
  unfold crcStep tabN
  conv => rhs; rw [split256 h, Nat.xor_assoc, stepN_lin, stepN_shift]
theorem crcStep_lt (h : Nat) (b : UInt8) (hh : h < 4294967296) : crcStep h b < 4294967296 := by
  rw [crcStep_eq]
  exact stepN_lt 8 _ (Nat.xor_lt_two_pow (n := 32) hh (by have := b.toNat_lt; omega))
theorem foldl_lt : ∀ (l : List UInt8) (h : Nat), h < 4294967296 → l.foldl crcStep h < 4294967296 := by
  intro l
  induction l with
  | nil => intro h hh; exact hh
  | cons b l ih => intro h hh; exact ih _ (crcStep_lt h b hh)
theorem crcFold_lt (l : List UInt8) : crcFold l < 4294967296 := foldl_lt l _ (by omega)
theorem crc_lt (l : List UInt8) : crc l < 4294967296 := by unfold crc; omega
theorem crcFold_snoc (l : List UInt8) (b : UInt8) : crcFold (l ++ [b]) = crcStep (crcFold l) b := by simp [crcFold]
end Go.Proofs.Ytameeeblhllemaa
