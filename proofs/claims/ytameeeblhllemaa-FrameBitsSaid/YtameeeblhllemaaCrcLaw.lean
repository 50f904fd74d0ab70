/-
  The sum as a function on lists: one-to-one in each step; the sum of bytes with their own sum behind them. No condition.
-/
import Derived.Test.YtameeeblhllemaaFrm
namespace Go.Proofs.Ytameeeblhllemaa
theorem xor_cl {a b c : Nat} (h : a ^^^ b = a ^^^ c) : b = c := by
  have : a ^^^ (a ^^^ b) = a ^^^ (a ^^^ c) := by rw [h]
  rwa [← Nat.xor_assoc, ← Nat.xor_assoc, Nat.xor_self, Nat.zero_xor, Nat.zero_xor] at this
theorem xor_cr {a b c : Nat} (h : b ^^^ a = c ^^^ a) : b = c := xor_cl (a := a) (by rw [Nat.xor_comm a, Nat.xor_comm a, h])
theorem step1_inj {a b : Nat} (ha : a < 4294967296) (hb : b < 4294967296) (h : step1 a = step1 b) : a = b := by
  unfold step1 at h
  have la : a / 2 < 2 ^ 31 := by omega
  have lb : b / 2 < 2 ^ 31 := by omega
  have lx : a / 2 ^^^ b / 2 < 2 ^ 31 := Nat.xor_lt_two_pow la lb
  by_cases p : a % 2 = 1 <;> by_cases q : b % 2 = 1
  · rw [if_pos p, if_pos q] at h
    have := xor_cr h
    omega
  · rw [if_pos p, if_neg q] at h
    rw [Nat.xor_zero] at h
    have h2 : a / 2 ^^^ b / 2 = 3988292384 := by rw [← h, ← Nat.xor_assoc, Nat.xor_self, Nat.zero_xor]
    omega
  · rw [if_neg p, if_pos q] at h
    rw [Nat.xor_zero] at h
    have h2 : a / 2 ^^^ b / 2 = 3988292384 := by rw [h, Nat.xor_comm (b / 2), Nat.xor_assoc, Nat.xor_self, Nat.xor_zero]
    omega
  · rw [if_neg p, if_neg q] at h
    rw [Nat.xor_zero, Nat.xor_zero] at h
    omega
theorem stepN_inj : ∀ (n : Nat) {a b : Nat}, a < 4294967296 → b < 4294967296 → stepN n a = stepN n b → a = b := by
  intro n
  induction n with
  | zero => intro a b _ _ h; exact h
  | succ n ih =>
    intro a b ha hb h
    exact ih ha hb (step1_inj (stepN_lt n a ha) (stepN_lt n b hb) h)
theorem xor32 {s : Nat} (b : UInt8) (hs : s < 4294967296) : s ^^^ b.toNat < 4294967296 := Nat.xor_lt_two_pow (n := 32) hs (by have := b.toNat_lt; omega)
theorem crcStep_inj {s s' : Nat} (b : UInt8) (hs : s < 4294967296) (hs' : s' < 4294967296) (h : crcStep s b = crcStep s' b) : s = s' := by
  rw [crcStep_eq, crcStep_eq] at h
  exact xor_cr (stepN_inj 8 (xor32 b hs) (xor32 b hs') h)
theorem crcStep_byte {s : Nat} (b b' : UInt8) (hs : s < 4294967296) (h : crcStep s b = crcStep s b') : b = b' := by
  rw [crcStep_eq, crcStep_eq] at h
  exact UInt8.toNat_inj.1 (xor_cl (stepN_inj 8 (xor32 b hs) (xor32 b' hs) h))
theorem foldl_inj : ∀ (l : List UInt8) {s s' : Nat}, s < 4294967296 → s' < 4294967296 → l.foldl crcStep s = l.foldl crcStep s' → s = s' := by
  intro l
  induction l with
  | nil => intro s s' _ _ h; exact h
  | cons b l ih => intro s s' hs hs' h; exact crcStep_inj b hs hs' (ih (crcStep_lt s b hs) (crcStep_lt s' b hs') h)
theorem crc_inj_fold {a b : List UInt8} (h : crc a = crc b) : crcFold a = crcFold b := by
  have := crcFold_lt a
  have := crcFold_lt b
  unfold crc at h
  omega
theorem crc_set (l : List UInt8) (k : Nat) (c : UInt8) (hk : k < l.length) : crc (l.set k c) = crc l ↔ c = l[k] := by
  constructor
  · intro h
    have h := crc_inj_fold h
    have e : l = l.take k ++ l[k] :: l.drop (k + 1) := by rw [List.getElem_cons_drop, List.take_append_drop]
    have e2 : l.set k c = l.take k ++ c :: l.drop (k + 1) := by rw [List.set_eq_take_append_cons_drop, if_pos hk]
    rw [e2] at h
    conv at h => rhs; rw [e]
    simp only [crcFold, List.foldl_append, List.foldl_cons] at h
    have h0 := foldl_lt (l.take k) 4294967295 (by omega)
    exact crcStep_byte _ _ h0 (foldl_inj _ (crcStep_lt _ _ h0) (crcStep_lt _ _ h0) h)
  · rintro rfl
    rw [List.set_getElem_self]
theorem crc_nil : crc [] = 0 := by unfold crc crcFold; rfl

theorem two_steps (n : Nat) (x : Nat) (b : UInt8) : crcStep (stepN n x) b = stepN (n + 8) (x ^^^ (b.toNat * 2 ^ n)) := by
  have e : stepN n x ^^^ b.toNat = stepN n (x ^^^ (b.toNat * 2 ^ n)) := by rw [stepN_lin, stepN_shift]
  have e2 : ∀ m k y, stepN (m + k) y = stepN k (stepN m y) := by
    intro m k
    induction k with
    | zero => intro y; rfl
    | succ k ih => intro y; show step1 (stepN (m + k) y) = step1 (stepN k (stepN m y)); rw [ih y]
  rw [crcStep_eq, e, e2]
/-- The bytes of a sum, the lowest first. -/
def sumBytes (h : Nat) : List UInt8 := [by_ h, by_ (h / 256), by_ (h / 65536), by_ (h / 16777216)]
theorem mul_xor (a b n : Nat) : (a ^^^ b) * 2 ^ n = (a * 2 ^ n) ^^^ (b * 2 ^ n) := by
  rw [← Nat.shiftLeft_eq, ← Nat.shiftLeft_eq, ← Nat.shiftLeft_eq, Nat.shiftLeft_xor_distrib]
theorem four_bytes (h : Nat) (hh : h < 4294967296) : (h % 256) ^^^ ((h / 256 % 256) * 2 ^ 8) ^^^ ((h / 65536 % 256) * 2 ^ 16) ^^^ ((h / 16777216 % 256) * 2 ^ 24) = h := by
  have e1 := split256 h
  have e2 := split256 (h / 256)
  have e3 := split256 (h / 65536)
  have x1 : h / 256 / 256 = h / 65536 := by omega
  have x2 : h / 65536 / 256 = h / 16777216 := by omega
  have x3 : h / 16777216 % 256 = h / 16777216 := by omega
  rw [x1] at e2
  rw [x2] at e3
  rw [x3]
  have y3 : h / 65536 * 2 ^ 8 = (h / 16777216 * 2 ^ 16) ^^^ (h / 65536 % 256 * 2 ^ 8) := by
    conv => lhs; rw [e3, mul_xor]
    rw [Nat.mul_assoc, ← Nat.pow_add]
  have y2 : h / 256 * 2 ^ 8 = (h / 16777216 * 2 ^ 24) ^^^ (h / 65536 % 256 * 2 ^ 16) ^^^ (h / 256 % 256 * 2 ^ 8) := by
    conv => lhs; rw [e2, mul_xor, y3, mul_xor]
    rw [Nat.mul_assoc, ← Nat.pow_add, Nat.mul_assoc, ← Nat.pow_add]
  conv => rhs; rw [e1, y2]
  ac_rfl
theorem crc_res (l : List UInt8) : crc (l ++ sumBytes (crc l)) = 558161692 := by
  have hq := crcFold_lt l
  have hc := crc_lt l
  have hx : crcFold l ^^^ crc l = 4294967295 := by
    unfold crc
    rw [← not_nat _ hq, Nat.xor_comm 4294967295, ← Nat.xor_assoc, Nat.xor_self, Nat.zero_xor]
  have key : crcFold (l ++ sumBytes (crc l)) = stepN 32 4294967295 := by
    have e0 : crcFold (l ++ sumBytes (crc l)) = crcStep (crcStep (crcStep (crcStep (stepN 0 (crcFold l)) (by_ (crc l))) (by_ (crc l / 256))) (by_ (crc l / 65536))) (by_ (crc l / 16777216)) := by
      simp only [crcFold, List.foldl_append, sumBytes, List.foldl_cons, List.foldl_nil]
      rfl
    rw [e0, two_steps, two_steps, two_steps, two_steps]
    simp only [by_toNat]
    have e1 : crcFold l ^^^ crc l % 256 * 2 ^ 0 ^^^ crc l / 256 % 256 * 2 ^ (0 + 8) ^^^ crc l / 65536 % 256 * 2 ^ (0 + 8 + 8) ^^^ crc l / 16777216 % 256 * 2 ^ (0 + 8 + 8 + 8) = crcFold l ^^^ ((crc l % 256) ^^^ ((crc l / 256 % 256) * 2 ^ 8) ^^^ ((crc l / 65536 % 256) * 2 ^ 16) ^^^ ((crc l / 16777216 % 256) * 2 ^ 24)) := by
      rw [Nat.pow_zero, Nat.mul_one]
      simp only [Nat.xor_assoc]
    rw [e1, four_bytes _ hc, hx]
  show 4294967295 - crcFold (l ++ sumBytes (crc l)) = 558161692
  rw [key]
  kernel_rfl
end Go.Proofs.Ytameeeblhllemaa
