import Derived.Test.YtimlfdihodoolaaGreatZp1
import Derived.WalkKit
import Derived.Laws.BitsAllLaws
import Derived.Laws.BitsLemmas
import Derived.Test.YtimlfdihodoolaaGreatRows
import Derived.Deep.RegionLaw
import Derived.ChangeAlike
import Derived.Deep.QuietTactic
import Derived.Deep.MidRow
import Derived.Laws.ResultCell
/-
  Numbers as bytes, as a function on lists: seven bits a byte, the lowest first. No condition.
-/
namespace Go.Proofs.YtimlfdihodoolaaGreat
set_option linter.unusedVariables false
set_option linter.unusedSimpArgs false
def by_ (n : Nat) : UInt8 := UInt8.ofNat n
theorem by_toNat (n : Nat) : (by_ n).toNat = n % 256 := by simp [by_]
theorem by_eq (n : Nat) (x : UInt8) (h : n % 256 = x.toNat) : by_ n = x := UInt8.toNat_inj.1 (by rw [by_toNat, h])
def vbF : Nat → Nat → List UInt8
  | 0, _ => []
  | f + 1, m => if m < 128 then [by_ m] else by_ (m % 128 + 128) :: vbF f (m / 128)
/-- The bytes of a number without its sign. -/
def vb (m : Nat) : List UInt8 := vbF 10 m
/-- What reading tells, with i bytes read and m their bits: its error, the number, how many bytes. -/
def rdF : Nat → Nat → List UInt8 → Nat × Nat × Nat
  | _, _, [] => (4, 0, 0)
  | m, i, c :: t =>
    if i = 10 ∨ (i = 9 ∧ 1 < c.toNat) then (if t = [] ∧ 128 ≤ c.toNat ∧ i < 10 then 4 else 3, 0, 0)
    else if c.toNat < 128 ∧ c.toNat = 0 ∧ 0 < i then (3, 0, 0)
    else if c.toNat < 128 then (0, m + c.toNat * 2 ^ (7 * i), i + 1)
    else rdF (m + (c.toNat - 128) * 2 ^ (7 * i)) (i + 1) t
def rdNum (l : List UInt8) : Nat × Nat × Nat := rdF 0 0 l

/-- What is written is read. -/
theorem rdF_vbF : ∀ (f i m a : Nat) (t : List UInt8), f + i = 10 → m < 2 ^ (64 - 7 * i) → (0 < i → 0 < m) → rdF a i (vbF f m ++ t) = (0, a + m * 2 ^ (7 * i), i + (vbF f m).length) := by
  intro f
  induction f with
  | zero =>
    intro i m a t hf hm h0
    have : i = 10 := by omega
    subst this
    simp at hm
    have := h0 (by omega)
    omega
  | succ f ih =>
    intro i m a t hf hm h0
    simp only [vbF]
    by_cases h1 : m < 128
    · rw [if_pos h1]
      have e : (by_ m).toNat = m := by rw [by_toNat]; omega
      simp only [List.singleton_append, rdF, e]
      rw [if_neg (by
        rintro (h | ⟨h, h2⟩)
        · omega
        · subst h; simp at hm; omega), if_neg (by rintro ⟨_, h2, h3⟩; have := h0 h3; omega), if_pos h1]
      simp
    · rw [if_neg h1]
      have e : (by_ (m % 128 + 128)).toNat = m % 128 + 128 := by rw [by_toNat]; omega
      have hi : i < 9 := by
        rcases Nat.lt_or_ge i 9 with h | h
        · exact h
        · exfalso
          have : 64 - 7 * i ≤ 1 := by omega
          have h2 := Nat.pow_le_pow_right (n := 2) (by omega) this
          omega
      simp only [List.cons_append, rdF, e]
      rw [if_neg (by rintro (h | ⟨h, _⟩) <;> omega), if_neg (by rintro ⟨h, _⟩; omega), if_neg (by omega)]
      have hp : 2 ^ (64 - 7 * i) = 2 ^ (64 - 7 * (i + 1)) * 128 := by
        have e : 64 - 7 * i = 64 - 7 * (i + 1) + 7 := by omega
        rw [e, Nat.pow_add]
      rw [ih (i + 1) (m / 128) _ t (by omega) (by rw [hp] at hm; exact Nat.div_lt_of_lt_mul (by rw [Nat.mul_comm]; exact hm)) (fun _ => by omega)]
      have e2 : m % 128 + 128 - 128 = m % 128 := by omega
      have e3 : 2 ^ (7 * (i + 1)) = 128 * 2 ^ (7 * i) := by
        have e : 7 * (i + 1) = 7 + 7 * i := by omega
        rw [e, Nat.pow_add]
      rw [e2, e3]
      simp only [Prod.mk.injEq, true_and, List.length_cons]
      refine ⟨?_, by omega⟩
      have e4 : m % 128 + m / 128 * 128 = m := by omega
      rw [← Nat.mul_assoc, Nat.add_assoc, ← Nat.add_mul, e4]
theorem rdNum_vb (m : Nat) (t : List UInt8) (hm : m < 2 ^ 64) : rdNum (vb m ++ t) = (0, m, (vb m).length) := by
  have := rdF_vbF 10 0 m 0 t (by omega) (by simpa using hm) (by omega)
  simpa [rdNum, vb] using this
/-- Cut ahead of a number's last byte: torn. -/
theorem rdF_cut : ∀ (l : List UInt8) (i a m k j : Nat), rdF a i l = (0, m, k) → i + j < k → rdF a i (l.take j) = (4, 0, 0) := by
  intro l
  induction l with
  | nil => intro i a m k j h; simp [rdF] at h
  | cons c t ih =>
    intro i a m k j h hj
    cases j with
    | zero => rfl
    | succ j =>
      simp only [rdF, List.take_succ_cons] at h ⊢
      by_cases h1 : i = 10 ∨ (i = 9 ∧ 1 < c.toNat)
      · rw [if_pos h1] at h
        exfalso
        have := congrArg (·.1) h
        simp only at this
        split at this <;> omega
      · rw [if_neg h1] at h ⊢
        by_cases h2 : c.toNat < 128 ∧ c.toNat = 0 ∧ 0 < i
        · rw [if_pos h2] at h
          simp at h
        · rw [if_neg h2] at h ⊢
          by_cases h3 : c.toNat < 128
          · rw [if_pos h3] at h
            simp only [Prod.mk.injEq] at h
            omega
          · rw [if_neg h3] at h ⊢
            exact ih _ _ m k j h (by omega)
theorem rdNum_cut {l : List UInt8} {m k j : Nat} (h : rdNum l = (0, m, k)) (hj : j < k) : rdNum (l.take j) = (4, 0, 0) := rdF_cut l 0 0 m k j h (by omega)
/-- What is read is written so. -/
theorem rdF_once : ∀ (l : List UInt8) (i a M k : Nat), i ≤ 10 → rdF a i l = (0, M, k) → ∃ m, M = a + m * 2 ^ (7 * i) ∧ i < k ∧ k ≤ i + l.length ∧ l.take (k - i) = vbF (10 - i) m ∧ (0 < i → 0 < m) ∧ m < 2 ^ (64 - 7 * i) := by
  intro l
  induction l with
  | nil => intro i a M k _ h; simp [rdF] at h
  | cons c t ih =>
    intro i a M k hi h
    simp only [rdF] at h
    have hc := c.toNat_lt
    by_cases h1 : i = 10 ∨ (i = 9 ∧ 1 < c.toNat)
    · rw [if_pos h1] at h
      exfalso
      have := congrArg (·.1) h
      simp only at this
      split at this <;> omega
    · rw [if_neg h1] at h
      have hi9 : i ≤ 9 := by omega
      have hf : 10 - i = (9 - i) + 1 := by omega
      by_cases h2 : c.toNat < 128 ∧ c.toNat = 0 ∧ 0 < i
      · rw [if_pos h2] at h
        simp at h
      · rw [if_neg h2] at h
        by_cases h3 : c.toNat < 128
        · rw [if_pos h3] at h
          simp only [Prod.mk.injEq, true_and] at h
          obtain ⟨rfl, rfl⟩ := h
          refine ⟨c.toNat, rfl, by omega, by simp, ?_, fun h0 => by omega, ?_⟩
          · rw [hf]
            simp only [vbF]
            rw [if_pos h3, show i + 1 - i = 1 by omega]
            simp only [List.take_succ_cons, List.take_zero]
            rw [by_eq c.toNat c (by omega)]
          · by_cases h9 : i = 9
            · subst h9
              have : c.toNat < 2 := by omega
              simpa using this
            · have : 2 ^ 8 ≤ 2 ^ (64 - 7 * i) := Nat.pow_le_pow_right (by omega) (by omega)
              omega
        · rw [if_neg h3] at h
          have hi8 : i ≤ 8 := by omega
          obtain ⟨m, hM, hk, hkl, ht, hm0, hml⟩ := ih (i + 1) _ M k (by omega) h
          have hmp := hm0 (by omega)
          refine ⟨(c.toNat - 128) + m * 128, ?_, by omega, by simp only [List.length_cons]; omega, ?_, fun _ => by omega, ?_⟩
          · rw [hM]
            have e : 7 * (i + 1) = 7 + 7 * i := by omega
            rw [e, Nat.pow_add, ← Nat.mul_assoc, Nat.add_assoc, ← Nat.add_mul]
          · rw [hf]
            simp only [vbF]
            rw [if_neg (by omega), show k - i = (k - (i + 1)) + 1 by omega, List.take_succ_cons, ht]
            rw [by_eq _ c (by omega), show (c.toNat - 128 + m * 128) / 128 = m by omega, show 10 - (i + 1) = 9 - i by omega]
          · have e : 64 - 7 * i = 64 - 7 * (i + 1) + 7 := by omega
            rw [e, Nat.pow_add]
            have := Nat.mul_le_mul_right 128 (show m + 1 ≤ 2 ^ (64 - 7 * (i + 1)) from hml)
            omega
theorem rdNum_once {l : List UInt8} {m k : Nat} (h : rdNum l = (0, m, k)) : 0 < k ∧ k ≤ l.length ∧ l.take k = vb m ∧ m < 18446744073709551616 := by
  obtain ⟨m', hM, h1, h2, h3, _, h5⟩ := rdF_once l 0 0 m k (by omega) h
  have e : m = m' := by simpa using hM
  subst e
  exact ⟨h1, by omega, by simpa [vb] using h3, by simpa using h5⟩
end Go.Proofs.YtimlfdihodoolaaGreat
/-
  The bit operations of Go on unsigned numbers, as operations on natural numbers. No condition.
-/
namespace Go.Proofs.YtimlfdihodoolaaGreat
set_option linter.unusedVariables false
set_option linter.unusedSimpArgs false
theorem ofInt_nat (n a : Nat) (ha : a < 2 ^ n) : (BitVec.ofInt n (a : Int)).toNat = a := by
  rw [BitVec.ofInt_natCast, BitVec.toNat_ofNat]; exact Nat.mod_eq_of_lt ha
theorem bx8 (a b : Nat) (ha : a < 256) (hb : b < 256) : bits .xor .u8 (a : Int) (b : Int) = ((a ^^^ b : Nat) : Int) := by
  have hx : a ^^^ b < 2 ^ 8 := Nat.xor_lt_two_pow (by omega) (by omega)
  show IntKind.u8.wrap ((BitVec.ofInt 8 (a : Int) ^^^ BitVec.ofInt 8 (b : Int)).toNat : Int) = _
  rw [BitVec.toNat_xor, ofInt_nat 8 a (by omega), ofInt_nat 8 b (by omega), IntKind.wrap_u8]
  omega
theorem bx32 (a b : Nat) (ha : a < 4294967296) (hb : b < 4294967296) : bits .xor .u32 (a : Int) (b : Int) = ((a ^^^ b : Nat) : Int) := by
  have hx : a ^^^ b < 2 ^ 32 := Nat.xor_lt_two_pow (by omega) (by omega)
  show IntKind.u32.wrap ((BitVec.ofInt 32 (a : Int) ^^^ BitVec.ofInt 32 (b : Int)).toNat : Int) = _
  rw [BitVec.toNat_xor, ofInt_nat 32 a (by omega), ofInt_nat 32 b (by omega), IntKind.wrap_u32]
  omega
theorem ba32 (a b : Nat) (ha : a < 4294967296) (hb : b < 4294967296) : bits .and .u32 (a : Int) (b : Int) = ((a &&& b : Nat) : Int) := by
  have hx : a &&& b < 2 ^ 32 := Nat.and_lt_two_pow _ (by omega)
  show IntKind.u32.wrap ((BitVec.ofInt 32 (a : Int) &&& BitVec.ofInt 32 (b : Int)).toNat : Int) = _
  rw [BitVec.toNat_and, ofInt_nat 32 a (by omega), ofInt_nat 32 b (by omega), IntKind.wrap_u32]
  omega
theorem bo32 (a b : Nat) (ha : a < 4294967296) (hb : b < 4294967296) : bits .or .u32 (a : Int) (b : Int) = ((a ||| b : Nat) : Int) := by
  have hx : a ||| b < 2 ^ 32 := Nat.or_lt_two_pow (by omega) (by omega)
  show IntKind.u32.wrap ((BitVec.ofInt 32 (a : Int) ||| BitVec.ofInt 32 (b : Int)).toNat : Int) = _
  rw [BitVec.toNat_or, ofInt_nat 32 a (by omega), ofInt_nat 32 b (by omega), IntKind.wrap_u32]
  omega
theorem bo_i64 (a b : Nat) (ha : a < 9223372036854775808) (hb : b < 9223372036854775808) : bits .or .i64 (a : Int) (b : Int) = ((a ||| b : Nat) : Int) := by
  have hx : a ||| b < 2 ^ 63 := Nat.or_lt_two_pow (by omega) (by omega)
  show IntKind.i64.wrap ((BitVec.ofInt 64 (a : Int) ||| BitVec.ofInt 64 (b : Int)).toNat : Int) = _
  rw [BitVec.toNat_or, ofInt_nat 64 a (by omega), ofInt_nat 64 b (by omega), IntKind.wrap_i64]
  omega
/-- Two numbers that share no bit. -/
theorem or_add (a b k : Nat) (hb : b < 2 ^ k) : (a * 2 ^ k) ||| b = a * 2 ^ k + b := by
  rw [Nat.mul_comm]; exact (Nat.two_pow_add_eq_or_of_lt hb a).symm
end Go.Proofs.YtimlfdihodoolaaGreat
/-
  Numbers without their sign. No condition.
-/
namespace Go.Proofs.YtimlfdihodoolaaGreat
set_option linter.unusedVariables false
set_option linter.unusedSimpArgs false
open Go.RowKit
def zig (n : Int) : Nat := if 0 ≤ n then (2 * n).toNat else (-2 * n - 1).toNat
def unzig (m : Nat) : Int := if m % 2 = 0 then (m / 2 : Nat) else -((m / 2 : Nat) : Int) - 1
theorem unzig_zig (n : Int) : unzig (zig n) = n := by
  unfold unzig zig
  by_cases h : 0 ≤ n
  · rw [if_pos h, if_pos (by omega)]; omega
  · rw [if_neg h, if_neg (by omega)]; omega
theorem zig_unzig (m : Nat) : zig (unzig m) = m := by
  unfold unzig zig
  by_cases h : m % 2 = 0
  · rw [if_pos h, if_pos (by omega)]; omega
  · rw [if_neg h, if_neg (by omega)]; omega
theorem zig_lt {n : Int} (h1 : -9223372036854775808 ≤ n) (h2 : n ≤ 9223372036854775807) : zig n < 18446744073709551616 := by
  unfold zig; split <;> omega
theorem unzig_in {m : Nat} (h : m < 18446744073709551616) : -9223372036854775808 ≤ unzig m ∧ unzig m ≤ 9223372036854775807 := by
  unfold unzig; split <;> omega

theorem bx64 (a b : Nat) (ha : a < 18446744073709551616) (hb : b < 18446744073709551616) : bits .xor .u64 (a : Int) (b : Int) = ((a ^^^ b : Nat) : Int) := by
  have hx : a ^^^ b < 2 ^ 64 := Nat.xor_lt_two_pow (by omega) (by omega)
  show IntKind.u64.wrap ((BitVec.ofInt 64 (a : Int) ^^^ BitVec.ofInt 64 (b : Int)).toNat : Int) = _
  rw [BitVec.toNat_xor, ofInt_nat 64 a (by omega), ofInt_nat 64 b (by omega), IntKind.wrap_u64]
  omega
theorem not64 (q : Nat) (hq : q < 18446744073709551616) : q ^^^ 18446744073709551615 = 18446744073709551615 - q := by
  have h := BitVec.toNat_not (x := BitVec.ofNat 64 q)
  rw [BitVec.not_def, BitVec.toNat_xor, BitVec.toNat_ofNat, Nat.mod_eq_of_lt (by omega : q < 2 ^ 64)] at h
  have e : (BitVec.allOnes 64).toNat = 18446744073709551615 := by decide
  rw [e, Nat.xor_comm] at h
  exact h
theorem fold_bits (n : Int) (h1 : -9223372036854775808 ≤ n) (h2 : n ≤ 9223372036854775807) : bits .xor .u64 (IntKind.u64.wrap (IntKind.u64.wrap n * 2)) (IntKind.u64.wrap (n / 9223372036854775808)) = (zig n : Int) := by
  by_cases h : 0 ≤ n
  · have e1 : IntKind.u64.wrap (IntKind.u64.wrap n * 2) = (((2 * n).toNat : Nat) : Int) := by simp only [IntKind.wrap_u64]; omega
    have e2 : IntKind.u64.wrap (n / 9223372036854775808) = ((0 : Nat) : Int) := by simp only [IntKind.wrap_u64]; omega
    rw [e1, e2, bx64 _ _ (by omega) (by omega), Nat.xor_zero, zig, if_pos h]
  · have e1 : IntKind.u64.wrap (IntKind.u64.wrap n * 2) = (((2 * n + 18446744073709551616).toNat : Nat) : Int) := by simp only [IntKind.wrap_u64]; omega
    have e2 : IntKind.u64.wrap (n / 9223372036854775808) = ((18446744073709551615 : Nat) : Int) := by simp only [IntKind.wrap_u64]; omega
    rw [e1, e2, bx64 _ _ (by omega) (by omega), not64 _ (by omega), zig, if_neg h]
    omega
theorem and_one (m : Nat) (h : m < 18446744073709551616) : bits .and .u64 (m : Int) 1 = ((m % 2 : Nat) : Int) := by
  have e : m &&& 1 = m % 2 := Nat.and_one_is_mod m
  show IntKind.u64.wrap ((BitVec.ofInt 64 (m : Int) &&& BitVec.ofInt 64 ((1 : Nat) : Int)).toNat : Int) = _
  rw [BitVec.toNat_and, ofInt_nat 64 m (by omega), ofInt_nat 64 1 (by omega), e, IntKind.wrap_u64]
  omega
theorem unfold_bits (m : Nat) (h : m < 18446744073709551616) : bits .xor .i64 ((m : Int) / 2) (wrap64 (-wrap64 (bits .and .u64 (m : Int) 1))) = unzig m := by
  rw [and_one m h]
  have e0 : ((m : Int) / 2) = ((m / 2 : Nat) : Int) := by omega
  rw [e0, unzig]
  by_cases h2 : m % 2 = 0
  · rw [if_pos h2, h2, show wrap64 (-wrap64 ((0 : Nat) : Int)) = ((0 : Nat) : Int) by kernel_rfl]
    show IntKind.i64.wrap ((BitVec.ofInt 64 ((m / 2 : Nat) : Int) ^^^ BitVec.ofInt 64 ((0 : Nat) : Int)).toNat : Int) = _
    rw [BitVec.toNat_xor, ofInt_nat 64 (m / 2) (by omega), ofInt_nat 64 0 (by omega), Nat.xor_zero, IntKind.wrap_i64]
    omega
  · rw [if_neg h2, show m % 2 = 1 by omega, show wrap64 (-wrap64 ((1 : Nat) : Int)) = (-1 : Int) by kernel_rfl]
    show IntKind.i64.wrap ((BitVec.ofInt 64 ((m / 2 : Nat) : Int) ^^^ BitVec.ofInt 64 (-1 : Int)).toNat : Int) = _
    rw [BitVec.toNat_xor, ofInt_nat 64 (m / 2) (by omega), show (BitVec.ofInt 64 (-1)).toNat = 18446744073709551615 by decide, not64 _ (by omega), IntKind.wrap_i64]
    omega

theorem fold_ok (w : World) (n : Int) (h1 : -9223372036854775808 ≤ n) (h2 : n ≤ 9223372036854775807) : Calls Tryz.prog 95 #[.int .i64 n] w fun e w' => e = .returned (.int .u64 (zig n : Nat)) ∧ w = w' := by
  have H := Lib.hid (fold_bits n h1 h2)
  go_enter Tryz.func95, Tryz.ntmps95
  go_wp2
  go_ret
  refine ⟨?_, rfl⟩
  rw [← H.out]
  rfl
theorem unfold_ok (w : World) (m : Nat) (h1 : m < 18446744073709551616) : Calls Tryz.prog 92 #[.int .u64 (m : Int)] w fun e w' => e = .returned (.int .i64 (unzig m)) ∧ w = w' := by
  have H := Lib.hid (unfold_bits m h1)
  go_enter Tryz.func92, Tryz.ntmps92
  go_wp2
  go_ret
  refine ⟨?_, rfl⟩
  rw [← H.out]
  rfl
end Go.Proofs.YtimlfdihodoolaaGreat
/-
  The contract of pack.Num. No condition.
-/
namespace Go.Proofs.YtimlfdihodoolaaGreat
set_option linter.unusedVariables false
set_option linter.unusedSimpArgs false
open Go.RowKit
theorem or128 : ∀ x : Nat, x < 256 → x ||| 128 = x % 128 + 128 := by decide +kernel
theorem bor8 (q : Nat) : bits .or .u8 ((q : Int) % 256) 128 = ((q % 128 + 128 : Nat) : Int) := by
  have e0 : (q : Int) % 256 = ((q % 256 : Nat) : Int) := by omega
  have e1 := or128 (q % 256) (by omega)
  rw [e0]
  show IntKind.u8.wrap ((BitVec.ofInt 8 ((q % 256 : Nat) : Int) ||| BitVec.ofInt 8 ((128 : Nat) : Int)).toNat : Int) = _
  rw [BitVec.toNat_or, ofInt_nat 8 (q % 256) (by omega), ofInt_nat 8 128 (by omega), e1, IntKind.wrap_u8]
  omega
theorem vbF_len : ∀ (f m : Nat), (vbF f m).length ≤ f := by
  intro f
  induction f with
  | zero => intro m; exact Nat.le_refl _
  | succ f ih => intro m; simp only [vbF]; split; simp; simp only [List.length_cons]; have := ih (m / 128); omega
theorem vb_len (m : Nat) : (vb m).length ≤ 10 := vbF_len 10 m
theorem vb_pos (m : Nat) : 0 < (vb m).length := by unfold vb vbF; split <;> simp
def NumOk (t q : Nat) : Prop := q < 2 ^ (64 - 7 * t)
def NumRel (w : World) (M : Nat) (q : Nat) (v : Value) (wr : World) : Prop :=
  ∃ A t c pre, v = .slice A t c ∧ OwB wr 5 A t c pre ∧ Fresh w A ∧ Mod none_ w wr ∧ pre ++ vbF (10 - t) q = vb M ∧ NumOk t q ∧ t ≤ 9
theorem num_step {t q : Nat} (ht : t ≤ 9) (hq : NumOk t q) (h : 128 ≤ q) : t ≤ 8 ∧ NumOk (t + 1) (q / 128) ∧ vbF (10 - t) q = by_ (q % 128 + 128) :: vbF (10 - (t + 1)) (q / 128) := by
  unfold NumOk at hq ⊢
  have h8 : t ≤ 8 := by
    rcases Nat.lt_or_ge t 9 with h1 | h1
    · omega
    · have : t = 9 := by omega
      subst this
      simp at hq; omega
  have e : 64 - 7 * t = 64 - 7 * (t + 1) + 7 := by omega
  rw [e, Nat.pow_add] at hq
  refine ⟨h8, Nat.div_lt_of_lt_mul (by rw [Nat.mul_comm]; exact hq), ?_⟩
  rw [show 10 - t = (10 - (t + 1)) + 1 by omega]
  simp only [vbF]
  rw [if_neg (by omega)]

theorem by_hi (q : Nat) : ((q : Int) % 128 + 128) = ((by_ (q % 128 + 128)).toNat : Int) := by rw [by_toNat]; omega
theorem by_lo {q : Nat} (h : q < 128) : (q : Int) = ((by_ q).toNat : Int) := by rw [by_toNat]; omega
theorem vbF_last {f q : Nat} (hf : 0 < f) (h : q < 128) : vbF f q = [by_ q] := by
  cases f with
  | zero => omega
  | succ f => simp only [vbF]; rw [if_pos h]
def NumPost (w : World) (n : Int) (e : Ending) (w' : World) : Prop := ∃ A k c, e = .returned (.slice A k c) ∧ OwB w' 5 A k c (vb (zig n)) ∧ Fresh w A ∧ Mod none_ w w' ∧ k ≤ 10
set_option maxRecDepth 100000 in
set_option maxHeartbeats 1000000 in
theorem num_ok (w : World) (n : Int) (h1 : -9223372036854775808 ≤ n) (h2 : n ≤ 9223372036854775807) : Calls Tryz.prog 82 #[.int .i64 n] w (NumPost w n) := by
  have hz := zig_lt h1 h2
  go_enter Tryz.func82, Tryz.ntmps82
  go_wp2_with fail
  refine (fold_ok _ n h1 h2).mono ?_
  rintro e w1 ⟨rfl, rfl⟩
  obtain ⟨M, hM⟩ : ∃ M, M = zig n := ⟨_, rfl⟩
  rw [← hM] at hz ⊢
  replace hM := Lib.hid hM
  go_wp2_with fail
  go_loopw [3, 4] (fun v x wr => ∃ q : Nat, x = .int .u64 q ∧ NumRel w M q v wr) (fun _ x _ => (intOf x).toNat)
  case atStart => exact ⟨M, rfl, none, 0, 0, [], rfl, Ow.nil _ _ _, (fun _ h => by cases h), Mod.refl _ w, rfl, by unfold NumOk; simpa using hz, by omega⟩
  case round =>
    obtain ⟨q, rfl, A, t, c, pre, rfl, ho, hf, hm, hpre, hq, ht⟩ := hrel
    have hb := bor8 q
    have hq64 : q < 18446744073709551616 := Nat.lt_of_lt_of_le hq (Nat.pow_le_pow_right (show 0 < 2 by omega) (show 64 - 7 * t ≤ 64 by omega))
    replace hq64 := Lib.hid hq64
    replace hz := Lib.hid hz
    replace ho := Lib.hid ho
    replace hf := Lib.hid hf
    replace hm := Lib.hid hm
    replace hpre := Lib.hid hpre
    by_cases hl : 128 ≤ q
    · obtain ⟨g1, g2, g3⟩ := num_step ht hq hl
      replace hq := Lib.hid hq
      replace g2 := Lib.hid g2
      replace g3 := Lib.hid g3
      go_wp2_with (at_builtin; refine app8 rfl (.tmp 11) (.tmp 15) rfl rfl (ho.out.mod0 ((Mod.refl none_ _).alloc _)) rfl (rdb_one _ _ (by_hi q)) (by omega) ?_; intro A' c' w' ho' hm' hA'; replace ho' := Lib.hid ho'; replace hm' := Lib.hid hm'; replace hA' := Lib.hid hA')
      go_roundw
      case rel =>
        refine ⟨q / 128, rfl, A', t + 1, c', pre ++ [by_ (q % 128 + 128)], rfl, ho'.out, Fresh.app hf.out (hm.out.alloc _).size hA'.out, (hm.out.alloc _).app hf.out hm'.out, ?_, g2.out, by omega⟩
        rw [← hpre.out, g3.out, List.append_assoc] <;> rfl
      case measure => simp [intOf]; omega
    · have hv : Hid (pre ++ [by_ q] = vb M) := by
        have := hpre.out
        rw [vbF_last (by omega) (by omega)] at this
        exact Lib.hid this
      go_wp2_with (at_builtin; go_loud (refine app8 rfl (.tmp 17) (.tmp 20) rfl rfl (ho.out.mod0 ((Mod.refl none_ _).alloc _)) rfl (rdb_one _ _ (by_lo (by omega))) (by omega) ?_; intro A' c' w' ho' hm' hA'; replace ho' := Lib.hid ho'; replace hm' := Lib.hid hm'; replace hA' := Lib.hid hA'))
      go_ret
      have h9 := ho'.out
      rw [hv.out, hM.out] at h9
      exact ⟨A', t + 1, c', rfl, h9, Fresh.app hf.out (hm.out.alloc _).size hA'.out, (hm.out.alloc _).app hf.out hm'.out, by omega⟩
end Go.Proofs.YtimlfdihodoolaaGreat
/-
  A reader of bytes: what its two cells and its rest hold; the contracts of fail, Left and Done. No condition.
-/
namespace Go.Proofs.YtimlfdihodoolaaGreat
set_option linter.unusedVariables false
set_option linter.unusedSimpArgs false
open Go.RowKit
/-- The reader in block g has the bytes l left, and the error e; its rest lies in block B. -/
def Rdr (w : World) (g B : Nat) (l : List UInt8) (e : Nat) : Prop :=
  ∃ A n c, Blk w g 90 #[.slice A n c, .int .i64 (e : Int)] ∧ RdB w A n l ∧ n ≤ c ∧ c ≤ 9223372036854775807 ∧ (∀ k, fp A k → k = B) ∧ g ≠ B
def only (g : Nat) : Nat → Prop := fun k => k = g
theorem Rdr.mod {w w' : World} {F : Nat → Prop} {g B : Nat} {l : List UInt8} {e : Nat} (h : Rdr w g B l e) (hm : Mod F w w') (h1 : ¬ F g) (h2 : ¬ F B) : Rdr w' g B l e := by
  obtain ⟨A, n, c, a1, a2, a3, a4, a5, a6⟩ := h
  exact ⟨A, n, c, a1.mod hm h1, a2.mod hm (fun k hk => by rw [a5 k hk]; exact h2), a3, a4, a5, a6⟩
theorem Rdr.mod0 {w w' : World} {g B : Nat} {l : List UInt8} {e : Nat} (h : Rdr w g B l e) (hm : Mod none_ w w') : Rdr w' g B l e := h.mod hm (fun hh => hh) (fun hh => hh)
theorem Rdr.empty {w : World} {g B : Nat} {e : Nat} (h : Blk w g 90 #[.slice none 0 0, .int .i64 (e : Int)]) (hB : g ≠ B) : Rdr w g B [] e :=
  ⟨none, 0, 0, h, Rd.none_, by omega, by omega, fun k hk => (by obtain ⟨a, ha, _⟩ := hk; cases ha), hB⟩
theorem Rdr.lt {w : World} {g B : Nat} {l : List UInt8} {e : Nat} (h : Rdr w g B l e) : g < w.heap.size := by
  obtain ⟨A, n, c, a1, _⟩ := h
  exact a1.lt
theorem Blk.two {w : World} {g : Nat} {t : TypeId} {a b : Value} (h : Blk w g t #[a, b]) : w.cell? ⟨g, 0, none⟩ = some a ∧ w.cell? ⟨g, 1, none⟩ = some b ∧ w.frozen? ⟨g, 0, none⟩ = false ∧ w.frozen? ⟨g, 1, none⟩ = false :=
  ⟨h.cell_ rfl, h.cell_ rfl, h.frozen 0, h.frozen 1⟩
theorem Mod.refl_only (w : World) (g : Nat) : Mod (only g) w w := Mod.refl _ w
theorem Mod.set_only {w w' : World} {g : Nat} (h : Mod (only g) w w') (o : Nat) (u : Value) : Mod (only g) w (w'.setCell ⟨g, o, none⟩ u) := h.setCell (p := ⟨g, o, none⟩) (.inl rfl) u

def FailPost (w : World) (g B e : Nat) (en : Ending) (w' : World) : Prop := en = .returned (.int .i64 (e : Int)) ∧ Rdr w' g B [] e ∧ Mod (only g) w w'
set_option maxRecDepth 100000 in
theorem fail_ok (w : World) (g B e : Nat) (a b : Value) (h : Blk w g 90 #[a, b]) (hB : g ≠ B) : Calls Tryz.prog 44 #[.pointer (some ⟨g, 0, none⟩), .int .i64 (e : Int)] w (FailPost w g B e) := by
  obtain ⟨h1, h2, h3, h4⟩ := h.two
  replace h := Lib.hid h
  go_enter Tryz.func44, Tryz.ntmps44
  go_wp2
  go_ret
  exact ⟨rfl, Rdr.empty ((h.out.set_ 0 _).set_ 1 _) hB, ((Mod.refl _ w).set_only 0 _).set_only 1 _⟩
/-- What Done tells. -/
def dn (l : List UInt8) (e : Nat) : Nat := if e ≠ 0 then e else if 0 < l.length then 3 else 0
def DonePost (w : World) (g : Nat) (l : List UInt8) (e : Nat) (en : Ending) (w' : World) : Prop := en = .returned (.int .i64 (dn l e : Nat)) ∧ Mod (only g) w w'
set_option maxRecDepth 100000 in
theorem done_ok (w : World) (g B e : Nat) (l : List UInt8) (h : Rdr w g B l e) : Calls Tryz.prog 21 #[.pointer (some ⟨g, 0, none⟩)] w (DonePost w g l e) := by
  obtain ⟨A, n, c, hb, hr, _, _, _, hB⟩ := h
  obtain ⟨h1, h2, h3, h4⟩ := hb.two
  have hl := hr.len
  subst hl
  replace hr := Lib.hid hr
  replace hb := Lib.hid hb
  by_cases he : e = 0
  · subst he
    by_cases hn : 0 < l.length
    · go_enter Tryz.func21, Tryz.ntmps21
      go_wp2_with fail
      refine (fail_ok _ g B 3 _ _ hb.out hB).mono ?_
      rintro en w1 ⟨rfl, _, hm⟩
      go_wp2
      go_ret
      exact ⟨by simp [dn, hn], hm⟩
    · go_enter Tryz.func21, Tryz.ntmps21
      go_wp2
      go_ret
      exact ⟨by simp [dn, hn], Mod.refl _ w⟩
  · have he1 : ((e : Int) != 0) = true := by simp; omega
    go_enter Tryz.func21, Tryz.ntmps21
    go_wp2
    go_ret
    exact ⟨by simp [dn, he], Mod.refl _ w⟩
set_option maxRecDepth 100000 in
theorem done_nil (w : World) : Calls Tryz.prog 21 #[.pointer none] w fun en w' => en = .returned (.int .i64 1) ∧ w = w' := by
  go_enter Tryz.func21, Tryz.ntmps21
  go_wp2
  go_ret
  exact ⟨rfl, rfl⟩
end Go.Proofs.YtimlfdihodoolaaGreat
/-
  Variables of structs, known whole ('Blk'): loads and stores of parts; results that lie in one. No condition.
-/
namespace Go.Proofs.YtimlfdihodoolaaGreat
set_option linter.unusedVariables false
set_option linter.unusedSimpArgs false
open Go.RowKit
theorem Blk.range {w : World} {g : Nat} {t : TypeId} {cs : Array Value} (h : Blk w g t cs) (o : Nat) (vs : List Value) (hv : (cs.toList.drop o).take vs.length = vs) : w.rangeAt g o vs := fun j v hj => by
  refine h.cell_ ?_
  have hl : j < vs.length := by
    rcases Nat.lt_or_ge j vs.length with h1 | h1
    · exact h1
    · rw [List.getElem?_eq_none h1] at hj; cases hj
  rw [← hv, List.getElem?_take, if_pos hl, List.getElem?_drop] at hj
  simpa using hj
theorem Blk.there {w : World} {g : Nat} {t : TypeId} {cs : Array Value} (h : Blk w g t cs) (o n : Nat) (hn : o + n ≤ cs.size) : w.there g o n := fun j hj =>
  ⟨by rw [h.cell, Array.getElem?_eq_getElem (by omega)] <;> rfl, h.frozen _⟩
def setL (cs : Array Value) (o : Nat) : List Value → Array Value
  | [] => cs
  | v :: vs => setL (cs.setIfInBounds o v) (o + 1) vs
theorem Blk.setCells {g : Nat} {t : TypeId} : ∀ (vs : List Value) (w : World) (cs : Array Value) (o : Nat), Blk w g t cs → Blk (w.setCells g o vs) g t (setL cs o vs)
  | [], _, _, _, h => h
  | v :: vs, w, cs, o, h => Blk.setCells vs _ _ (o + 1) (h.set_ o v)
theorem Mod.setCells {F : Nat → Prop} {g : Nat} : ∀ (vs : List Value) (w w' : World) (o : Nat), Mod F w w' → F g → Mod F w (w'.setCells g o vs)
  | [], _, _, _, h, _ => h
  | v :: vs, w, w', o, h, hg => Mod.setCells vs w _ (o + 1) (h.setCell (p := ⟨g, o, none⟩) (.inl hg) v) hg
theorem setL_toList : ∀ (vs : List Value) (cs : Array Value) (o : Nat), o + vs.length ≤ cs.size → (setL cs o vs).toList = cs.toList.take o ++ (vs ++ cs.toList.drop (o + vs.length))
  | [], cs, o, _ => by simp [setL]
  | v :: vs, cs, o, h => by
    simp only [List.length_cons] at h
    rw [setL, setL_toList vs _ (o + 1) (by simp only [Array.size_setIfInBounds]; omega)]
    apply List.ext_getElem?
    intro i
    simp only [Array.toList_setIfInBounds, List.getElem?_append, List.length_take, List.length_set, Array.length_toList, List.getElem?_take, List.getElem?_set, List.getElem?_drop, List.length_cons, List.cons_append]
    have h1 : min (o + 1) cs.size = o + 1 := by omega
    have h2 : min o cs.size = o := by omega
    rw [h1, h2]
    by_cases c1 : i < o
    · rw [if_pos (by omega), if_pos (by omega), if_neg (by omega), if_pos c1, if_pos c1]
    · by_cases c2 : i = o
      · subst c2
        rw [if_pos (by omega), if_pos (by omega), if_pos rfl, if_pos (by omega), if_neg (by omega)]
        simp
      · rw [if_neg (by omega), if_neg c1]
        obtain ⟨d, rfl⟩ : ∃ d, i = o + 1 + d := ⟨i - (o + 1), by omega⟩
        rw [show o + 1 + d - (o + 1) = d by omega, show o + 1 + d - o = d + 1 by omega]
        by_cases c3 : d < vs.length
        · rw [if_pos c3, List.getElem?_cons_succ, List.getElem?_append_left c3]
        · rw [if_neg c3, List.getElem?_cons_succ, List.getElem?_append_right (by omega), List.getElem?_drop, if_neg (by omega)]
          congr 1; omega
section
variable {P : Program}
/-- a load of a part of a variable -/
theorem wpList_load_blk {ops : Array Oper} {rest : List Oper} {op : Oper} {a : Act} {w : World} {Q : Exit → Act → World → Prop} (hgd : op.guard = none) (ty : TypeId) (x : Operand) (ho : op.op = .load ty x)
    (g o : Nat) (hx : a.eval x = .pointer (some ⟨g, o, none⟩)) {t : TypeId} {cs : Array Value} (hb : Blk w g t cs) (vs : List Value) (hv : (cs.toList.drop o).take vs.length = vs) {d : TypeDesc} (hu : P.underlying ty = some d) (hd : d.isRow = true)
    (hi : (P.info? ty).map (·.size) = some vs.length) (h : wpList P ops Q rest (a.put op.dst (.agg vs.toArray)) w) : wpList P ops Q (op :: rest) a w :=
  wpList_load_mid hgd ty x ho g o hx vs d (hb.range o vs hv) hu hd hi h
/-- a store of a part of a variable -/
theorem wpList_store_blk {ops : Array Oper} {rest : List Oper} {op : Oper} {a : Act} {w : World} {Q : Exit → Act → World → Prop} (hgd : op.guard = none) (ty : TypeId) (x y : Operand) (ho : op.op = .store ty x y)
    (g o : Nat) (cells : Array Value) (hx : a.eval x = .pointer (some ⟨g, o, none⟩)) (hy : a.eval y = .agg cells) {t : TypeId} {cs : Array Value} (hb : Blk w g t cs) (hn : o + cells.size ≤ cs.size)
    (hi : (P.info? ty).map (·.size) = some cells.size) (h1 : cells.toList.all (·.oneCell') = true) (cs' : Array Value) (hcs : cs.toList.take o ++ (cells.toList ++ cs.toList.drop (o + cells.size)) = cs'.toList)
    (h : ∀ w', Blk w' g t cs' → Mod (only g) w w' → wpList P ops Q rest (a.put op.dst undef) w') : wpList P ops Q (op :: rest) a w :=
  wpList_store_mid hgd ty x y ho g o cells hx hy (hb.there o _ hn) hi (by rw [← Array.all_toList]; exact h1) (h _ (by have e := setL_toList cells.toList cs o (by simpa using hn); rw [Array.length_toList, hcs, Array.toList_inj] at e; rw [← e]; exact Blk.setCells _ _ _ _ hb) (Mod.setCells _ _ _ _ (Mod.refl _ w) rfl))
theorem results_row_tmp {fn : Func} {p u : Tmp} {ty : TypeId} (h : fn.results = #[.cell p ty, .tmp u]) (tmps : Array Value) (w : World) (g : Nat) (t : TypeId) (cs : Array Value) (d : TypeDesc)
    (hp : tmps.getD p undef = .pointer (some ⟨g, 0, none⟩)) (hg : Blk w g t cs) (hu : P.underlying ty = some d) (hd : (match d with | .struct _ | .array _ _ => true | _ => false) = true) (hi : (P.info? ty).map (·.size) = some cs.size) :
    (results fn tmps).run P w = .ok (.tuple #[.agg cs, tmps.getD u undef]) w := by
  rw [results_cell_tmp h, hp]
  simp [asAddr, run_loadVar_row w g t ty cs (0, 0) d hg hu hd hi, Result.andThen]
/-- the end of a function whose results are a struct in a block and a scalar -/
theorem ret_row_tmp {fn : Func} {p u : Tmp} {ty : TypeId} (h : fn.results = #[.cell p ty, .tmp u]) {a : Act} {w : World} {R : Ending → World → Prop} (g : Nat) {t : TypeId} {cs : Array Value} (hp : a.tmps.getD p undef = .pointer (some ⟨g, 0, none⟩))
    (hg : Blk w g t cs) {d : TypeDesc} (hu : P.underlying ty = some d) (hd : (match d with | .struct _ | .array _ _ => true | _ => false) = true) (hi : (P.info? ty).map (·.size) = some cs.size) (v : Value) (hv : a.tmps.getD u undef = v) (hdf : a.defers = [])
    (hR : R (.returned (.tuple #[.agg cs, v])) w) : bodyPost P fn R .ret a w :=
  bodyPost_ret (results_row_tmp h a.tmps w g t cs d hp hg hu hd hi) hdf (by rw [hv]; exact hR)
theorem ret_row {fn : Func} {p : Tmp} {ty : TypeId} (h : fn.results = #[.cell p ty]) {a : Act} {w : World} {R : Ending → World → Prop} (g : Nat) {t : TypeId} {cs : Array Value} (hp : a.tmps.getD p undef = .pointer (some ⟨g, 0, none⟩))
    (hg : Blk w g t cs) {d : TypeDesc} (hu : P.underlying ty = some d) (hd : (match d with | .struct _ | .array _ _ => true | _ => false) = true) (hi : (P.info? ty).map (·.size) = some cs.size) (hdf : a.defers = [])
    (hR : R (.returned (.agg cs)) w) : bodyPost P fn R .ret a w :=
  bodyPost_ret (results_cell_row h a.tmps w g t cs (0, 0) d hp hg hu hd hi) hdf hR
end
/-- what is new to a world that was: a step within it -/
theorem Mod.in_new {w w1 w2 : World} {g : Nat} (h : Mod none_ w w1) (hg : w.heap.size ≤ g) (k : Mod (only g) w1 w2) : Mod none_ w w2 :=
  h.then k fun i hi hk => by have : i = g := hk; omega
end Go.Proofs.YtimlfdihodoolaaGreat
