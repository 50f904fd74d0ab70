/-
  Doubles as whole numbers: rungs, rounding to the nearest, sums, products, order. Plain.
-/
import Ieee.Arith
namespace Go.Proofs.YtlikknamliamiaaDoor
set_option linter.unusedVariables false

/-- the magnitude of a rung, in the least units of a double (2 ^ -1074) -/
def rmag (r : Nat) : Nat := if r < 2^52 then r else (2^52 + r % 2^52) * 2^(r / 2^52 - 1)

theorem rmag_at (q k : Nat) (hk : k ≤ 2^53) (h : q = 0 ∨ 2^52 ≤ k) : rmag (q*2^52+k) = k*2^q := by
  unfold rmag
  by_cases h0 : q*2^52+k < 2^52
  · have : q = 0 := by omega
    subst this; rw [if_pos h0]; omega
  · rw [if_neg h0]
    by_cases hk2 : k = 2^53
    · subst hk2
      have h1 : (q*2^52+2^53) % 2^52 = 0 := by omega
      have h2 : (q*2^52+2^53) / 2^52 - 1 = q+1 := by omega
      rw [h1, h2, Nat.pow_succ]; omega
    · have hk3 : 2^52 ≤ k := by omega
      have h1 : (q*2^52+k) % 2^52 = k - 2^52 := by omega
      have h2 : (q*2^52+k) / 2^52 - 1 = q := by omega
      rw [h1, h2, show 2^52 + (k-2^52) = k by omega]

theorem rung_split (r : Nat) : ∃ q k, r = q*2^52 + k ∧ k < 2^53 ∧ (q = 0 ∨ 2^52 ≤ k) := by
  by_cases h : r < 2^52
  · exact ⟨0, r, by omega, by omega, .inl rfl⟩
  · exact ⟨r/2^52-1, 2^52 + r%2^52, by omega, by omega, .inr (by omega)⟩

/-- N / U (in least units) rounded to the nearest rung R, of two the even one; rungs beyond all words too -/
def Rnd (N U R : Nat) : Prop := ∃ q k, R = q*2^52 + k ∧ (q = 0 ∨ 2^52*(2^q*U) ≤ N) ∧ N < 2^53*(2^q*U) ∧
  2*(k*(2^q*U)) ≤ 2*N + 2^q*U ∧ 2*N ≤ 2*(k*(2^q*U)) + 2^q*U ∧ (2*(k*(2^q*U)) = 2*N + 2^q*U → k%2=0) ∧ (2*N = 2*(k*(2^q*U)) + 2^q*U → k%2=0)

theorem pos_mul {a b : Nat} (h : 0 < a) (g : 0 < b) : 0 < a*b := Nat.mul_pos h g
theorem two_pos (q : Nat) : 0 < 2^q := Nat.two_pow_pos q

theorem Rnd.k {N A q k : Nat} (hA : 0 < A) (h1 : q = 0 ∨ 2^52*A ≤ N) (h2 : N < 2^53*A) (h3 : 2*(k*A) ≤ 2*N + A) (h4 : 2*N ≤ 2*(k*A) + A) (h5 : 2*N = 2*(k*A) + A → k%2=0) :
    k ≤ 2^53 ∧ (q = 0 ∨ 2^52 ≤ k) := by
  constructor
  · apply Nat.le_of_lt_succ
    apply Nat.lt_of_mul_lt_mul_right (a := A)
    rw [Nat.succ_mul]; omega
  · rcases h1 with h1 | h1
    · exact .inl h1
    · right
      by_cases hk : 2^52 ≤ k
      · exact hk
      · exfalso
        have := Nat.mul_le_mul_right A (show k+1 ≤ 2^52 by omega)
        rw [Nat.succ_mul] at this; omega

theorem Rnd.mono {N N' U R R' : Nat} (hU : 0 < U) (h : Rnd N U R) (h' : Rnd N' U R') (hN : N ≤ N') : R ≤ R' := by
  obtain ⟨q, k, rfl, h1, h2, h3, h4, h5, h6⟩ := h
  obtain ⟨q', k', rfl, g1, g2, g3, g4, g5, g6⟩ := h'
  have hA : 0 < 2^q*U := pos_mul (two_pos q) hU
  have hB : 0 < 2^q'*U := pos_mul (two_pos q') hU
  have ⟨b1, b2⟩ := Rnd.k hA h1 h2 h3 h4 h6
  have ⟨c1, c2⟩ := Rnd.k hB g1 g2 g3 g4 g6
  rcases Nat.lt_trichotomy q q' with hq | hq | hq
  · have : 2^52 ≤ k' := by omega
    have : q+1 ≤ q' := hq
    have : (q+1)*2^52 ≤ q'*2^52 := Nat.mul_le_mul_right _ this
    omega
  · subst hq
    suffices k ≤ k' by omega
    by_cases hk : k ≤ k'
    · exact hk
    · exfalso
      generalize hAe : 2^q*U = A at *
      have h7 : (k'+1)*A ≤ k*A := Nat.mul_le_mul_right _ (by omega)
      rw [Nat.succ_mul] at h7
      have e : N = N' := by omega
      subst e
      have e2 : k = k'+1 := by
        by_cases hk2 : k'+2 ≤ k
        · have h8 : (k'+2)*A ≤ k*A := Nat.mul_le_mul_right _ hk2
          rw [Nat.add_mul] at h8; omega
        · omega
      subst e2
      have hs : (k'+1)*A = k'*A+A := Nat.succ_mul k' A
      have := h5 (by omega)
      have := g6 (by omega)
      omega
  · have hx : 2^53*(2^q'*U) ≤ 2^52*(2^q*U) := by
      have e : q = q' + 1 + (q - q' - 1) := by omega
      rw [e, Nat.pow_add, Nat.pow_add]
      have : 1 ≤ 2^(q-q'-1) := two_pos _
      have h9 : 2^q'*U ≤ 2^q'*2^(q-q'-1)*U := by
        refine Nat.mul_le_mul_right _ ?_
        exact Nat.le_mul_of_pos_right _ (two_pos _)
      have e3 : 2^q'*2^1*2^(q-q'-1)*U = 2*(2^q'*2^(q-q'-1)*U) := by
        rw [Nat.mul_assoc (2^q'), Nat.mul_comm (2^1), ← Nat.mul_assoc (2^q'), Nat.mul_assoc _ (2^1), Nat.mul_comm (2^1) U, ← Nat.mul_assoc]; omega
      rw [e3]; omega
    rcases h1 with h1 | h1
    · omega
    · omega

theorem Rnd.uniq {N U R R' : Nat} (hU : 0 < U) (h : Rnd N U R) (h' : Rnd N U R') : R = R' :=
  Nat.le_antisymm (h.mono hU h' (Nat.le_refl _)) (h'.mono hU h (Nat.le_refl _))

theorem Rnd.self (U R : Nat) (hU : 0 < U) : Rnd (rmag R * U) U R := by
  obtain ⟨q, k, rfl, h1, h2⟩ := rung_split R
  have hA : 0 < 2^q*U := pos_mul (two_pos q) hU
  rw [rmag_at q k (by omega) h2, Nat.mul_assoc]
  refine ⟨q, k, rfl, ?_, ?_, by omega, by omega, fun _ => by omega, fun _ => by omega⟩
  · rcases h2 with h2 | h2
    · exact .inl h2
    · exact .inr (Nat.mul_le_mul_right _ h2)
  · exact Nat.mul_lt_mul_of_pos_right h1 hA

theorem Rnd.scale {N U R : Nat} (c : Nat) (hc : 0 < c) (h : Rnd N U R) : Rnd (N*c) (U*c) R := by
  obtain ⟨q, k, rfl, h1, h2, h3, h4, h5, h6⟩ := h
  have e1 : ∀ x, x*(2^q*(U*c)) = x*(2^q*U)*c := by intro x; simp only [Nat.mul_assoc]
  have e2 : 2^q*(U*c) = 2^q*U*c := by simp only [Nat.mul_assoc]
  refine ⟨q, k, rfl, ?_, ?_, ?_, ?_, ?_, ?_⟩
  · rw [e1]
    rcases h1 with h1 | h1
    · exact .inl h1
    · exact .inr (Nat.mul_le_mul_right c h1)
  · rw [e1]; exact Nat.mul_lt_mul_of_pos_right h2 hc
  · rw [e1, e2]
    have := Nat.mul_le_mul_right c h3
    rw [Nat.add_mul, Nat.mul_assoc, Nat.mul_assoc 2 N] at this; exact this
  · rw [e1, e2]
    have := Nat.mul_le_mul_right c h4
    rw [Nat.add_mul, Nat.mul_assoc, Nat.mul_assoc 2 (k*_)] at this; exact this
  · rw [e1, e2]; intro h
    apply h5
    apply Nat.eq_of_mul_eq_mul_right hc
    rw [Nat.add_mul, Nat.mul_assoc, Nat.mul_assoc 2 N]; exact h
  · rw [e1, e2]; intro h
    apply h6
    apply Nat.eq_of_mul_eq_mul_right hc
    rw [Nat.add_mul, Nat.mul_assoc, Nat.mul_assoc 2 (k*_)]; exact h

theorem Rnd.exact {U R R' : Nat} (hU : 0 < U) (h : Rnd (rmag R * U) U R') : R' = R := h.uniq hU (Rnd.self U R hU)

theorem rmag_mono {r s : Nat} (h : r ≤ s) : rmag r ≤ rmag s := by
  by_cases g : rmag r ≤ rmag s
  · exact g
  · exfalso
    have := (Rnd.self 1 s (by omega)).mono (by omega) (Rnd.self 1 r (by omega)) (by omega)
    have : r = s := by omega
    subst this; omega

theorem rmag_inj {r s : Nat} (h : rmag r = rmag s) : r = s := by
  have a := Rnd.self 1 r (by omega)
  rw [h] at a
  exact a.uniq (by omega) (Rnd.self 1 s (by omega))

theorem rmag_lt {r s : Nat} : rmag r < rmag s ↔ r < s := by
  constructor
  · intro h
    by_cases g : r < s
    · exact g
    · have := rmag_mono (r := s) (s := r) (by omega); omega
  · intro h
    have := rmag_mono (Nat.le_of_lt h)
    by_cases g : rmag r = rmag s
    · have := rmag_inj g; omega
    · omega

/-- m * 2 ^ j units is a rung, where m is small -/
theorem rmag_of (m j : Nat) (hm : m ≤ 2^53) : ∃ r, rmag r = m*2^j := by
  induction j generalizing m with
  | zero => exact ⟨m, by have := rmag_at 0 m hm (.inl rfl); simpa using this⟩
  | succ j ih =>
    by_cases h : 2^52 ≤ m
    · exact ⟨(j+1)*2^52+m, rmag_at _ _ hm (.inr h)⟩
    · obtain ⟨r, hr⟩ := ih (2*m) (by omega)
      exact ⟨r, by rw [hr, Nat.pow_succ, Nat.mul_comm 2 m, Nat.mul_assoc, Nat.mul_comm 2]⟩

theorem cut_spec (neg : Bool) (n drop : Nat) : 2*(Ieee.Toward.even.cut neg n drop*2^drop) ≤ 2*n + 2^drop ∧ 2*n ≤ 2*(Ieee.Toward.even.cut neg n drop*2^drop) + 2^drop ∧
    (2*(Ieee.Toward.even.cut neg n drop*2^drop) = 2*n + 2^drop → Ieee.Toward.even.cut neg n drop % 2 = 0) ∧ (2*n = 2*(Ieee.Toward.even.cut neg n drop*2^drop) + 2^drop → Ieee.Toward.even.cut neg n drop % 2 = 0) := by
  unfold Ieee.Toward.cut
  dsimp only
  rw [Nat.one_shiftLeft]
  by_cases h : drop ≤ n.log2 + 2
  · rw [Nat.min_eq_left h]
    generalize hd : 2^drop = d
    have hd0 : 0 < d := hd ▸ two_pos drop
    have h1 := Nat.div_add_mod n d
    have h2 := Nat.mod_lt n hd0
    rw [Nat.mul_comm] at h1
    generalize n / d = low at *
    generalize n % d = rest at *
    have h3 : (low+1)*d = low*d+d := Nat.succ_mul low d
    by_cases c1 : d < 2*rest
    · simp only [c1, decide_true, Bool.true_or, Bool.toNat_true, h3]
      omega
    · by_cases c2 : d = 2*rest
      · by_cases c3 : low % 2 = 1
        · have c4 : (d == 2*rest) = true := by simpa using c2
          have c5 : (low % 2 == 1) = true := by simpa using c3
          simp only [c4, c5, Bool.and_self, Bool.or_true, Bool.toNat_true, h3]
          omega
        · have c4 : (low % 2 == 1) = false := by simpa using c3
          simp only [c1, c4, decide_false, Bool.and_false, Bool.or_false, Bool.toNat_false, Nat.add_zero]
          omega
      · have c4 : (d == 2*rest) = false := by simpa using c2
        simp only [c1, c4, decide_false, Bool.false_and, Bool.or_false, Bool.toNat_false, Nat.add_zero]
        omega
  · rw [Nat.min_eq_right (by omega)]
    have h1 : n < 2^(n.log2+1) := Nat.lt_log2_self
    have h2 : 2^(n.log2+2) = 2*2^(n.log2+1) := by rw [Nat.pow_succ]; omega
    have h3 : 2^(n.log2+2) ≤ 2^drop := Nat.pow_le_pow_right (by omega) (by omega)
    rw [Nat.div_eq_of_lt (by omega), Nat.mod_eq_of_lt (by omega)]
    have c1 : ¬ 2^(n.log2+2) < 2*n := by omega
    have c2 : (2^(n.log2+2) == 2*n) = false := by simp; omega
    simp only [c1, c2, decide_false, Bool.false_and, Bool.or_false, Bool.toNat_false, Nat.add_zero, Nat.zero_mul]
    omega

theorem cut_zero (way : Ieee.Toward) (neg : Bool) (n : Nat) : way.cut neg n 0 = n := by
  unfold Ieee.Toward.cut
  simp [Nat.mod_one]
  cases way <;> simp

theorem lp : Ieee.double.leastPlace = -1074 := by decide
theorem bn : Ieee.double.binade = 2^52 := by decide
theorem ir : Ieee.double.infRung = 2047*2^52 := by decide
theorem sw : Ieee.double.signWeight = 2^63 := by decide

theorem near_up (neg : Bool) (m p : Nat) (hm : m ≠ 0) : ∃ R, Rnd (m*2^p) 1 R ∧ Ieee.double.nearest neg m (-1074 + p) = Ieee.double.word neg (min R (2047*2^52)) := by
  unfold Ieee.Format.nearest
  rw [if_neg hm, lp, bn, ir]
  dsimp only [Ieee.double]
  generalize hL : m.log2 = L
  have hL1 : 2^L ≤ m := hL ▸ Nat.log2_self_le hm
  have hL2 : m < 2^(L+1) := hL ▸ Nat.lt_log2_self
  generalize hq : (max (-1074 + (p:Int) + (L:Int) - ((52:Nat):Int)) (-1074) - -1074).toNat = q
  have e1 : (-1074 + (p:Int) - max (-1074 + (p:Int) + (L:Int) - ((52:Nat):Int)) (-1074)).toNat = p - q := by omega
  have e2 : (max (-1074 + (p:Int) + (L:Int) - ((52:Nat):Int)) (-1074) - (-1074 + (p:Int))).toNat = q - p := by omega
  have hq2 : q = p + L - 52 := by omega
  rw [e1, e2, Nat.shiftLeft_eq]
  obtain ⟨k1, k2, k3, k4⟩ := cut_spec neg (m*2^(p-q)) (q-p)
  generalize Ieee.Toward.cut .even neg (m*2^(p-q)) (q-p) = k at *
  refine ⟨q*2^52+k, ⟨q, k, rfl, ?_, ?_, ?_⟩, rfl⟩
  · by_cases h0 : q = 0
    · exact .inl h0
    · right
      rw [Nat.mul_one, ← Nat.pow_add]
      have : 2^L*2^p ≤ m*2^p := Nat.mul_le_mul_right _ hL1
      rw [← Nat.pow_add] at this
      rw [show 52+q = L+p by omega]; exact this
  · rw [Nat.mul_one, ← Nat.pow_add]
    have h1 : m*2^p < 2^(L+1)*2^p := Nat.mul_lt_mul_of_pos_right hL2 (two_pos p)
    rw [← Nat.pow_add] at h1
    have h2 : 2^(L+1+p) ≤ 2^(53+q) := Nat.pow_le_pow_right (by omega) (by omega)
    omega
  · rw [Nat.mul_one]
    have hc : ∃ c, 0 < c ∧ 2^q = 2^(q-p)*c ∧ m*2^p = m*2^(p-q)*c := by
      by_cases h : p ≤ q
      · exact ⟨2^p, two_pos p, by rw [← Nat.pow_add]; congr 1; omega, by rw [show p - q = 0 by omega]; simp⟩
      · exact ⟨2^q, two_pos q, by rw [show q-p=0 by omega]; simp, by rw [Nat.mul_assoc, ← Nat.pow_add, show p-q+q=p by omega]⟩
    obtain ⟨c, hc0, hc1, hc2⟩ := hc
    rw [hc1, hc2]
    generalize m*2^(p-q) = n at *
    generalize 2^(q-p) = d at *
    rw [← Nat.mul_assoc k]
    generalize k*d = z at *
    have f1 := Nat.mul_le_mul_right c k1
    have f2 := Nat.mul_le_mul_right c k2
    have g1 : (2*n+d)*c = 2*(n*c)+d*c := by rw [Nat.add_mul, Nat.mul_assoc]
    have g2 : (2*z+d)*c = 2*(z*c)+d*c := by rw [Nat.add_mul, Nat.mul_assoc]
    have g3 : (2*n)*c = 2*(n*c) := by rw [Nat.mul_assoc]
    have g4 : (2*z)*c = 2*(z*c) := by rw [Nat.mul_assoc]
    refine ⟨by omega, by omega, fun h => k3 ?_, fun h => k4 ?_⟩
    · exact Nat.eq_of_mul_eq_mul_right hc0 (by omega)
    · exact Nat.eq_of_mul_eq_mul_right hc0 (by omega)

theorem near_down (neg : Bool) (m p : Nat) (hm : m ≠ 0) : ∃ R, Rnd m (2^p) R ∧ Ieee.double.nearest neg m (-1074 - p) = Ieee.double.word neg (min R (2047*2^52)) := by
  unfold Ieee.Format.nearest
  rw [if_neg hm, lp, bn, ir]
  dsimp only [Ieee.double]
  generalize hL : m.log2 = L
  have hL1 : 2^L ≤ m := hL ▸ Nat.log2_self_le hm
  have hL2 : m < 2^(L+1) := hL ▸ Nat.lt_log2_self
  generalize hq : (max (-1074 - (p:Int) + (L:Int) - ((52:Nat):Int)) (-1074) - -1074).toNat = q
  have e1 : (-1074 - (p:Int) - max (-1074 - (p:Int) + (L:Int) - ((52:Nat):Int)) (-1074)).toNat = 0 := by omega
  have e2 : (max (-1074 - (p:Int) + (L:Int) - ((52:Nat):Int)) (-1074) - (-1074 - (p:Int))).toNat = q + p := by omega
  have hq2 : q = L - p - 52 := by omega
  rw [e1, e2, Nat.shiftLeft_eq, Nat.pow_zero, Nat.mul_one]
  obtain ⟨k1, k2, k3, k4⟩ := cut_spec neg m (q+p)
  generalize Ieee.Toward.cut .even neg m (q+p) = k at *
  rw [Nat.pow_add] at *
  refine ⟨q*2^52+k, ⟨q, k, rfl, ?_, ?_, by omega, by omega, k3, k4⟩, rfl⟩
  · by_cases h0 : q = 0
    · exact .inl h0
    · right
      rw [← Nat.pow_add, ← Nat.pow_add]
      rw [show 52+(q+p) = L by omega]; exact hL1
  · rw [← Nat.pow_add, ← Nat.pow_add]
    have h2 : 2^(L+1) ≤ 2^(53+(q+p)) := Nat.pow_le_pow_right (by omega) (by omega)
    omega

abbrev D : Ieee.Format := Ieee.double
abbrev infR : Nat := 2047*2^52
/-- the sign bit -/
def sgn (w : Nat) : Bool := w / 2^63 % 2 == 1
/-- a finite word -/
def Fin' (w : Nat) : Prop := w % 2^63 < infR
def Nan (w : Nat) : Prop := infR < w % 2^63
/-- the value in least units; an infinity's is that of the rung beyond the greatest number -/
def V (w : Nat) : Int := if sgn w then -(rmag (w % 2^63) : Int) else (rmag (w % 2^63) : Int)

theorem read_fin (w : Nat) (h : Fin' w) : ∃ m p : Nat, D.read w = .number (sgn w) m (-1074 + p) ∧ m*2^p = rmag (w % 2^63) := by
  unfold Fin' infR at h
  unfold Ieee.Format.read
  rw [lp, bn, ir, sw]
  dsimp only
  by_cases c : w % 2^63 < 2^52
  · exact ⟨w % 2^63, 0, by rw [if_pos c]; rfl, by unfold rmag; rw [if_pos c]; omega⟩
  · exact ⟨2^52 + w % 2^63 % 2^52, w % 2^63 / 2^52 - 1, by rw [if_neg c, if_pos h]; rfl, by unfold rmag; rw [if_neg c]⟩

theorem read_inf (w : Nat) (h : w % 2^63 = infR) : D.read w = .infinity (sgn w) := by
  unfold infR at h
  unfold Ieee.Format.read
  rw [lp, bn, ir, sw]
  dsimp only
  rw [if_neg (by omega), if_neg (by omega), if_pos h]; rfl

theorem read_nan (w : Nat) (h : Nan w) : ∃ s t, D.read w = .nan s t := by
  unfold Nan infR at h
  unfold Ieee.Format.read
  rw [lp, bn, ir, sw]
  dsimp only
  rw [if_neg (by omega), if_neg (by omega), if_neg (by omega)]
  exact ⟨_, _, rfl⟩

theorem tri (w : Nat) : Fin' w ∨ w % 2^63 = infR ∨ Nan w := by unfold Fin' Nan; omega

theorem signed_eq (s : Bool) (m p b : Nat) (h : b ≤ p) : Ieee.signed s m (p - b) * 2^b = (if s then -((m*2^p : Nat) : Int) else ((m*2^p : Nat) : Int)) := by
  have e : m <<< (p-b) * 2^b = m*2^p := by rw [Nat.shiftLeft_eq, Nat.mul_assoc, ← Nat.pow_add]; congr 2; omega
  have e2 : ((m <<< (p-b) : Nat) : Int) * 2^b = ((m*2^p : Nat) : Int) := by rw [← e]; simp
  unfold Ieee.signed
  cases s
  · simp only [Bool.false_eq_true, if_false]; exact e2
  · simp only [if_true]; rw [← e2, Int.neg_mul]

theorem cmp_scale (a b c : Int) (h : 0 < c) : compare (a*c) (b*c) = compare a b := by
  have e1 : a*c < b*c ↔ a < b := by
    constructor
    · exact fun g => Int.lt_of_mul_lt_mul_right g (Int.le_of_lt h)
    · exact fun g => Int.mul_lt_mul_of_pos_right g h
  have e2 : b*c < a*c ↔ b < a := by
    constructor
    · exact fun g => Int.lt_of_mul_lt_mul_right g (Int.le_of_lt h)
    · exact fun g => Int.mul_lt_mul_of_pos_right g h
  rcases Int.lt_trichotomy a b with g | g | g
  · rw [Int.compare_eq_lt.2 g, Int.compare_eq_lt.2 (e1.2 g)]
  · subst g; rw [Int.compare_eq_eq.2 rfl, Int.compare_eq_eq.2 rfl]
  · rw [Int.compare_eq_gt.2 g, Int.compare_eq_gt.2 (e2.2 g)]

theorem rmag_inf_pos : 0 < rmag infR := by
  have := (rmag_lt (r := 0) (s := infR)).2 (by unfold infR; omega)
  omega

theorem V_abs (w : Nat) : (V w).natAbs = rmag (w % 2^63) := by unfold V; split <;> omega
theorem pow_pos_int (b : Nat) : (0 : Int) < 2^b := by
  have := two_pos b
  have e : ((2^b : Nat) : Int) = 2^b := by simp
  omega

theorem order_fin (x y : Nat) (hx : Fin' x) (hy : Fin' y) : D.order x y = some (compare (V x) (V y)) := by
  obtain ⟨m, p, e1, e2⟩ := read_fin x hx
  obtain ⟨n, r, e3, e4⟩ := read_fin y hy
  unfold Ieee.Format.order
  rw [e1, e3]
  unfold Ieee.Datum.order
  dsimp only
  have hb : min (-1074 + (p:Int)) (-1074 + (r:Int)) = -1074 + (min p r : Nat) := by omega
  rw [hb, show (-1074 + (p:Int) - (-1074 + (min p r : Nat))).toNat = p - min p r by omega, show (-1074 + (r:Int) - (-1074 + (min p r : Nat))).toNat = r - min p r by omega]
  congr 1
  rw [← cmp_scale _ _ (2^(min p r)) (pow_pos_int _), signed_eq _ _ _ _ (Nat.min_le_left ..), signed_eq _ _ _ _ (Nat.min_le_right ..), e2, e4]
  rfl

theorem V_lt_inf (w : Nat) (h : Fin' w) : V w < (rmag infR : Int) ∧ -(rmag infR : Int) < V w := by
  have : rmag (w % 2^63) < rmag infR := rmag_lt.2 h
  unfold V; split <;> omega

theorem order_num (x y : Nat) (hx : ¬ Nan x) (hy : ¬ Nan y) : D.order x y = some (compare (V x) (V y)) := by
  have hi := rmag_inf_pos
  rcases tri x with h | h | h
  · rcases tri y with g | g | g
    · exact order_fin x y h g
    · obtain ⟨m, p, e1, e2⟩ := read_fin x h
      unfold Ieee.Format.order
      rw [e1, read_inf y g]
      unfold Ieee.Datum.order
      dsimp only
      have ⟨v1, v2⟩ := V_lt_inf x h
      have : V y = if sgn y then -(rmag infR : Int) else rmag infR := by unfold V; rw [g]
      rw [this]
      cases sgn y
      · simp only [Bool.false_eq_true, if_false]; rw [Int.compare_eq_lt.2 v1]
      · simp only [if_true]; rw [Int.compare_eq_gt.2 v2]
    · exact absurd g hy
  · rcases tri y with g | g | g
    · obtain ⟨m, p, e1, e2⟩ := read_fin y g
      unfold Ieee.Format.order
      rw [e1, read_inf x h]
      unfold Ieee.Datum.order
      dsimp only
      have ⟨v1, v2⟩ := V_lt_inf y g
      have : V x = if sgn x then -(rmag infR : Int) else rmag infR := by unfold V; rw [h]
      rw [this]
      cases sgn x
      · simp only [Bool.false_eq_true, if_false]; rw [Int.compare_eq_gt.2 v1]
      · simp only [if_true]; rw [Int.compare_eq_lt.2 v2]
    · unfold Ieee.Format.order
      rw [read_inf x h, read_inf y g]
      unfold Ieee.Datum.order
      dsimp only
      have e1 : V x = if sgn x then -(rmag infR : Int) else rmag infR := by unfold V; rw [h]
      have e2 : V y = if sgn y then -(rmag infR : Int) else rmag infR := by unfold V; rw [g]
      rw [e1, e2]
      cases sgn x <;> cases sgn y <;> simp only [Bool.false_eq_true, if_false, if_true, Bool.toNat_false, Bool.toNat_true]
      · rw [Int.compare_eq_eq.2 rfl, Nat.compare_eq_eq.2 rfl]
      · rw [Int.compare_eq_gt.2 (by omega), Nat.compare_eq_gt.2 (by omega)]
      · rw [Int.compare_eq_lt.2 (by omega), Nat.compare_eq_lt.2 (by omega)]
      · rw [Int.compare_eq_eq.2 rfl, Nat.compare_eq_eq.2 rfl]
    · exact absurd g hy
  · exact absurd h hx

theorem order_nanl (x y : Nat) (hx : Nan x) : D.order x y = none := by
  obtain ⟨s, t, e⟩ := read_nan x hx
  unfold Ieee.Format.order; rw [e]; cases D.read y <;> rfl
theorem order_nanr (x y : Nat) (hy : Nan y) : D.order x y = none := by
  obtain ⟨s, t, e⟩ := read_nan y hy
  unfold Ieee.Format.order; rw [e]; cases D.read x <;> rfl

/-- the word of a rounded N / U -/
def Rv (neg : Bool) (N U z : Nat) : Prop := ∃ R, Rnd N U R ∧ z = D.word neg (min R infR)

theorem near_gen (neg : Bool) (m : Nat) (place : Int) (a b : Nat) (h : place = -1074 + a - b) : Rv neg (m*2^a) (2^b) (D.nearest neg m place) := by
  by_cases hm : m = 0
  · subst hm
    refine ⟨0, ?_, ?_⟩
    · have := Rnd.self (2^b) 0 (two_pos b)
      rw [show rmag 0 = 0 by rfl] at this
      simpa using this
    · unfold Ieee.Format.nearest; rw [if_pos rfl, Nat.zero_min]
  · by_cases hab : b ≤ a
    · obtain ⟨R, h1, h2⟩ := near_up neg m (a-b) hm
      refine ⟨R, ?_, ?_⟩
      · have := h1.scale (2^b) (two_pos b)
        rw [Nat.mul_assoc, ← Nat.pow_add, Nat.sub_add_cancel hab, Nat.one_mul] at this
        exact this
      · rw [← h2]; congr 1; omega
    · obtain ⟨R, h1, h2⟩ := near_down neg m (b-a) hm
      refine ⟨R, ?_, ?_⟩
      · have := h1.scale (2^a) (two_pos a)
        rw [← Nat.pow_add, Nat.sub_add_cancel (by omega)] at this
        exact this
      · rw [← h2]; congr 1; omega

theorem word_sgn (neg : Bool) (R : Nat) (h : R < 2^63) : sgn (D.word neg R) = neg ∧ D.word neg R % 2^63 = R := by
  unfold sgn Ieee.Format.word; rw [sw]
  cases neg
  · simp only [Bool.false_eq_true, if_false]; exact ⟨by simp; omega, by omega⟩
  · simp only [if_true]; exact ⟨by simp; omega, by omega⟩

theorem add_fin (x y : Nat) (hx : Fin' x) (hy : Fin' y) : ∃ z, D.add x y = some z ∧ Rv (if V x + V y = 0 then sgn x && sgn y else decide (V x + V y < 0)) (V x + V y).natAbs 1 z := by
  obtain ⟨m, p, e1, e2⟩ := read_fin x hx
  obtain ⟨n, r, e3, e4⟩ := read_fin y hy
  unfold Ieee.Format.add
  rw [e1, e3]
  unfold Ieee.Datum.sum
  dsimp only
  have hb : min (-1074 + (p:Int)) (-1074 + (r:Int)) = -1074 + (min p r : Nat) := by omega
  rw [hb, show (-1074 + (p:Int) - (-1074 + (min p r : Nat))).toNat = p - min p r by omega, show (-1074 + (r:Int) - (-1074 + (min p r : Nat))).toNat = r - min p r by omega]
  generalize hT : Ieee.signed (sgn x) m (p - min p r) + Ieee.signed (sgn y) n (r - min p r) = T
  have hTV : T*2^(min p r) = V x + V y := by
    rw [← hT, Int.add_mul, signed_eq _ _ _ _ (Nat.min_le_left ..), signed_eq _ _ _ _ (Nat.min_le_right ..), e2, e4]; rfl
  refine ⟨_, rfl, ?_⟩
  have hp := pow_pos_int (min p r)
  have s1 : V x + V y = 0 ↔ T = 0 := by
    rw [← hTV]
    constructor
    · intro h
      rcases Int.mul_eq_zero.1 h with h | h
      · exact h
      · omega
    · intro h; rw [h]; simp
  have s2 : V x + V y < 0 ↔ T < 0 := by
    rw [← hTV]
    constructor
    · intro h
      refine Int.lt_of_mul_lt_mul_right (a := 2^(min p r)) ?_ (Int.le_of_lt hp)
      rw [Int.zero_mul]; exact h
    · intro h
      have := Int.mul_lt_mul_of_pos_right h hp
      rw [Int.zero_mul] at this; exact this
  have s3 : (V x + V y).natAbs = T.natAbs*2^(min p r) := by
    rw [← hTV, Int.natAbs_mul, Int.natAbs_pow]; rfl
  simp only [s1, s2, s3]
  show Rv _ _ _ (D.nearest _ _ _)
  have := near_gen (if T = 0 then sgn x && sgn y else decide (T < 0)) T.natAbs (-1074 + (min p r : Nat)) (min p r) 0 (by omega)
  exact this

theorem opp_fin (y : Nat) (hy : Fin' y) : ∃ m p : Nat, (D.read y).opposite = .number (!sgn y) m (-1074 + p) ∧ m*2^p = rmag (y % 2^63) := by
  obtain ⟨n, r, e3, e4⟩ := read_fin y hy
  exact ⟨n, r, by rw [e3]; rfl, e4⟩

theorem sub_fin (x y : Nat) (hx : Fin' x) (hy : Fin' y) : ∃ z, D.sub x y = some z ∧ Rv (if V x - V y = 0 then sgn x && !sgn y else decide (V x - V y < 0)) (V x - V y).natAbs 1 z := by
  obtain ⟨m, p, e1, e2⟩ := read_fin x hx
  obtain ⟨n, r, e3, e4⟩ := opp_fin y hy
  unfold Ieee.Format.sub
  rw [e1, e3]
  unfold Ieee.Datum.sum
  dsimp only
  have hb : min (-1074 + (p:Int)) (-1074 + (r:Int)) = -1074 + (min p r : Nat) := by omega
  rw [hb, show (-1074 + (p:Int) - (-1074 + (min p r : Nat))).toNat = p - min p r by omega, show (-1074 + (r:Int) - (-1074 + (min p r : Nat))).toNat = r - min p r by omega]
  generalize hT : Ieee.signed (sgn x) m (p - min p r) + Ieee.signed (!sgn y) n (r - min p r) = T
  have hTV : T*2^(min p r) = V x - V y := by
    rw [← hT, Int.add_mul, signed_eq _ _ _ _ (Nat.min_le_left ..), signed_eq _ _ _ _ (Nat.min_le_right ..), e2, e4]
    unfold V; cases sgn y <;> cases sgn x <;> simp <;> omega
  refine ⟨_, rfl, ?_⟩
  have hp := pow_pos_int (min p r)
  have s1 : V x - V y = 0 ↔ T = 0 := by
    rw [← hTV]
    constructor
    · intro h
      rcases Int.mul_eq_zero.1 h with h | h
      · exact h
      · omega
    · intro h; rw [h]; simp
  have s2 : V x - V y < 0 ↔ T < 0 := by
    rw [← hTV]
    constructor
    · intro h
      refine Int.lt_of_mul_lt_mul_right (a := 2^(min p r)) ?_ (Int.le_of_lt hp)
      rw [Int.zero_mul]; exact h
    · intro h
      have := Int.mul_lt_mul_of_pos_right h hp
      rw [Int.zero_mul] at this; exact this
  have s3 : (V x - V y).natAbs = T.natAbs*2^(min p r) := by
    rw [← hTV, Int.natAbs_mul, Int.natAbs_pow]; rfl
  simp only [s1, s2, s3]
  show Rv _ _ _ (D.nearest _ _ _)
  have := near_gen (if T = 0 then sgn x && !sgn y else decide (T < 0)) T.natAbs (-1074 + (min p r : Nat)) (min p r) 0 (by omega)
  exact this

end Go.Proofs.YtlikknamliamiaaDoor
