/-
  Doubles made whole: to the nearest even, towards zero; the reference's way to the nearest. Plain.
-/
import Derived.Test.YtlikknamliamiaaDoorFlt
namespace Go.Proofs.YtlikknamliamiaaDoor
set_option linter.unusedVariables false
/-- powers of two, kept shut -/
def tp (n : Nat) : Nat := 2^n
theorem tp_pos (n : Nat) : 0 < tp n := two_pos n
theorem tp_succ (n : Nat) : tp (n+1) = 2*tp n := by unfold tp; rw [Nat.pow_succ, Nat.mul_comm]
theorem tp_add (a b : Nat) : tp (a+b) = tp a*tp b := Nat.pow_add 2 a b
theorem tp_le {a b : Nat} (h : a ≤ b) : tp a ≤ tp b := Nat.pow_le_pow_right (by omega) h
theorem tp_sub {a b : Nat} (h : b ≤ a) : tp (a-b)*tp b = tp a := by rw [← tp_add, Nat.sub_add_cancel h]
theorem near_tp (neg : Bool) (m : Nat) (place : Int) (a b : Nat) (h : place = -1074 + a - b) : Rv neg (m*tp a) (tp b) (D.nearest neg m place) := near_gen neg m place a b h
theorem tp_zero : tp 0 = 1 := rfl
/-- one, in least units -/
def U : Nat := tp 1074
/-- a half -/
def HU : Nat := tp 1073
theorem U_eq : U = 2*HU := by
  unfold U HU
  exact (congrArg tp (by omega : 1074 = 1073+1)).trans (tp_succ 1073)
theorem HU_pos : 0 < HU := tp_pos _
theorem U_pos : 0 < U := tp_pos _
theorem U_split (p : Nat) (h : p < 1074) : U = tp (1074-p)*tp p ∧ HU = tp (1073-p)*tp p := ⟨(tp_sub (by omega)).symm, (tp_sub (by omega)).symm⟩

/-- n is X / U to the nearest, of two the even one -/
def IsR (X n : Int) : Prop := 2*(n*U) ≤ 2*X + U ∧ 2*X ≤ 2*(n*U) + U ∧ (2*(n*U) = 2*X + U → n%2 = 0) ∧ (2*X = 2*(n*U) + U → n%2=0)

theorem IsR.uniq {X n n' : Int} (h : IsR X n) (g : IsR X n') : n = n' := by
  obtain ⟨h1, h2, h3, h4⟩ := h
  obtain ⟨g1, g2, g3, g4⟩ := g
  have hU : (0:Int) < U := by have := U_pos; omega
  generalize (U : Int) = u at *
  rcases Int.lt_trichotomy n n' with c | c | c
  · exfalso
    have h5 := Int.mul_le_mul_of_nonneg_right (show n+1 ≤ n' from c) (Int.le_of_lt hU)
    rw [Int.add_mul, Int.one_mul] at h5
    by_cases c2 : n + 2 ≤ n'
    · have h6 := Int.mul_le_mul_of_nonneg_right c2 (Int.le_of_lt hU)
      rw [Int.add_mul] at h6; omega
    · have e : n' = n+1 := by omega
      have := h4 (by omega)
      have := g3 (by omega)
      omega
  · exact c
  · exfalso
    have h5 := Int.mul_le_mul_of_nonneg_right (show n'+1 ≤ n from c) (Int.le_of_lt hU)
    rw [Int.add_mul, Int.one_mul] at h5
    by_cases c2 : n' + 2 ≤ n
    · have h6 := Int.mul_le_mul_of_nonneg_right c2 (Int.le_of_lt hU)
      rw [Int.add_mul] at h6; omega
    · have e : n = n'+1 := by omega
      have := g4 (by omega)
      have := h3 (by omega)
      omega

theorem IsR.exact (n : Int) : IsR (n*U) n := by
  unfold IsR
  have hU : (0:Int) < U := by have := U_pos; omega
  generalize (U : Int) = u at *
  exact ⟨by omega, by omega, fun _ => by omega, fun _ => by omega⟩

/-- what a finite word is: m small, p places up -/
theorem parts (w : Nat) (h : Fin' w) : ∃ m p : Nat, D.read w = .number (sgn w) m (-1074 + p) ∧ m*tp p = rmag (w % 2^63) ∧ m < 2^53 ∧ p ≤ 2045 := by
  unfold Fin' infR at h
  unfold Ieee.Format.read
  rw [lp, bn, ir, sw]
  dsimp only
  by_cases c : w % 2^63 < 2^52
  · exact ⟨w % 2^63, 0, by rw [if_pos c]; rfl, by unfold rmag; rw [if_pos c, tp_zero]; omega, by omega, by omega⟩
  · exact ⟨2^52 + w % 2^63 % 2^52, w % 2^63 / 2^52 - 1, by rw [if_neg c, if_pos h]; rfl, by unfold rmag tp; rw [if_neg c], by omega, by omega⟩

theorem Rv.at {neg : Bool} {N u z r : Nat} (hu : 0 < u) (h : Rv neg N u z) (e : N = rmag r * u) (hr : r < infR) : Fin' z ∧ sgn z = neg ∧ z % 2^63 = r := by
  obtain ⟨R, h1, rfl⟩ := h
  subst e
  have := h1.exact hu
  subst this
  unfold infR at hr
  have e : min R infR = R := Nat.min_eq_left (by unfold infR; omega)
  have ⟨a, b⟩ := word_sgn neg R (by omega)
  rw [e]
  exact ⟨by unfold Fin' infR; rw [b]; omega, a, b⟩

theorem V_of {z : Nat} {neg : Bool} {M : Nat} (h1 : sgn z = neg) (h2 : rmag (z % 2^63) = M) : V z = if neg then -(M : Int) else M := by
  unfold V; rw [h1, h2]

theorem mul_fin (x y : Nat) (hx : Fin' x) (hy : Fin' y) : ∃ z, D.mul x y = some z ∧ Rv (sgn x ^^ sgn y) (rmag (x % 2^63) * rmag (y % 2^63)) U z := by
  obtain ⟨m, p, e1, e2, _, _⟩ := parts x hx
  obtain ⟨n, r, e3, e4, _, _⟩ := parts y hy
  unfold Ieee.Format.mul
  rw [e1, e3]
  unfold Ieee.Datum.product
  refine ⟨_, rfl, ?_⟩
  rw [← e2, ← e4]
  have := near_tp (sgn x ^^ sgn y) (m*n) (-1074 + p + (-1074 + r)) (p+r) 1074 (by omega)
  rw [show m*tp p*(n*tp r) = m*n*tp (p+r) by rw [tp_add, Nat.mul_assoc, Nat.mul_assoc]; congr 1; rw [← Nat.mul_assoc, Nat.mul_comm (tp p) n, Nat.mul_assoc]]
  exact this

/-- m * 2 ^ p with m small is the magnitude of a finite rung -/
theorem rung_of (m p : Nat) (hm : m ≤ 2^53) (hp : p ≤ 2044) : ∃ r, r < infR ∧ rmag r = m*tp p := by
  unfold tp
  obtain ⟨r, hr⟩ := rmag_of m p hm
  refine ⟨r, ?_, hr⟩
  have e := rmag_at p (2^53) (Nat.le_refl _) (.inr (by omega))
  have h1 : rmag r ≤ rmag (p*2^52+2^53) := by rw [hr, e]; exact Nat.mul_le_mul_right _ hm
  have h2 : r ≤ p*2^52+2^53 := by
    by_cases g : r ≤ p*2^52+2^53
    · exact g
    · have := rmag_lt.2 (show p*2^52+2^53 < r by omega); omega
  unfold infR; omega

/-- a small whole number, as a double -/
theorem ofInt_small (n : Int) (hn : n.natAbs ≤ 2^53) : Fin' (D.write (.number (decide (n < 0)) n.natAbs 0)) ∧ V (D.write (.number (decide (n < 0)) n.natAbs 0)) = n*U := by
  have h : Rv (decide (n < 0)) (n.natAbs*U) (tp 0) (D.write (.number (decide (n < 0)) n.natAbs 0)) := near_tp (decide (n < 0)) n.natAbs 0 1074 0 (by omega)
  obtain ⟨r, hr, e⟩ := rung_of n.natAbs 1074 hn (by omega)
  obtain ⟨a, b, c⟩ := h.at (r := r) (tp_pos 0) (by rw [e, tp_zero, Nat.mul_one]; rfl) hr
  refine ⟨a, ?_⟩
  rw [V_of b (M := n.natAbs*U) (by rw [c]; exact e)]
  generalize U = u
  by_cases c : n < 0
  · rw [decide_eq_true c, if_pos rfl, Int.natCast_mul, show ((n.natAbs : Nat) : Int) = -n by omega, Int.neg_mul, Int.neg_neg]
  · rw [decide_eq_false c, if_neg (by simp), Int.natCast_mul, show ((n.natAbs : Nat) : Int) = n by omega]

theorem whole_big {m p : Nat} (h : ¬ p < 1074) : m*tp p = m*tp (p-1074)*U := by
  unfold U; rw [Nat.mul_assoc, tp_sub (by omega)]

/-- to the nearest even -/
theorem rte_fin (x : Nat) (hx : Fin' x) : ∃ z, D.write ((D.read x).integral .even) = z ∧ Fin' z ∧ ∃ n : Int, V z = n*U ∧ IsR (V x) n := by
  obtain ⟨m, p, e1, e2, hm, hp⟩ := parts x hx
  rw [e1]
  unfold Ieee.Datum.integral
  dsimp only
  refine ⟨_, rfl, ?_⟩
  by_cases c : p < 1074
  · rw [show (-1074 + (p:Int)).toNat = 0 by omega, show (-(-1074 + (p:Int))).toNat = 1074 - p by omega, show m <<< 0 = m from Nat.shiftLeft_zero]
    have kk := cut_spec (sgn x) m (1074-p)
    change 2*(_*tp _) ≤ 2*m+tp _ ∧ 2*m ≤ 2*(_*tp _) + tp _ ∧ (2*(_*tp _) = 2*m+tp _ → _) ∧ (2*m = 2*(_*tp _)+tp _ → _) at kk
    obtain ⟨k1, k2, k3, k4⟩ := kk
    generalize Ieee.Toward.cut .even (sgn x) m (1074-p) = k at *
    have hk : k ≤ 2^53 := by
      have hd : tp (1074-p) = 2*tp (1073-p) := by rw [show 1074-p = 1073-p+1 by omega, tp_succ]
      have := tp_pos (1073-p)
      rw [hd] at k1
      generalize tp (1073-p) = d at *
      by_cases g : k ≤ 2^53
      · exact g
      · exfalso
        have h := Nat.mul_le_mul_right (2*d) (show 2^53+1 ≤ k by omega)
        rw [Nat.add_mul] at h; omega
    obtain ⟨r, hr, e⟩ := rung_of k 1074 hk (by omega)
    obtain ⟨a, b, c2⟩ := (near_tp (sgn x) k 0 1074 0 (by omega)).at (r := r) (tp_pos 0) (by rw [e, tp_zero, Nat.mul_one]) hr
    refine ⟨a, if sgn x then -(k:Int) else k, ?_, ?_⟩
    · refine (V_of (M := k*U) b (by rw [c2]; exact e)).trans ?_
      cases sgn x
      · simp only [Bool.false_eq_true, if_false]; rw [Int.natCast_mul]
      · simp only [if_true]; rw [Int.natCast_mul, Int.neg_mul]
    · have hU : U = tp (1074-p)*tp p := (U_split p c).1
      have hp0 := tp_pos p
      have j1 := Nat.mul_le_mul_right (tp p) k1
      have j2 := Nat.mul_le_mul_right (tp p) k2
      have V1 : V x = if sgn x then -((m*tp p : Nat) : Int) else ((m*tp p : Nat) : Int) := by unfold V; rw [e2]
      rw [V1]
      unfold IsR
      have g1 : k*U = k*tp (1074-p)*tp p := by rw [hU, Nat.mul_assoc]
      have g2 : ((k:Int)*(U:Int)) = ((k*tp (1074-p)*tp p : Nat) : Int) := by rw [← g1, Int.natCast_mul]
      have g3 : (-(k:Int)*(U:Int)) = -((k*tp (1074-p)*tp p : Nat) : Int) := by rw [Int.neg_mul, g2]
      have i1 : (2*(k*tp (1074-p)))*tp p = 2*(k*tp (1074-p)*tp p) := Nat.mul_assoc ..
      have i2 : (2*m + tp (1074-p))*tp p = 2*(m*tp p) + U := by rw [Nat.add_mul, Nat.mul_assoc, ← hU]
      have i3 : (2*m)*tp p = 2*(m*tp p) := Nat.mul_assoc ..
      have i4 : (2*(k*tp (1074-p)) + tp (1074-p))*tp p = 2*(k*tp (1074-p)*tp p) + U := by rw [Nat.add_mul, ← hU, i1]
      rw [i1, i2] at j1
      rw [i3, i4] at j2
      have j3 : 2*(k*tp (1074-p)*tp p) = 2*(m*tp p) + U → k % 2 = 0 := fun h => k3 (Nat.eq_of_mul_eq_mul_right hp0 (by rw [i1, i2]; exact h))
      have j4 : 2*(m*tp p) = 2*(k*tp (1074-p)*tp p) + U → k % 2 = 0 := fun h => k4 (Nat.eq_of_mul_eq_mul_right hp0 (by rw [i3, i4]; exact h))
      generalize k*tp (1074-p)*tp p = K at *
      generalize m*tp p = M at *
      cases sgn x
      · simp only [Bool.false_eq_true, if_false]
        rw [g2]
        exact ⟨by omega, by omega, fun h => by have := j3 (by omega); omega, fun h => by have := j4 (by omega); omega⟩
      · simp only [if_true]
        rw [g3]
        exact ⟨by omega, by omega, fun h => by have := j4 (by omega); omega, fun h => by have := j3 (by omega); omega⟩
  · rw [show (-1074 + (p:Int)).toNat = p - 1074 by omega, show (-(-1074 + (p:Int))).toNat = 0 by omega, cut_zero, Nat.shiftLeft_eq]
    change Fin' (D.nearest (sgn x) (m*tp (p-1074)) 0) ∧ _
    obtain ⟨a, b, c2⟩ := (near_tp (sgn x) (m*tp (p-1074)) 0 1074 0 (by omega)).at (r := x % 2^63) (tp_pos 0) (by rw [← e2, tp_zero, Nat.mul_one]; exact (whole_big c).symm) hx
    have V0 : V (D.nearest (sgn x) (m*tp (p-1074)) 0) = V x := by unfold V; rw [b, c2]
    refine ⟨a, if sgn x then -((m*tp (p-1074) : Nat) : Int) else ((m*tp (p-1074) : Nat) : Int), ?_⟩
    have V2 : V x = (if sgn x then -((m*tp (p-1074) : Nat) : Int) else ((m*tp (p-1074) : Nat) : Int)) * U := by
      unfold V; rw [← e2, whole_big c]
      cases sgn x
      · simp only [Bool.false_eq_true, if_false]; rw [Int.natCast_mul]
      · simp only [if_true]; rw [Int.natCast_mul, Int.neg_mul]
    refine ⟨V0.trans V2, ?_⟩
    rw [V2]
    exact IsR.exact _

theorem cut_zero_div (neg : Bool) (n d : Nat) : Ieee.Toward.zero.cut neg n d = n / tp d := by
  unfold Ieee.Toward.cut
  dsimp only
  rw [Nat.one_shiftLeft]
  simp only [Bool.toNat_false, Nat.add_zero]
  by_cases h : d ≤ n.log2 + 2
  · rw [Nat.min_eq_left h]; rfl
  · rw [Nat.min_eq_right (by omega)]
    have h1 : n < 2^(n.log2+1) := Nat.lt_log2_self
    have h3 : 2^(n.log2+1) ≤ tp d := Nat.pow_le_pow_right (by omega) (by omega)
    have h4 : 2^(n.log2+1) ≤ 2^(n.log2+2) := Nat.pow_le_pow_right (by omega) (by omega)
    rw [Nat.div_eq_of_lt (by omega), Nat.div_eq_of_lt (by omega)]

/-- towards zero -/
theorem toInt_fin (x : Nat) (hx : Fin' x) : (D.read x).toInt .zero = some (if sgn x then -((rmag (x % 2^63) / U : Nat) : Int) else ((rmag (x % 2^63) / U : Nat) : Int)) := by
  obtain ⟨m, p, e1, e2, hm, hp⟩ := parts x hx
  unfold Ieee.Datum.toInt
  rw [e1]
  unfold Ieee.Datum.integral
  dsimp only
  rw [← e2]
  by_cases c : p < 1074
  · rw [show (-1074 + (p:Int)).toNat = 0 by omega, show (-(-1074 + (p:Int))).toNat = 1074 - p by omega, show m <<< 0 = m from Nat.shiftLeft_zero, cut_zero_div]
    have : m*tp p / U = m / tp (1074-p) := by
      rw [(U_split p c).1, Nat.mul_div_mul_right _ _ (tp_pos p)]
    rw [this]
    unfold Ieee.signed
    rw [Nat.shiftLeft_zero]
  · rw [show (-1074 + (p:Int)).toNat = p - 1074 by omega, show (-(-1074 + (p:Int))).toNat = 0 by omega, cut_zero, Nat.shiftLeft_eq, whole_big c, Nat.mul_div_cancel _ U_pos]
    unfold Ieee.signed
    rw [Nat.shiftLeft_zero]
    rfl
end Go.Proofs.YtlikknamliamiaaDoor
