/-
  What sums are on the whole: rounding keeps the order. Plain.
-/
import Derived.Test.YtlikknamliamiaaDoorRatP
namespace Go.Proofs.YtlikknamliamiaaDoor
set_option linter.unusedVariables false
theorem V_signed {z R : Nat} {neg : Bool} (h : z = D.word neg (min R infR)) : z % 2^63 = min R infR ∧ V z = if neg then -(rmag (min R infR) : Int) else (rmag (min R infR) : Int) := by
  have hi : min R infR < 2^63 := by
    have : min R infR ≤ infR := Nat.min_le_right ..
    unfold infR at *; omega
  obtain ⟨a, b⟩ := word_sgn neg (min R infR) hi
  rw [← h] at a b
  exact ⟨b, by unfold V; rw [a, b]⟩
theorem rv_le {T A : Int} {u z r : Nat} {neg : Bool} (hu : 0 < u) (hr : Fin' r) (hA : V r = A) (h : Rv neg T.natAbs u z) (hs : T ≠ 0 → neg = decide (T < 0)) (hle : T ≤ A*u) : V z ≤ A := by
  obtain ⟨R, h1, h2⟩ := h
  obtain ⟨_, hV⟩ := V_signed h2
  have hAn : A.natAbs = rmag (r % 2^63) := by rw [← hA, V_abs]
  have self := Rnd.self u (r % 2^63) hu
  rw [← hAn] at self
  by_cases c : A < 0
  · have hT : T < 0 := by have : A*u < 0 := Int.mul_neg_of_neg_of_pos c (by omega); omega
    rw [hs (by omega), decide_eq_true hT] at hV
    simp only [if_true] at hV
    have hle2 : A.natAbs*u ≤ T.natAbs := by
      have : ((A.natAbs*u : Nat) : Int) = -(A*u) := by rw [Int.natCast_mul, ← Int.neg_mul]; congr 1; omega
      omega
    have hR : r % 2^63 ≤ R := self.mono hu h1 hle2
    have : rmag (r % 2^63) ≤ rmag (min R infR) := rmag_mono (by unfold Fin' at hr; omega)
    omega
  · by_cases d : T < 0
    · rw [hs (by omega), decide_eq_true d] at hV
      simp only [if_true] at hV
      omega
    · have hle2 : T.natAbs ≤ A.natAbs*u := by
        have : ((A.natAbs*u : Nat) : Int) = A*u := by rw [Int.natCast_mul]; congr 1; omega
        omega
      have hR : R ≤ r % 2^63 := h1.mono hu self hle2
      have : rmag (min R infR) ≤ rmag (r % 2^63) := rmag_mono (by omega)
      split at hV <;> omega
theorem rv_ge {T A : Int} {u z r : Nat} {neg : Bool} (hu : 0 < u) (hr : Fin' r) (hA : V r = A) (h : Rv neg T.natAbs u z) (hs : T ≠ 0 → neg = decide (T < 0)) (hle : A*u ≤ T) : A ≤ V z := by
  obtain ⟨R, h1, h2⟩ := h
  obtain ⟨_, hV⟩ := V_signed h2
  have hAn : A.natAbs = rmag (r % 2^63) := by rw [← hA, V_abs]
  have self := Rnd.self u (r % 2^63) hu
  rw [← hAn] at self
  by_cases c : A ≤ 0
  · by_cases d : T < 0
    · rw [hs (by omega), decide_eq_true d] at hV
      simp only [if_true] at hV
      have hle2 : T.natAbs ≤ A.natAbs*u := by
        have : ((A.natAbs*u : Nat) : Int) = -(A*u) := by rw [Int.natCast_mul, ← Int.neg_mul]; congr 1; omega
        omega
      have hR : R ≤ r % 2^63 := h1.mono hu self hle2
      have : rmag (min R infR) ≤ rmag (r % 2^63) := rmag_mono (by omega)
      omega
    · by_cases e : T = 0
      · subst e
        have hR : R ≤ 0 := h1.mono hu (Rnd.self u 0 hu) (by simp)
        have hR0 : R = 0 := by omega
        subst hR0
        have e0 : rmag (min 0 infR) = 0 := by simp [rmag]
        rw [e0] at hV
        split at hV <;> omega
      · rw [hs e, decide_eq_false d] at hV
        simp only [Bool.false_eq_true, if_false] at hV
        omega
  · have hT : 0 < T := by have : 0 < A*u := Int.mul_pos (by omega) (by omega); omega
    rw [hs (by omega), decide_eq_false (by omega)] at hV
    simp only [Bool.false_eq_true, if_false] at hV
    have hle2 : A.natAbs*u ≤ T.natAbs := by
      have : ((A.natAbs*u : Nat) : Int) = A*u := by rw [Int.natCast_mul]; congr 1; omega
      omega
    have hR : r % 2^63 ≤ R := self.mono hu h1 hle2
    have : rmag (r % 2^63) ≤ rmag (min R infR) := rmag_mono (by unfold Fin' at hr; omega)
    omega
theorem rv_num {neg : Bool} {N u z : Nat} (h : Rv neg N u z) : ¬ Nan z := by
  obtain ⟨R, _, h2⟩ := h
  have := (V_signed h2).1
  have : min R infR ≤ infR := Nat.min_le_right ..
  unfold Nan; omega
theorem fin_of_V {z : Nat} (h : ¬ Nan z) (h1 : -edge ≤ V z) (h2 : V z < edge) : Fin' z := by
  rcases tri z with g | g | g
  · exact g
  · have := inf_V z g; omega
  · exact absurd g h
/-- the sign of a number that is not nought -/
theorem sgn_V {z : Nat} (h : V z ≠ 0) : sgn z = decide (V z < 0) := by
  have e : V z = if sgn z then -(rmag (z % 2^63) : Int) else (rmag (z % 2^63) : Int) := rfl
  cases hs : sgn z
  · rw [hs] at e; simp only [Bool.false_eq_true, if_false] at e
    rw [decide_eq_false (by omega)]
  · rw [hs] at e; simp only [if_true] at e
    rw [decide_eq_true (by omega)]
theorem sub_Rv (x y : Nat) (hx : Fin' x) (hy : Fin' y) : ∃ z neg, D.sub x y = some z ∧ Rv neg (V x - V y).natAbs 1 z ∧ (V x - V y ≠ 0 → neg = decide (V x - V y < 0)) := by
  obtain ⟨z, h1, h2⟩ := sub_fin x y hx hy
  exact ⟨z, _, h1, h2, fun h => by rw [if_neg h]⟩
theorem add_Rv (x y : Nat) (hx : Fin' x) (hy : Fin' y) : ∃ z neg, D.add x y = some z ∧ Rv neg (V x + V y).natAbs 1 z ∧ (V x + V y ≠ 0 → neg = decide (V x + V y < 0)) := by
  obtain ⟨z, h1, h2⟩ := add_fin x y hx hy
  exact ⟨z, _, h1, h2, fun h => by rw [if_neg h]⟩
theorem div_Rv (x y : Nat) (hx : Fin' x) (hy : Fin' y) (h0 : 0 < V y) : ∃ z neg, D.div x y = some z ∧ Rv neg (V x * U).natAbs (V y).natAbs z ∧ (V x * U ≠ 0 → neg = decide (V x * U < 0)) := by
  have hU := U_pos
  obtain ⟨z, h1, h2⟩ := div_fin x y hx hy (by rw [← V_abs]; omega)
  have sy : sgn y = false := by rw [sgn_V (by omega), decide_eq_false (by omega)]
  rw [← V_abs, ← V_abs, sy, Bool.xor_false] at h2
  refine ⟨z, _, h1, by rw [Int.natAbs_mul, Int.natAbs_natCast]; exact h2, fun h => ?_⟩
  have hx0 : V x ≠ 0 := fun e => h (by rw [e, Int.zero_mul])
  rw [sgn_V hx0]
  by_cases c : V x < 0
  · rw [decide_eq_true c, decide_eq_true (Int.mul_neg_of_neg_of_pos c (by omega))]
  · have : 0 < V x * U := Int.mul_pos (by omega) (by omega)
    rw [decide_eq_false c, decide_eq_false (by omega)]
def milli_ : Nat := 4562254508917369340
theorem fin_milli : Fin' milli_ := fin_lt (by decide)
theorem V_milli : 0 ≤ V milli_ := by
  have : sgn milli_ = false := by decide
  unfold V
  rw [this, if_neg (by decide)]
  exact Int.natCast_nonneg _
/-- a little less, a little more -/
theorem less_milli (a : Int) (h : a.natAbs ≤ 2^53) : ∃ z, D.sub (ofI a) milli_ = some z ∧ ¬ Nan z ∧ V z ≤ a*U := by
  obtain ⟨f1, f2⟩ := ofI_fin a h
  obtain ⟨z, neg, h1, h2, h3⟩ := sub_Rv (ofI a) milli_ f1 fin_milli
  refine ⟨z, h1, rv_num h2, ?_⟩
  have hm := V_milli
  exact rv_le Nat.one_pos f1 f2 h2 h3 (by rw [f2, Int.natCast_one, Int.mul_one]; generalize a*U = b; generalize V milli_ = m at *; omega)
theorem more_milli (a : Int) (h : a.natAbs ≤ 2^53) : ∃ z, D.add (ofI a) milli_ = some z ∧ ¬ Nan z ∧ a*U ≤ V z := by
  obtain ⟨f1, f2⟩ := ofI_fin a h
  obtain ⟨z, neg, h1, h2, h3⟩ := add_Rv (ofI a) milli_ f1 fin_milli
  refine ⟨z, h1, rv_num h2, ?_⟩
  have hm := V_milli
  exact rv_ge Nat.one_pos f1 f2 h2 h3 (by rw [f2, Int.natCast_one, Int.mul_one]; generalize a*U = b; generalize V milli_ = m at *; omega)
/-- the whole: between the least and the greatest -/
theorem mean_div (s k : Nat) (S K lo hi : Int) (hs : Fin' s) (hk : Fin' k) (hS : V s = S*U) (hK : V k = K*U) (h0 : 0 < K) (hlo : lo.natAbs ≤ 2^40) (hhi : hi.natAbs ≤ 2^40) (h1 : lo*K ≤ S) (h2 : S ≤ hi*K) :
    ∃ z, D.div s k = some z ∧ Fin' z ∧ lo*U ≤ V z ∧ V z ≤ hi*U := by
  have hU := U_pos
  have hKU : 0 < K*U := Int.mul_pos h0 (by omega)
  obtain ⟨z, neg, e1, e2, e3⟩ := div_Rv s k hs hk (by rw [hK]; exact hKU)
  obtain ⟨f1, f2⟩ := ofI_fin lo (by omega)
  obtain ⟨g1, g2⟩ := ofI_fin hi (by omega)
  have hc : (((V k).natAbs : Nat) : Int) = K*U := by rw [hK]; omega
  have hu : 0 < (V k).natAbs := by rw [hK]; omega
  have a1 : lo*U*(((V k).natAbs : Nat) : Int) ≤ V s*U := by
    rw [hc, hS]
    have : lo*U*(K*U) = lo*K*U*U := by generalize (U:Int) = u; ac_rfl
    rw [this]
    exact Int.mul_le_mul_of_nonneg_right (Int.mul_le_mul_of_nonneg_right h1 (by omega)) (by omega)
  have a2 : V s*U ≤ hi*U*(((V k).natAbs : Nat) : Int) := by
    rw [hc, hS]
    have : hi*U*(K*U) = hi*K*U*U := by generalize (U:Int) = u; ac_rfl
    rw [this]
    exact Int.mul_le_mul_of_nonneg_right (Int.mul_le_mul_of_nonneg_right h2 (by omega)) (by omega)
  have b1 := rv_ge hu f1 f2 e2 e3 a1
  have b2 := rv_le hu g1 g2 e2 e3 a2
  refine ⟨z, e1, fin_of_V (rv_num e2) ?_ ?_, b1, b2⟩
  · have : (-(2:Int)^63)*U ≤ lo*U := mulU_le.2 (by omega)
    unfold edge; omega
  · have : hi*U < ((2:Int)^63)*U := mulU_lt.2 (by omega)
    unfold edge; omega
theorem div00 : D.div 0 0 = none := by decide +kernel
end Go.Proofs.YtlikknamliamiaaDoor
