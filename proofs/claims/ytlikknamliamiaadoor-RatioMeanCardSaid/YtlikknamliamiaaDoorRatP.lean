/-
  Sums times small numbers, exactly. Plain.
-/
import Derived.Test.YtlikknamliamiaaDoorFlt4
import Derived.Test.YtlikknamliamiaaDoorRat2
namespace Go.Proofs.YtlikknamliamiaaDoor
set_option linter.unusedVariables false
theorem ofI_fin (a : Int) (h : a.natAbs ≤ 2^53) : Fin' (ofI a) ∧ V (ofI a) = a*U := ofInt_small a h
theorem mul_exact (x y m p : Nat) (hx : Fin' x) (hy : Fin' y) (hm : m ≤ 2^53) (hp : p ≤ 2044) (h : rmag (x % 2^63) * rmag (y % 2^63) = m*tp p*U) : ∃ z, D.mul x y = some z ∧ Fin' z ∧ V z * U = V x * V y := by
  obtain ⟨r, hr, hm2⟩ := rung_of m p hm hp
  obtain ⟨z, h1, h2⟩ := mul_fin x y hx hy
  rw [h, ← hm2] at h2
  obtain ⟨h3, h4, h5⟩ := h2.at U_pos rfl hr
  refine ⟨z, h1, h3, ?_⟩
  have h6 : ((rmag (x % 2^63) : Int)) * (rmag (y % 2^63) : Int) = (rmag (z % 2^63) : Int) * U := by
    rw [h5, hm2]
    have := congrArg (fun n : Nat => (n : Int)) h
    simpa using this
  unfold V
  rw [h4]
  cases sgn x <;> cases sgn y <;> simp [Int.neg_mul, Int.mul_neg, h6]
theorem times_exact (a : Int) (x m p : Nat) (ha : a.natAbs ≤ 2^53) (hx : Fin' x) (hm : a.natAbs*m ≤ 2^53) (hp : p ≤ 2044) (h : rmag (x % 2^63) = m*tp p) : ∃ z, D.mul (ofI a) x = some z ∧ Fin' z ∧ V z = a * V x := by
  obtain ⟨f1, f2⟩ := ofI_fin a ha
  have f3 : rmag (ofI a % 2^63) = a.natAbs*U := by
    rw [← V_abs, f2, Int.natAbs_mul]; rfl
  obtain ⟨z, h1, h2, h3⟩ := mul_exact (ofI a) x (a.natAbs*m) p f1 hx hm hp (by rw [f3, h]; generalize tp p = b; generalize U = c; ac_rfl)
  refine ⟨z, h1, h2, ?_⟩
  have hU : (U : Int) ≠ 0 := by have := U_pos; omega
  refine Int.eq_of_mul_eq_mul_right hU ?_
  rw [h3, f2, Int.mul_right_comm]
theorem rnd_fin {z : Nat} (h : Fin' z) (h1 : V z < edge) (h2 : -edge ≤ V z) : rnd z = some (rneI (V z)) := by
  unfold rnd; unfold Fin' at h
  rw [if_neg (by omega)]
theorem timesR_exact (a : Int) (x m p : Nat) (ha : a.natAbs ≤ 2^53) (hx : Fin' x) (hm : a.natAbs*m ≤ 2^53) (hp : p ≤ 1074) (h : rmag (x % 2^63) = m*tp p) : timesR a x = some (rneI (a * V x)) := by
  obtain ⟨z, h1, h2, h3⟩ := times_exact a x m p ha hx hm (by omega) h
  unfold timesR
  rw [h1]
  show rnd z = _
  have hb : (a * V x).natAbs ≤ 2^53*U := by
    rw [Int.natAbs_mul, V_abs, h, ← Nat.mul_assoc]
    exact Nat.mul_le_mul hm (tp_le hp)
  rw [← h3] at hb
  have hU := U_pos
  rw [rnd_fin h2 (by unfold edge; omega) (by unfold edge; omega), h3]
def one_ : Nat := 4607182418800017408
def mone_ : Nat := 13830554455654793216
def half_ : Nat := 4602678819172646912
def quar_ : Nat := 4598175219545276416
def QU : Nat := tp 1072
theorem HU_eq : HU = 2*QU := by
  unfold HU QU
  exact (congrArg tp (by omega : 1073 = 1072+1)).trans (tp_succ 1072)
theorem V_one : V one_ = U := by kernel_rfl
theorem V_mone : V mone_ = -(U:Int) := by kernel_rfl
theorem V_quar : V quar_ = QU := by kernel_rfl
theorem V_half' : V half_ = HU := V_half
theorem rneI_mul (n : Int) : rneI (n*U) = n := (rneI_ok _).uniq (IsR.exact n)
theorem fin_lt {x : Nat} (h : x % 2^63 < infR) : Fin' x := h
theorem rmag_V {x M : Nat} (h : (V x).natAbs = M) : rmag (x % 2^63) = M := by rw [← V_abs]; exact h
theorem t_one (a : Int) (h : a.natAbs ≤ 2^52) : timesR a one_ = some a := by
  rw [timesR_exact a one_ 1 1074 (by omega) (fin_lt (by decide)) (by omega) (by omega) (rmag_V (by rw [V_one, Nat.one_mul]; rfl)), V_one, rneI_mul]
theorem t_mone (a : Int) (h : a.natAbs ≤ 2^52) : timesR a mone_ = some (-a) := by
  rw [timesR_exact a mone_ 1 1074 (by omega) (fin_lt (by decide)) (by omega) (by omega) (rmag_V (by rw [V_mone, Nat.one_mul, Int.natAbs_neg]; rfl)), V_mone, Int.mul_neg, ← Int.neg_mul, rneI_mul]
set_option maxRecDepth 100000 in
theorem t_zero (a : Int) (h : a.natAbs ≤ 2^52) : timesR a 0 = some 0 := by
  rw [timesR_exact a 0 0 0 (by omega) (fin_lt (by decide)) (by omega) (by omega) (rmag_V (by rw [V_zero]; rfl)), V_zero, Int.mul_zero]
  have := rneI_mul 0
  rw [Int.zero_mul] at this
  rw [this]
theorem t_half (a : Int) (h : a.natAbs ≤ 2^52) : timesR a half_ = some (rneI (a*HU)) := by
  rw [timesR_exact a half_ 1 1073 (by omega) (fin_lt (by decide)) (by omega) (by omega) (rmag_V (by rw [V_half', Nat.one_mul]; rfl)), V_half']
theorem t_quar (a : Int) (h : a.natAbs ≤ 2^52) : timesR a quar_ = some (rneI (a*QU)) := by
  rw [timesR_exact a quar_ 1 1072 (by omega) (fin_lt (by decide)) (by omega) (by omega) (rmag_V (by rw [V_quar, Nat.one_mul]; rfl)), V_quar]
theorem half_near (a : Int) : 2*rneI (a*HU) ≤ a+1 ∧ a ≤ 2*rneI (a*HU) + 1 := by
  obtain ⟨h1, h2, _, _⟩ := rneI_ok (a*HU)
  generalize rneI (a*HU) = n at *
  have hH : (0:Int) < HU := by have := HU_pos; omega
  rw [U_eq] at h1 h2
  generalize (HU : Nat) = H at *
  have e1 : 2*(n*((2*H : Nat) : Int)) = (4*n)*H := by rw [Int.natCast_mul]; simp only [Int.mul_assoc]; rw [Int.mul_left_comm n]; omega
  have e2 : 2*(a*(H:Int)) + ((2*H : Nat):Int) = (2*a+2)*H := by rw [Int.add_mul, Int.mul_assoc]; omega
  have e3 : 2*(n*((2*H : Nat) : Int)) + ((2*H : Nat):Int) = (4*n+2)*H := by rw [e1, Int.add_mul]; omega
  have e4 : 2*(a*(H:Int)) = (2*a)*H := by rw [Int.mul_assoc]
  rw [e1, e2] at h1
  rw [e3, e4] at h2
  have := Int.le_of_mul_le_mul_right h1 hH
  have := Int.le_of_mul_le_mul_right h2 hH
  omega
theorem quar_near (a : Int) : 4*rneI (a*QU) ≤ a+2 ∧ a ≤ 4*rneI (a*QU) + 2 := by
  obtain ⟨h1, h2, _, _⟩ := rneI_ok (a*QU)
  generalize rneI (a*QU) = n at *
  have hH : (0:Int) < QU := by have := tp_pos 1072; show (0:Int) < (tp 1072 : Nat); omega
  rw [U_eq, HU_eq] at h1 h2
  generalize (QU : Nat) = H at *
  have e1 : 2*(n*((2*(2*H) : Nat) : Int)) = (8*n)*H := by rw [show ((2*(2*H) : Nat) : Int) = 4*(H:Int) by omega, Int.mul_left_comm n, Int.mul_assoc]; omega
  have e2 : 2*(a*(H:Int)) + ((2*(2*H) : Nat):Int) = (2*a+4)*H := by rw [Int.add_mul, Int.mul_assoc]; omega
  have e3 : 2*(n*((2*(2*H) : Nat) : Int)) + ((2*(2*H) : Nat):Int) = (8*n+4)*H := by rw [e1, Int.add_mul]; omega
  have e4 : 2*(a*(H:Int)) = (2*a)*H := by rw [Int.mul_assoc]
  rw [e1, e2] at h1
  rw [e3, e4] at h2
  have := Int.le_of_mul_le_mul_right h1 hH
  have := Int.le_of_mul_le_mul_right h2 hH
  omega
theorem once_by (a : Int) : -1 ≤ rneI (rneI (a*HU)*HU) - rneI (a*QU) ∧ rneI (rneI (a*HU)*HU) - rneI (a*QU) ≤ 1 := by
  have h1 := half_near a
  have h2 := half_near (rneI (a*HU))
  have h3 := quar_near a
  omega
theorem of_one (a : Int) (h : a.natAbs ≤ 2^52) : ∃ z, D.div (ofI a) (ofI 1) = some z ∧ Fin' z ∧ V z = a*U := by
  obtain ⟨f1, f2⟩ := ofI_fin a (by omega)
  obtain ⟨g1, g2⟩ := ofI_fin 1 (by decide)
  have f3 : rmag (ofI a % 2^63) = a.natAbs*U := by
    rw [← V_abs, f2, Int.natAbs_mul]; rfl
  have g3 : rmag (ofI 1 % 2^63) = U := by
    rw [← V_abs, g2, Int.one_mul]; rfl
  have g4 : sgn (ofI 1) = false := by decide +kernel
  have hU := U_pos
  obtain ⟨z, h1, h2⟩ := div_fin _ _ f1 g1 (by omega)
  rw [g3, g4, Bool.xor_false] at h2
  obtain ⟨h3, h4, h5⟩ := h2.at U_pos rfl f1
  refine ⟨z, h1, h3, ?_⟩
  rw [← f2]
  unfold V
  rw [h4, h5]
end Go.Proofs.YtlikknamliamiaaDoor
