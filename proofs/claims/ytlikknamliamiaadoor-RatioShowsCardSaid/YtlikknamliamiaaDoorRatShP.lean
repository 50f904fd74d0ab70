/-
  A number of so many thousandths is shown as just these. Plain.
-/
import Derived.Test.YtlikknamliamiaaDoorRatP
import Derived.Test.YtlikknamliamiaaDoorRat7
namespace Go.Proofs.YtlikknamliamiaaDoor
set_option linter.unusedVariables false
theorem V_k1000 : V k1000 = 1000*U := by kernel_rfl
theorem sgn_k1000 : sgn k1000 = false := by decide
theorem fin_k1000 : Fin' k1000 := fin_lt (by decide)
theorem U_great : 2^63 ≤ U := tp_le (a := 63) (b := 1074) (by omega)
theorem UTP : tp 1074 = U := rfl
theorem QTP : tp 1072 = QU := rfl
theorem nabsU (n : Int) : (n*U).natAbs = n.natAbs*U := by rw [Int.natAbs_mul]; rfl
theorem edge_def : edge = 2^63*U := rfl
theorem QU4 : U = 4*QU := by rw [U_eq, HU_eq]; omega
theorem QU_pos : 0 < QU := tp_pos 1072
theorem rmag_k1000 : rmag (k1000 % 2^63) = 1000*U := by rw [← V_abs, V_k1000, nabsU, show (1000:Int).natAbs = 1000 from rfl]
attribute [local irreducible] U HU QU tp edge k1000
/-- the thousandth part, rounded, is near enough -/
theorem thou_near {n R : Nat} (hn : n < 2^40) (h : Rnd (n*U) 1000 R) : R < infR ∧ 2*4096*(1000*rmag R) ≤ 2*4096*(n*U) + U ∧ 2*4096*(n*U) ≤ 2*4096*(1000*rmag R) + U := by
  obtain ⟨r0, h0, h1⟩ := rung_of (2^40) 1074 (by omega) (by omega)
  have hU := U_great
  have hle : R ≤ r0 := by
    refine h.mono (by omega) (Rnd.self 1000 r0 (by omega)) ?_
    rw [h1]
    have : n*U ≤ 2^40*U := Nat.mul_le_mul_right _ (Nat.le_of_lt hn)
    rw [UTP]
    clear h h0 h1 hU
    generalize U = u at *
    omega
  refine ⟨by omega, ?_⟩
  obtain ⟨q, k, rfl, g1, g2, g3, g4, g5, g6⟩ := h
  have hA : 0 < 2^q*1000 := pos_mul (two_pos q) (by omega)
  have ⟨b1, b2⟩ := Rnd.k hA g1 g2 g3 g4 g6
  rw [rmag_at q k b1 b2]
  have hN : n*U ≤ 2^40*U := Nat.mul_le_mul_right _ (Nat.le_of_lt hn)
  have e1 : 1000*(k*2^q) = k*(2^q*1000) := by ac_rfl
  rw [e1]
  have small : 4096*(2^q*1000) ≤ U := by
    rcases g1 with g1 | g1
    · subst g1; omega
    · omega
  omega
theorem thou_back {n R S : Nat} (hn : n < 2^40) (h : 2*4096*(1000*rmag R) ≤ 2*4096*(n*U) + U ∧ 2*4096*(n*U) ≤ 2*4096*(1000*rmag R) + U) (g : Rnd (1000*rmag R) 1 S) :
    S < infR ∧ rmag S ≤ n*U + QU ∧ n*U ≤ rmag S + QU := by
  have e4 := QU4
  have hQ := QU_pos
  obtain ⟨r2, h2, h3⟩ := rung_of (4*n+1) 1072 (by omega) (by omega)
  have h3' : rmag r2 = n*U + QU := by
    rw [h3, e4, Nat.add_mul, Nat.one_mul, QTP]
    generalize QU = Q; rw [Nat.mul_left_comm, Nat.mul_assoc]
  have hle : S ≤ r2 := by
    refine g.mono (by omega) (Rnd.self 1 r2 (by omega)) ?_
    rw [h3']; omega
  refine ⟨by omega, ?_, ?_⟩
  · rw [← h3']; exact rmag_mono hle
  · by_cases c : n = 0
    · subst c; omega
    · obtain ⟨r1, k1, k2⟩ := rung_of (4*n-1) 1072 (by omega) (by omega)
      have k3 : rmag r1 + QU = n*U := by
        rw [k2, e4, QTP]
        have : (4*n-1)*QU + QU = (4*n-1+1)*QU := by rw [Nat.add_mul, Nat.one_mul]
        rw [this, show 4*n-1+1 = 4*n by omega]
        generalize QU = Q; rw [Nat.mul_left_comm, Nat.mul_assoc]
      have hge : r1 ≤ S := by
        refine (Rnd.self 1 r1 (by omega)).mono (by omega) g ?_
        omega
      have := rmag_mono hge
      omega
theorem sgn_ofI (n : Int) (h : n.natAbs ≤ 2^53) (h0 : n ≠ 0) : sgn (ofI n) = decide (n < 0) := by
  obtain ⟨f1, f2⟩ := ofI_fin n h
  have hU := U_pos
  unfold V at f2
  rcases Int.lt_trichotomy n 0 with c | c | c
  · have : n*U < 0 := Int.mul_neg_of_neg_of_pos c (by omega)
    cases hs : sgn (ofI n)
    · rw [hs] at f2; simp only [Bool.false_eq_true, if_false] at f2; omega
    · simp [c]
  · exact absurd c h0
  · have : 0 < n*U := Int.mul_pos c (by omega)
    cases hs : sgn (ofI n)
    · have : ¬ n < 0 := by omega
      simp [this]
    · rw [hs] at f2; simp only [if_true] at f2; omega
theorem show_thou (n : Int) (hn : n.natAbs < 2^40) : ∃ z, D.div (ofI n) k1000 = some z ∧ Fin' z ∧ showR z = some n := by
  obtain ⟨f1, f2⟩ := ofI_fin n (by omega)
  have hU := U_great
  have f3 : rmag (ofI n % 2^63) = n.natAbs*U := by
    rw [← V_abs, f2, nabsU]
  have f4 := rmag_k1000
  obtain ⟨z, h1, R, h2, h3⟩ := div_fin _ _ f1 fin_k1000 (by omega)
  rw [f3, f4] at h2
  obtain ⟨t1, t2⟩ := thou_near hn (h2.unscale U (by omega))
  rw [Nat.min_eq_left (by omega), sgn_k1000, Bool.xor_false] at h3
  obtain ⟨s1, s2⟩ := word_sgn (sgn (ofI n)) R (by unfold infR at t1; omega)
  rw [← h3] at s1 s2
  have zf : Fin' z := by unfold Fin'; omega
  refine ⟨z, h1, zf, ?_⟩
  obtain ⟨p, k1, S, k2, k3⟩ := mul_fin z k1000 zf fin_k1000
  rw [s2, f4, show rmag R * (1000*U) = 1000*rmag R*U by ac_rfl] at k2
  have k2' : Rnd (1000*rmag R) 1 S := Rnd.unscale U (by omega) (by rw [Nat.one_mul]; exact k2)
  obtain ⟨v1, v2, v3⟩ := thou_back hn t2 k2'
  rw [Nat.min_eq_left (by omega), sgn_k1000, Bool.xor_false, s1] at k3
  obtain ⟨u1, u2⟩ := word_sgn (sgn (ofI n)) S (by unfold infR at v1; omega)
  rw [← k3] at u1 u2
  have pf : Fin' p := by unfold Fin'; omega
  have hV : V p = if sgn (ofI n) then -(rmag S : Int) else (rmag S : Int) := by unfold V; rw [u1, u2]
  have e4 := QU4
  have hQ := QU_pos
  have nU : n*U = if n < 0 then -((n.natAbs*U : Nat) : Int) else ((n.natAbs*U : Nat) : Int) := by
    rw [Int.natCast_mul]
    split
    · rw [← Int.neg_mul, show -(n.natAbs:Int) = n by omega]
    · rw [show (n.natAbs:Int) = n by omega]
  have near : V p ≤ n*U + QU ∧ n*U ≤ V p + QU := by
    rw [hV]
    by_cases c : n = 0
    · subst c
      simp only [Int.natAbs_zero, Nat.zero_mul] at v2 v3
      rw [Int.zero_mul]
      split <;> omega
    · rw [sgn_ofI n (by omega) c, nU]
      by_cases d : n < 0
      · rw [if_pos (by simpa using d), if_pos d]; omega
      · rw [if_neg (by simpa using d), if_neg d]; omega
  have hr : rneI (V p) = n := (rneI_ok _).uniq ⟨by omega, by omega, fun g => by omega, fun g => by omega⟩
  have hnU : (n*U).natAbs ≤ 2^40*U := by rw [nabsU]; exact Nat.mul_le_mul_right _ (Nat.le_of_lt hn)
  unfold showR
  rw [k1]
  show rnd p = _
  rw [rnd_fin pf (by rw [edge_def]; omega) (by rw [edge_def]; omega), hr]
theorem showT_thou {n : Int} {z : Nat} (hz : Fin' z) (h : showR z = some n) : showT z = txtC n 3 := by
  unfold showT
  unfold Fin' at hz
  have a1 : nanB z = false := by unfold nanB; simp; omega
  have a2 : infB 1 z = false := by unfold infB; simp; omega
  have a3 : infB (-1) z = false := by unfold infB; simp; omega
  rw [a1, a2, a3, h]; rfl
theorem padD_len (d : Nat) (s : List UInt8) : d+1 ≤ (padD d s).length := by
  unfold padD; simp; omega
theorem dotted_len (d : Nat) (s : List UInt8) (h : 0 < d) : (dotted d s).length = s.length+1 := by
  unfold dotted; rw [if_pos h]; simp; omega
theorem txtC_len (n : Int) : 5 ≤ (txtC n 3).length := by
  have h1 : 5 ≤ (txtN (mag n) 3).length := by
    unfold txtN
    rw [dotted_len _ _ (by omega)]
    have := padD_len 3 (Lib.decDigits (mag n))
    omega
  unfold txtC
  split
  · simp; omega
  · exact h1
end Go.Proofs.YtlikknamliamiaaDoor
