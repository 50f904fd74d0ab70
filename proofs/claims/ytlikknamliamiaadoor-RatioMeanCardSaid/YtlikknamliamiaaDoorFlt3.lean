/-
  The nearest whole number of a double, and the reference's way to it. Plain.
-/
import Derived.Test.YtlikknamliamiaaDoorFlt2
import Derived.RowKit
namespace Go.Proofs.YtlikknamliamiaaDoor
set_option linter.unusedVariables false
/-- X / U to the nearest, of two the even one -/
def rneI (X : Int) : Int := if 2*(X % U) > U ∨ (2*(X % U) = U ∧ (X / U) % 2 ≠ 0) then X / U + 1 else X / U

theorem rneI_ok (X : Int) : IsR X (rneI X) := by
  unfold rneI IsR
  have hU : (0:Int) < U := by have := U_pos; omega
  have h1 := Int.mul_ediv_add_emod X U
  have h2 := Int.emod_nonneg X (Int.ne_of_gt hU)
  have h3 := Int.emod_lt_of_pos X hU
  rw [Int.mul_comm] at h1
  generalize X / (U:Int) = q at *
  generalize X % (U:Int) = r at *
  generalize (U : Int) = u at *
  have h4 : (q+1)*u = q*u+u := by rw [Int.add_mul, Int.one_mul]
  split
  · rw [h4]
    exact ⟨by omega, by omega, fun _ => by omega, fun _ => by omega⟩
  · exact ⟨by omega, by omega, fun _ => by omega, fun _ => by omega⟩

def edge : Int := 2^63*U
/-- the nearest sum, if there is one -/
def rnd (x : Nat) : Option Int := if infR < x % 2^63 ∨ edge ≤ V x ∨ V x < -edge then none else some (rneI (V x))

theorem V_edge : V 4890909195324358656 = edge := by kernel_rfl
theorem V_low : V 14114281232179134464 = -edge := by kernel_rfl
def e52 : Int := 2^52*U
theorem V_52 : V 4841369599423283200 = e52 := by kernel_rfl
theorem V_m52 : V 14064741636278059008 = -e52 := by kernel_rfl
theorem V_half : V 4602678819172646912 = HU := by kernel_rfl
theorem V_zero : V 0 = 0 := by kernel_rfl

theorem rnd_none_iff (x : Nat) : rnd x = none ↔ (Nan x ∨ edge ≤ V x ∨ V x < -edge) := by
  unfold rnd Nan
  split
  · simp; assumption
  · simp; omega

theorem small_or_whole (x : Nat) (hx : Fin' x) : (∃ n : Int, V x = n*U) ∨ (-e52 < V x ∧ V x < e52) := by
  obtain ⟨m, p, e1, e2, hm, hp⟩ := parts x hx
  by_cases c : p < 1074
  · right
    have h1 : m*tp p ≤ m*HU := Nat.mul_le_mul_left _ (tp_le (by omega))
    have h2 : m*HU < 2^53*HU := Nat.mul_lt_mul_of_pos_right hm HU_pos
    have h3 : 2^53*HU = 2^52*U := by rw [U_eq]; omega
    have h4 : (rmag (x % 2^63) : Int) < e52 := by
      have : rmag (x % 2^63) < 2^52*U := by rw [← h3, ← e2]; exact Nat.lt_of_le_of_lt h1 h2
      unfold e52; omega
    unfold V; split <;> omega
  · left
    have V2 : V x = (if sgn x then -((m*tp (p-1074) : Nat) : Int) else ((m*tp (p-1074) : Nat) : Int)) * U := by
      unfold V; rw [← e2, whole_big c]
      cases sgn x
      · simp only [Bool.false_eq_true, if_false]; rw [Int.natCast_mul]
      · simp only [if_true]; rw [Int.natCast_mul, Int.neg_mul]
    exact ⟨_, V2⟩

theorem mulU_lt {a b : Int} : a*U < b*U ↔ a < b := by
  have hU : (0:Int) < U := by have := U_pos; omega
  exact ⟨fun h => Int.lt_of_mul_lt_mul_right h (Int.le_of_lt hU), fun h => Int.mul_lt_mul_of_pos_right h hU⟩
theorem mulU_le {a b : Int} : a*U ≤ b*U ↔ a ≤ b := by
  have hU : (0:Int) < U := by have := U_pos; omega
  exact ⟨fun h => Int.le_of_mul_le_mul_right h hU, fun h => Int.mul_le_mul_of_nonneg_right h (Int.le_of_lt hU)⟩

theorem IsR.bound {X n : Int} (h : IsR X n) (k : Int) : (X ≤ k*U → n ≤ k) ∧ (k*U ≤ X → k ≤ n) := by
  obtain ⟨h1, h2, h3, h4⟩ := h
  have hU : (0:Int) < U := by have := U_pos; omega
  constructor
  · intro h
    by_cases c : n ≤ k
    · exact c
    · have := mulU_le.2 (show k+1 ≤ n by omega)
      rw [Int.add_mul, Int.one_mul] at this; omega
  · intro h
    by_cases c : k ≤ n
    · exact c
    · have := mulU_le.2 (show n+1 ≤ k by omega)
      rw [Int.add_mul, Int.one_mul] at this; omega

theorem e52_edge : e52 < edge := by unfold e52 edge; have := U_pos; omega

/-- the program's way: made whole first; then what it is -/
theorem round_fin (x : Nat) (hx : Fin' x) : ∃ z, D.write ((D.read x).integral .even) = z ∧ Fin' z ∧ (edge ≤ V z ↔ edge ≤ V x) ∧ (V z < -edge ↔ V x < -edge) ∧ (D.read z).toInt .zero = some (rneI (V x)) ∧ V z = rneI (V x) * U := by
  obtain ⟨z, h1, h2, n, h3, h4⟩ := rte_fin x hx
  have e : n = rneI (V x) := h4.uniq (rneI_ok _)
  have hb : (edge ≤ V z ↔ edge ≤ V x) ∧ (V z < -edge ↔ V x < -edge) := by
    rcases small_or_whole x hx with ⟨k, hk⟩ | ⟨c1, c2⟩
    · rw [hk] at h4
      have := h4.uniq (IsR.exact k)
      rw [h3, hk, this]; exact ⟨Iff.rfl, Iff.rfl⟩
    · have b1 := (h4.bound (2^52)).1 (by unfold e52 at *; omega)
      have b2 := (h4.bound (-2^52)).2 (by unfold e52 at *; omega)
      have d1 := mulU_le.2 b1
      have d2 := mulU_le.2 b2
      have := e52_edge
      rw [h3]
      have d3 : (2:Int)^52*U = e52 := rfl
      have d4 : -(2:Int)^52*U = -e52 := by unfold e52; rw [Int.neg_mul]
      rw [d3] at d1; rw [d4] at d2
      omega
  refine ⟨z, h1, h2, hb.1, hb.2, ?_, e ▸ h3⟩
  rw [toInt_fin z h2, ← e]
  have hm : (rmag (z % 2^63) : Int) = n.natAbs*U := by
    rw [← V_abs, h3, Int.natAbs_mul]; simp
  have hm2 : rmag (z % 2^63) = n.natAbs*U := by exact_mod_cast hm
  rw [hm2, Nat.mul_div_cancel _ U_pos]
  have hV := h3
  unfold V at hV
  rw [hm] at hV
  have hU : (0:Int) < U := by have := U_pos; omega
  refine congrArg some ?_
  cases hs : sgn z
  · rw [hs] at hV
    simp only [Bool.false_eq_true, if_false] at hV ⊢
    exact Int.eq_of_mul_eq_mul_right (Int.ne_of_gt hU) hV
  · rw [hs] at hV
    simp only [if_true] at hV ⊢
    rw [← Int.neg_mul] at hV
    exact Int.eq_of_mul_eq_mul_right (Int.ne_of_gt hU) hV

theorem edge_mag : (rmag 4890909195324358656 : Int) = edge := by
  have h2 : V 4890909195324358656 = (if sgn 4890909195324358656 then -(rmag (4890909195324358656 % 2^63) : Int) else (rmag (4890909195324358656 % 2^63) : Int)) := rfl
  rw [V_edge, show sgn 4890909195324358656 = false by decide, if_neg (by decide), show 4890909195324358656 % 2^63 = 4890909195324358656 by decide] at h2
  exact h2.symm
theorem inf_edge : edge < (rmag infR : Int) := by
  rw [← edge_mag]
  have := rmag_lt.2 (show 4890909195324358656 < infR by decide)
  exact_mod_cast this

theorem edge_pos : 0 < edge := by unfold edge; have := U_pos; omega
theorem inf_V (x : Nat) (h : x % 2^63 = infR) : edge ≤ V x ∨ V x < -edge := by
  have h1 := inf_edge
  have h2 := edge_pos
  unfold V
  rw [h]
  generalize edge = e at *
  split <;> omega

theorem sub_exact (x y : Nat) (hx : Fin' x) (hy : Fin' y) (m p : Nat) (hm : m ≤ 2^53) (hp : p ≤ 2044) (h : (V x - V y).natAbs = m*tp p) : ∃ z, D.sub x y = some z ∧ Fin' z ∧ V z = V x - V y := by
  obtain ⟨z, h1, h2⟩ := sub_fin x y hx hy
  obtain ⟨r, hr, e⟩ := rung_of m p hm hp
  obtain ⟨a, b, c⟩ := h2.at (r := r) Nat.one_pos (by rw [h, e, Nat.mul_one]) hr
  refine ⟨z, h1, a, ?_⟩
  rw [V_of b (M := m*tp p) (by rw [c]; exact e), ← h]
  by_cases g : V x - V y = 0
  · rw [g]; simp
  · rw [if_neg g]
    by_cases g2 : V x - V y < 0
    · rw [decide_eq_true g2, if_pos rfl]; omega
    · rw [decide_eq_false g2, if_neg (by simp)]; omega

theorem add_exact (x y : Nat) (hx : Fin' x) (hy : Fin' y) (m p : Nat) (hm : m ≤ 2^53) (hp : p ≤ 2044) (h : (V x + V y).natAbs = m*tp p) : ∃ z, D.add x y = some z ∧ Fin' z ∧ V z = V x + V y := by
  obtain ⟨z, h1, h2⟩ := add_fin x y hx hy
  obtain ⟨r, hr, e⟩ := rung_of m p hm hp
  obtain ⟨a, b, c⟩ := h2.at (r := r) Nat.one_pos (by rw [h, e, Nat.mul_one]) hr
  refine ⟨z, h1, a, ?_⟩
  rw [V_of b (M := m*tp p) (by rw [c]; exact e), ← h]
  by_cases g : V x + V y = 0
  · rw [g]; simp
  · rw [if_neg g]
    by_cases g2 : V x + V y < 0
    · rw [decide_eq_true g2, if_pos rfl]; omega
    · rw [decide_eq_false g2, if_neg (by simp)]; omega

theorem rneI_of (X t f : Int) (h : X = t*U + f) (h1 : 0 ≤ f) (h2 : f < U) : rneI X = if f > HU ∨ (f = HU ∧ t % 2 ≠ 0) then t + 1 else t := by
  refine (rneI_ok X).uniq ?_
  subst h
  have e : (U:Int) = 2*HU := by have := U_eq; omega
  rw [e] at h2
  unfold IsR
  rw [e]
  generalize (HU : Int) = u at *
  have h4 : (t+1)*(2*u) = t*(2*u)+2*u := by rw [Int.add_mul, Int.one_mul]
  split
  · rw [h4]
    exact ⟨by omega, by omega, fun _ => by omega, fun _ => by omega⟩
  · exact ⟨by omega, by omega, fun _ => by omega, fun _ => by omega⟩

theorem nab1 (S : Int) (B : Nat) : (S + (B:Int) - S).natAbs = B := by omega
theorem nab2 (S : Int) (B : Nat) : (-S - (B:Int) - -S).natAbs = B := by omega
/-- the reference's way to the nearest, where x is small: t is x without what is behind the point -/
theorem ref_small (x : Nat) (hx : Fin' x) (h1 : -e52 < V x) (h2 : V x < e52) :
    ∃ t : Int, (D.read x).toInt .zero = some t ∧ -2^52 ≤ t ∧ t ≤ 2^52 ∧
      ∃ z, D.sub x (D.write (.number (decide (t < 0)) t.natAbs 0)) = some z ∧ Fin' z ∧
        (0 ≤ V z → rneI (V x) = if V z > HU ∨ (V z = HU ∧ t % 2 ≠ 0) then t + 1 else t) ∧
        (V z < 0 → ∃ y, D.sub x (D.write (.number (decide (t-1 < 0)) (t-1).natAbs 0)) = some y ∧ Fin' y ∧ rneI (V x) = if V y > HU ∨ (V y = HU ∧ (t-1) % 2 ≠ 0) then t - 1 + 1 else t - 1) := by
  have hM : (rmag (x % 2^63) : Int) < e52 := by have := V_abs x; omega
  have hM2 : rmag (x % 2^63) < 2^53*HU := by
    have e : (U:Int) = 2*HU := by have := U_eq; omega
    unfold e52 at hM; rw [e] at hM; omega
  have hmp : ∃ m p : Nat, p ≤ 1073 ∧ m*tp p = rmag (x % 2^63) ∧ m < 2^53 := by
    obtain ⟨m, p, e1, e2, hm, hp⟩ := parts x hx
    by_cases c : p ≤ 1073
    · exact ⟨m, p, c, e2, hm⟩
    · have e3 : m*tp p = m*tp (p-1073)*HU := by unfold HU; rw [Nat.mul_assoc, tp_sub (by omega)]
      refine ⟨m*tp (p-1073), 1073, Nat.le_refl _, e3.symm.trans e2, ?_⟩
      refine Nat.lt_of_mul_lt_mul_right (a := HU) ?_
      rw [← e3, e2]; exact hM2
  obtain ⟨m, p, hp, e2, hm⟩ := hmp
  have hUa : U = 2*tp (1073-p)*tp p := by rw [U_eq, Nat.mul_assoc]; unfold HU; rw [tp_sub hp]
  have hHa : HU = tp (1073-p)*tp p := by unfold HU; rw [tp_sub hp]
  have ha0 := tp_pos (1073-p)
  have hA0 := tp_pos p
  have hq : rmag (x % 2^63) / U = m / (2*tp (1073-p)) := by rw [← e2, hUa, Nat.mul_div_mul_right _ _ hA0]
  generalize tp (1073-p) = a at *
  have hdm := Nat.div_add_mod m (2*a)
  have hml := Nat.mod_lt m (show 0 < 2*a by omega)
  rw [toInt_fin x hx, hq]
  generalize m / (2*a) = q at *
  generalize m % (2*a) = r at *
  have hq52 : q ≤ 2^52 := by
    have : q*U < 2^52*U := by
      have e5 : q*U ≤ m*tp p := by
        rw [hUa, ← Nat.mul_assoc, Nat.mul_comm q]
        exact Nat.mul_le_mul_right _ (by omega)
      rw [e2] at e5
      rw [U_eq] at e5 ⊢; omega
    exact Nat.le_of_lt (Nat.lt_of_mul_lt_mul_right this)
  have hX : rmag (x % 2^63) = q*U + r*tp p := by
    rw [← e2, hUa, ← hdm, Nat.add_mul, Nat.mul_comm (2*a) q, Nat.mul_assoc q]
  have hrU : r*tp p < U := by rw [hUa]; exact Nat.mul_lt_mul_of_pos_right hml hA0
  have hr53 : r < 2^53 := by omega
  refine ⟨_, rfl, by split <;> omega, by split <;> omega, ?_⟩
  cases hs : sgn x
  · simp only [Bool.false_eq_true, if_false]
    have hVx : V x = (q:Int)*U + (r*tp p : Nat) := by unfold V; rw [hs, hX]; simp
    obtain ⟨y1, y2⟩ := ofInt_small (q:Int) (by omega)
    have hd : (V x - V (D.write (.number (decide ((q:Int) < 0)) (q:Int).natAbs 0))).natAbs = r*tp p := by
      rw [y2, hVx]
      exact nab1 _ _
    obtain ⟨z, z1, z2, z3⟩ := sub_exact x _ hx y1 r p (by omega) (by omega) hd
    rw [y2, hVx] at z3
    refine ⟨z, z1, z2, fun _ => ?_, fun h => ?_⟩
    · exact rneI_of _ _ _ (by omega) (by omega) (by omega)
    · exfalso; omega
  · simp only [if_true]
    have hVx : V x = -((q:Int)*U) - (r*tp p : Nat) := by unfold V; rw [hs, hX]; simp; omega
    obtain ⟨y1, y2⟩ := ofInt_small (-(q:Int)) (by omega)
    rw [Int.neg_mul] at y2
    have hd : (V x - V (D.write (.number (decide (-(q:Int) < 0)) (-(q:Int)).natAbs 0))).natAbs = r*tp p := by
      rw [y2, hVx]
      exact nab2 _ _
    obtain ⟨z, z1, z2, z3⟩ := sub_exact x _ hx y1 r p (by omega) (by omega) hd
    rw [y2, hVx] at z3
    refine ⟨z, z1, z2, fun h => ?_, fun h => ?_⟩
    · exact rneI_of _ _ _ (by rw [Int.neg_mul, z3, hVx]; omega) h (by rw [z3]; omega)
    · obtain ⟨u1, u2⟩ := ofInt_small (-(q:Int)-1) (by omega)
      rw [Int.sub_mul, Int.neg_mul, Int.one_mul] at u2
      have hf : V x - V (D.write (.number (decide (-(q:Int)-1 < 0)) (-(q:Int)-1).natAbs 0)) = (U:Int) - (r*tp p : Nat) := by
        rw [u2, hVx]; omega
      have hf2 : (V x - V (D.write (.number (decide (-(q:Int)-1 < 0)) (-(q:Int)-1).natAbs 0))).natAbs = (2*a-r)*tp p := by
        rw [hf, Nat.sub_mul, ← hUa]; omega
      by_cases c : 2*a-r ≤ 2^53
      · obtain ⟨y, w1, w2, w3⟩ := sub_exact x _ hx u1 (2*a-r) p c (by omega) hf2
        refine ⟨y, w1, w2, ?_⟩
        rw [hf] at w3
        refine rneI_of _ _ _ ?_ (by omega) (by omega)
        rw [w3, hVx, Int.sub_mul, Int.neg_mul, Int.one_mul]; omega
      · have hq0 : q = 0 := by
          by_cases g : q = 0
          · exact g
          · have : 2*a*1 ≤ 2*a*q := Nat.mul_le_mul_left _ (by omega)
            omega
        subst hq0
        obtain ⟨y, w1, w2⟩ := sub_fin x _ hx u1
        rw [hf2] at w2
        rw [hf, if_neg (by omega), decide_eq_false (by omega)] at w2
        obtain ⟨R, R1, rfl⟩ := w2
        obtain ⟨rh, rh1, rh2⟩ := rung_of 1 1073 (by omega) (by omega)
        obtain ⟨ru, ru1, ru2⟩ := rung_of 1 1074 (by omega) (by omega)
        have rh3 : rmag rh = HU := by rw [rh2, Nat.one_mul]; rfl
        have ru3 : rmag ru = U := by rw [ru2, Nat.one_mul]; rfl
        have b1 : rh ≤ R := by
          refine (Rnd.self 1 rh Nat.one_pos).mono Nat.one_pos R1 ?_
          rw [Nat.mul_one, rh3, hHa]; exact Nat.mul_le_mul_right _ (by omega)
        have b2 : R ≤ ru := by
          refine R1.mono Nat.one_pos (Rnd.self 1 ru Nat.one_pos) ?_
          rw [Nat.mul_one, ru3, hUa]; exact Nat.mul_le_mul_right _ (by omega)
        have hmin : min R infR = R := Nat.min_eq_left (by omega)
        unfold infR at ru1
        have ⟨s1, s2⟩ := word_sgn false R (by omega)
        rw [hmin] at w1
        have hVy : V (D.word false R) = rmag R := by rw [V_of s1 (M := rmag R) (by rw [s2])]; simp
        have b3 := rmag_mono b1
        rw [rh3] at b3
        refine ⟨_, w1, by unfold Fin' infR; rw [s2]; omega, ?_⟩
        rw [hVy]
        have hl : HU ≤ (2*a-r)*tp p := by rw [hHa]; exact Nat.mul_le_mul_right _ (by omega)
        have hl2 : HU < U - r*tp p := by
          have : (2*a-r)*tp p = U - r*tp p := by rw [Nat.sub_mul, ← hUa]
          have hlt : a*tp p < (2*a-r)*tp p := Nat.mul_lt_mul_of_pos_right (by omega) hA0
          rw [this, ← hHa] at hlt; exact hlt
        rw [if_pos (by
          by_cases g : (rmag R : Int) > HU
          · exact .inl g
          · exact .inr ⟨by omega, by simp⟩)]
        have := rneI_of (V x) (-1) ((U:Int) - (r*tp p : Nat)) (by rw [hVx]; simp; omega) (by omega) (by omega)
        rw [this, if_pos (.inl (by omega))]
        simp
end Go.Proofs.YtlikknamliamiaaDoor
