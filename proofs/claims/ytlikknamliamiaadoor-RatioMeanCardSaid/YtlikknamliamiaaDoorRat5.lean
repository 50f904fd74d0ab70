/-
  The contracts of the reference's Near and Same.
-/
import Derived.Test.YtlikknamliamiaaDoorRat4
namespace Go.Proofs.YtlikknamliamiaaDoor
set_option linter.unusedVariables false
open Go.RowKit
def negc (x : Nat) : Nat := if (FloatKind.f64.format.order x 0 == some .lt) = true then x ^^^ 2^63 else x
def topc (p q : Nat) : Nat := if (FloatKind.f64.format.order q p == some .gt) = true then q else p
theorem lt_split (x : Nat) : FloatKind.f64.format.order x 0 = some .lt ∨ (FloatKind.f64.format.order x 0 == some .lt) = false := by
  cases h : (FloatKind.f64.format.order x 0 == some .lt)
  · exact .inr rfl
  · exact .inl (by simpa using h)
theorem gt_split (q p : Nat) : FloatKind.f64.format.order q p = some .gt ∨ (FloatKind.f64.format.order q p == some .gt) = false := by
  cases h : (FloatKind.f64.format.order q p == some .gt)
  · exact .inr rfl
  · exact .inl (by simpa using h)
theorem negc_yes {x : Nat} (h : FloatKind.f64.format.order x 0 = some .lt) : negc x = x ^^^ 2^63 := by unfold negc; rw [h]; rfl
theorem negc_no {x : Nat} (h : (FloatKind.f64.format.order x 0 == some .lt) = false) : negc x = x := by unfold negc; rw [h]; rfl
theorem topc_yes {p q : Nat} (h : FloatKind.f64.format.order q p = some .gt) : topc p q = q := by unfold topc; rw [h]; rfl
theorem topc_no {p q : Nat} (h : (FloatKind.f64.format.order q p == some .gt) = false) : topc p q = p := by unfold topc; rw [h]; rfl
theorem negc_fin (x : Nat) (h : Fin' x) (hx : x < 2^64) : (negc x = x % 2^63 ∨ (negc x = 2^63 ∧ x % 2^63 = 0)) ∧ Fin' (negc x) ∧ V (negc x) = rmag (x % 2^63) := by
  have hn := not_nan_of_fin h
  have hs : negc x % 2^63 = x % 2^63 := by
    rcases lt_split x with c | c
    · rw [negc_yes c, neg_mod]
    · rw [negc_no c]
  have hf : Fin' (negc x) := by unfold Fin'; rw [hs]; exact h
  by_cases g : x < 2^63
  · have e : negc x = x := by
      refine negc_no ?_
      rw [ord_zero x hn, V_pos g]; exact cmp_not_lt (by omega)
    refine ⟨.inl (by rw [e]; omega), hf, ?_⟩
    rw [e, V_pos g, Nat.mod_eq_of_lt g]
  · have hsg : sgn x = true := by unfold sgn; simp; omega
    by_cases z : x % 2^63 = 0
    · have e : negc x = x := by
        refine negc_no ?_
        rw [ord_zero x hn]
        refine cmp_not_lt ?_
        unfold V; rw [hsg, z]; simp [rmag]
      refine ⟨.inr ⟨by omega, z⟩, hf, ?_⟩
      rw [e]; unfold V; rw [hsg, z]; simp [rmag]
    · have h0 : 0 < rmag (x % 2^63) := by
        have := (rmag_lt (r := 0) (s := x % 2^63)).2 (by omega)
        omega
      have e : negc x = x ^^^ 2^63 := by
        refine negc_yes ?_
        rw [ord_zero x hn, Int.compare_eq_lt.2]
        unfold V; rw [hsg]; simp; omega
      have e2 : sgn (negc x) = false := by rw [e, neg_sgn, hsg]; rfl
      have e3 : negc x < 2^64 := by rw [e]; exact Nat.xor_lt_two_pow hx (by omega)
      have e4 : negc x < 2^63 := by
        unfold sgn at e2
        simp at e2; omega
      refine ⟨.inl (by omega), hf, ?_⟩
      rw [V_pos e4, ← hs, Nat.mod_eq_of_lt e4]
theorem cmp_not_gt {a b : Int} (h : a ≤ b) : (some (compare a b) == some Ordering.gt) = false := by
  rcases Int.lt_or_eq_of_le h with d | d
  · rw [Int.compare_eq_lt.2 d]; rfl
  · rw [Int.compare_eq_eq.2 d]; rfl
theorem order_V {x y z : Nat} (hx : ¬ Nan x) (hy : ¬ Nan y) (h : V x = V y) : FloatKind.f64.format.order x z = FloatKind.f64.format.order y z := by
  by_cases hz : Nan z
  · rw [show FloatKind.f64.format.order x z = none from order_nanr x z hz, show FloatKind.f64.format.order y z = none from order_nanr y z hz]
  · rw [show FloatKind.f64.format.order x z = _ from order_num x z hx hz, show FloatKind.f64.format.order y z = _ from order_num y z hy hz, h]
theorem order_Vr {x y z : Nat} (hx : ¬ Nan x) (hy : ¬ Nan y) (h : V x = V y) : FloatKind.f64.format.order z x = FloatKind.f64.format.order z y := by
  by_cases hz : Nan z
  · rw [show FloatKind.f64.format.order z x = none from order_nanl z x hz, show FloatKind.f64.format.order z y = none from order_nanl z y hz]
  · rw [show FloatKind.f64.format.order z x = _ from order_num z x hz hx, show FloatKind.f64.format.order z y = _ from order_num z y hz hy, h]
/-- a product with a nought, of either sign, is a nought or none -/
theorem mul_zero_cases (p : Nat) : ((D.mul p 0 = none ∧ D.mul p (2^63) = none) ∨ ∃ y z, D.mul p 0 = some y ∧ D.mul p (2^63) = some z ∧ ¬ Nan y ∧ ¬ Nan z ∧ V y = 0 ∧ V z = 0) := by
  have r0 : D.read 0 = .number false 0 (-1074) := by decide
  have r1 : D.read (2^63) = .number true 0 (-1074) := by decide
  rcases tri p with h | h | h
  · right
    obtain ⟨y, y1, y2⟩ := mul_fin p 0 h (by unfold Fin' infR; omega)
    obtain ⟨z, z1, z2⟩ := mul_fin p (2^63) h (by unfold Fin' infR; omega)
    have e0 : rmag (0 % 2^63) = 0 := by simp [rmag]
    have e1 : rmag (2^63 % 2^63) = 0 := by simp [rmag]
    rw [e0, Nat.mul_zero] at y2
    rw [e1, Nat.mul_zero] at z2
    obtain ⟨a1, a2, a3⟩ := y2.at (r := 0) U_pos (by simp [rmag]) (by unfold infR; omega)
    obtain ⟨b1, b2, b3⟩ := z2.at (r := 0) U_pos (by simp [rmag]) (by unfold infR; omega)
    refine ⟨y, z, y1, z1, not_nan_of_fin a1, not_nan_of_fin b1, ?_, ?_⟩
    · unfold V; rw [a3]; simp [rmag]
    · unfold V; rw [b3]; simp [rmag]
  · left
    unfold Ieee.Format.mul
    rw [read_inf p h, r0, r1]
    exact ⟨rfl, rfl⟩
  · left
    obtain ⟨s, t, e⟩ := read_nan p h
    unfold Ieee.Format.mul
    rw [e, r0, r1]
    exact ⟨rfl, rfl⟩
theorem near_ref (a b part : Nat) (ha : Fin' a) (hb : Fin' b) (ha6 : a < 2^64) (hb6 : b < 2^64) : leB (negc (subB a b)) (D.mul part (topc (negc a) (negc b))) = leB (subB a b % 2^63) (D.mul part (max (a % 2^63) (b % 2^63))) := by
  obtain ⟨a1, a2, a3⟩ := negc_fin a ha ha6
  obtain ⟨b1, b2, b3⟩ := negc_fin b hb hb6
  obtain ⟨z, hz, hzR⟩ := sub_fin a b ha hb
  have hzz : subB a b = z := by unfold subB; rw [hz]; rfl
  have hz6 : z < 2^64 := by rw [← hzz]; exact (sub_ok64 a b ha hb).2
  have hzn : z % 2^63 ≤ infR := by
    obtain ⟨R, _, rfl⟩ := hzR
    rw [(word_sgn _ _ (by unfold infR; omega)).2]; exact Nat.min_le_right _ _
  have hzl : ∀ q, FloatKind.f64.format.order (negc (subB a b)) q = FloatKind.f64.format.order (subB a b % 2^63) q := by
    intro q
    rw [hzz]
    rcases Nat.lt_or_ge (z % 2^63) infR with c | c
    · obtain ⟨c1, c2, c3⟩ := negc_fin z c hz6
      refine order_V (not_nan_of_fin c2) (by unfold Nan; omega) ?_
      rw [c3, V_pos (Nat.mod_lt _ (by omega))]
    · have ce : z % 2^63 = infR := by omega
      have hneg : negc z = z % 2^63 := by
        have hn : ¬ Nan z := by unfold Nan; omega
        have hp := rmag_inf_pos
        by_cases g : z < 2^63
        · rw [negc_no (by rw [ord_zero z hn, V_pos g]; exact cmp_not_lt (by omega))]; omega
        · have hsg : sgn z = true := by unfold sgn; simp; omega
          have e : negc z = z ^^^ 2^63 := by
            refine negc_yes ?_
            rw [ord_zero z hn, Int.compare_eq_lt.2]
            unfold V; rw [hsg, ce]; simp; omega
          have e2 : sgn (negc z) = false := by rw [e, neg_sgn, hsg]; rfl
          have e3 : negc z < 2^64 := by rw [e]; exact Nat.xor_lt_two_pow hz6 (by omega)
          have e4 : negc z < 2^63 := by
            unfold sgn at e2
            simp at e2; omega
          have e5 : negc z % 2^63 = z % 2^63 := by rw [e, neg_mod]
          omega
      rw [hneg]
  have hleB : ∀ o, leB (negc (subB a b)) o = leB (subB a b % 2^63) o := by
    intro o; cases o with
    | none => rfl
    | some q => unfold leB; simp only [hzl q]
  rw [hleB]
  -- the greater of the two
  have hord : FloatKind.f64.format.order (negc b) (negc a) = some (compare (V (negc b)) (V (negc a))) := order_num _ _ (not_nan_of_fin b2) (not_nan_of_fin a2)
  have htop : topc (negc a) (negc b) = max (a % 2^63) (b % 2^63) ∨ (topc (negc a) (negc b) = 2^63 ∧ max (a % 2^63) (b % 2^63) = 0) := by
    rw [a3, b3] at hord
    rcases Nat.lt_or_ge (a % 2^63) (b % 2^63) with c | c
    · have := rmag_lt.2 c
      rw [topc_yes (by rw [hord, Int.compare_eq_gt.2 (by omega)])]
      rw [Nat.max_eq_right (by omega)]
      rcases b1 with b1 | ⟨b1, b4⟩
      · exact .inl b1
      · omega
    · have := rmag_mono c
      rw [topc_no (by rw [hord]; exact (cmp_not_gt (by omega))), Nat.max_eq_left c]
      rcases a1 with a1 | ⟨a1, a4⟩
      · exact .inl a1
      · exact .inr ⟨a1, a4⟩
  rcases htop with h | ⟨h1, h2⟩
  · rw [h]
  · rw [h1, h2]
    rcases mul_zero_cases part with ⟨m1, m2⟩ | ⟨y, x, m1, m2, m3, m4, m5, m6⟩
    · rw [m1, m2]
    · rw [m1, m2]
      unfold leB
      simp only
      rw [order_Vr m4 m3 (m6.trans m5.symm)]
end Go.Proofs.YtlikknamliamiaaDoor
