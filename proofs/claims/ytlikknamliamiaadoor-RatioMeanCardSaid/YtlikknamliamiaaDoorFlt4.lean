/-
  Doubles: quotients. Plain.
-/
import Derived.Test.YtlikknamliamiaaDoorFlt3
namespace Go.Proofs.YtlikknamliamiaaDoor
set_option linter.unusedVariables false
theorem Rnd.unscale {N U R : Nat} (c : Nat) (hc : 0 < c) (h : Rnd (N*c) (U*c) R) : Rnd N U R := by
  obtain ⟨q, k, rfl, h1, h2, h3, h4, h5, h6⟩ := h
  have e2 : 2^q*(U*c) = 2^q*U*c := by simp only [Nat.mul_assoc]
  rw [e2] at h1 h2 h3 h4 h5 h6
  generalize hA : 2^q*U = A at *
  have e1 : ∀ x, x*(A*c) = x*A*c := by intro x; simp only [Nat.mul_assoc]
  rw [e1] at h1 h2 h3 h4 h5 h6
  have f1 : (2*N + A)*c = 2*(N*c) + A*c := by rw [Nat.add_mul, Nat.mul_assoc]
  have f2 : (2*(k*A) + A)*c = 2*(k*A*c) + A*c := by rw [Nat.add_mul, Nat.mul_assoc]
  have f3 : (2*N)*c = 2*(N*c) := by rw [Nat.mul_assoc]
  have f4 : (2*(k*A))*c = 2*(k*A*c) := by rw [Nat.mul_assoc]
  refine ⟨q, k, rfl, ?_, hA ▸ Nat.lt_of_mul_lt_mul_right h2, ?_, ?_, ?_, ?_⟩
  all_goals rw [hA]
  · rcases h1 with h1 | h1
    · exact .inl h1
    · exact .inr (Nat.le_of_mul_le_mul_right h1 hc)
  · refine Nat.le_of_mul_le_mul_right ?_ hc
    rw [f1, f4]; exact h3
  · refine Nat.le_of_mul_le_mul_right ?_ hc
    rw [f3, f2]; exact h4
  · intro g; exact h5 (by rw [← f1, ← f4, g])
  · intro g; exact h6 (by rw [← f3, ← f2, g])
/-- a quotient with its last digit telling what is left over stands to an even number as the quotient does -/
theorem sticky (d n e : Nat) (hn : 0 < n) : (2*e ≤ 2*(d/n) + (d%n != 0).toNat ↔ e*n ≤ d) ∧ (2*(d/n) + (d%n != 0).toNat ≤ 2*e ↔ d ≤ e*n) := by
  have h1 := Nat.div_add_mod d n
  have h2 := Nat.mod_lt d hn
  generalize d/n = f at *
  generalize d%n = r at *
  rw [Nat.mul_comm] at h1
  have hb : (r != 0).toNat = if r = 0 then 0 else 1 := by by_cases c : r = 0 <;> simp [c]
  rw [hb]
  rcases Nat.lt_trichotomy f e with c | c | c
  · have := Nat.mul_le_mul_right n (show f+1 ≤ e by omega)
    rw [Nat.succ_mul] at this
    split <;> omega
  · subst c
    split <;> omega
  · have := Nat.mul_le_mul_right n (show e+1 ≤ f by omega)
    rw [Nat.succ_mul] at this
    split <;> omega
theorem Rnd.stick {d n A B R : Nat} (hn : 0 < n) (a b : Nat) (hA : A = 2^a) (hB : B = 2^b) (hbig : 2^53*n ≤ d) (h : Rnd ((2*(d/n) + (d%n != 0).toNat)*A) B R) : Rnd (2*d*A) (n*B) R := by
  obtain ⟨q, k, rfl, h1, h2, h3, h4, h5, h6⟩ := h
  have hA0 : 0 < A := hA ▸ two_pos a
  have s := fun e => sticky d n e hn
  have big := (s (2^53)).1.2 hbig
  generalize hQ : 2*(d/n) + (d%n != 0).toNat = Q at *
  -- the unit is four of A at least
  have hc : ∃ c, 2^q*B = 4*c*A := by
    have g : a + 2 ≤ q + b := by
      have g1 : 2^54*A ≤ Q*A := Nat.mul_le_mul_right A (by omega)
      have g2 : 2^54*A < 2^53*(2^q*B) := by omega
      rw [hA, hB, ← Nat.pow_add, ← Nat.pow_add, ← Nat.pow_add] at g2
      have := (Nat.pow_lt_pow_iff_right (a := 2) (by omega)).1 g2
      omega
    refine ⟨2^(q+b-a-2), ?_⟩
    rw [hA, hB, ← Nat.pow_add, show 4*2^(q+b-a-2) = 2^(q+b-a) by rw [show (4:Nat) = 2^2 by rfl, ← Nat.pow_add]; congr 1; omega, ← Nat.pow_add]
    congr 1; omega
  obtain ⟨c, hc⟩ := hc
  rw [hc] at h1 h2 h3 h4 h5 h6
  have e0 : 2^q*(n*B) = 4*(c*n)*A := by rw [Nat.mul_left_comm, hc, Nat.mul_comm n, Nat.mul_right_comm]; congr 1; rw [Nat.mul_assoc]
  have up : ∀ {x y : Nat}, x ≤ y → x*A ≤ y*A := fun h => Nat.mul_le_mul_right A h
  have dn : ∀ {x y : Nat}, x*A ≤ y*A → x ≤ y := fun h => Nat.le_of_mul_le_mul_right h hA0
  -- all in A
  have m1 : 2^52*(4*c*A) = (2*(2^53*c))*A := by rw [← Nat.mul_assoc]; congr 1; omega
  have m2 : 2^53*(4*c*A) = (2*(2^54*c))*A := by rw [← Nat.mul_assoc]; congr 1; omega
  have m3 : 2*(k*(4*c*A)) = (2*(4*(k*c)))*A := by ac_rfl
  have m4 : 2*(Q*A) = (2*Q)*A := by rw [Nat.mul_assoc]
  rw [m1] at h1
  rw [m2] at h2
  rw [m3, m4, ← Nat.add_mul] at h3
  rw [m3, m4, ← Nat.add_mul] at h4
  rw [m3, m4, ← Nat.add_mul] at h5
  rw [m3, m4, ← Nat.add_mul] at h6
  have j3 := dn h3
  have j4 := dn h4
  have j2 : ¬ 2*(2^54*c) ≤ Q := fun g => by have := up g; omega
  have j5 : 2*(4*(k*c)) = 2*Q + 4*c → k % 2 = 0 := fun g => h5 (by rw [g])
  have j6 : 2*Q = 2*(4*(k*c)) + 4*c → k % 2 = 0 := fun g => h6 (by rw [g])
  have n1 : 2^52*(4*(c*n)*A) = (2*(2^53*c*n))*A := by
    rw [← Nat.mul_assoc]; congr 1; rw [Nat.mul_assoc (2^53)]; omega
  have n2 : 2^53*(4*(c*n)*A) = (2*(2^54*c*n))*A := by
    rw [← Nat.mul_assoc]; congr 1; rw [Nat.mul_assoc (2^54)]; omega
  have n3 : 2*(k*(4*(c*n)*A)) = (2*(4*(k*c*n)))*A := by ac_rfl
  have n4 : 2*(2*d*A) = (2*(2*d))*A := (Nat.mul_assoc 2 (2*d) A).symm
  refine ⟨q, k, rfl, ?_, ?_, ?_, ?_, ?_, ?_⟩
  · rw [e0, n1]
    rcases h1 with h1 | h1
    · exact .inl h1
    · right
      have := (s (2^53*c)).1.1 (dn h1)
      exact up (by omega)
  · rw [e0, n2]
    have : ¬ (2^54*c)*n ≤ d := fun g => j2 ((s (2^54*c)).1.2 g)
    exact Nat.mul_lt_mul_of_pos_right (by omega) hA0
  · rw [e0, n3, n4, ← Nat.add_mul]
    refine up ?_
    cases k with
    | zero => simp
    | succ k =>
      have g := (s ((2*k+1)*c)).1.1 (by simp only [Nat.add_mul, Nat.one_mul, Nat.mul_assoc] at j3 ⊢; omega)
      simp only [Nat.add_mul, Nat.one_mul, Nat.mul_assoc] at g ⊢
      omega
  · rw [e0, n3, n4, ← Nat.add_mul]
    refine up ?_
    have g := (s ((2*k+1)*c)).2.1 (by simp only [Nat.add_mul, Nat.one_mul, Nat.mul_assoc] at j4 ⊢; omega)
    simp only [Nat.add_mul, Nat.one_mul, Nat.mul_assoc] at g ⊢
    omega
  · rw [e0, n3, n4, ← Nat.add_mul]
    intro g
    have g' := Nat.eq_of_mul_eq_mul_right hA0 g
    cases k with
    | zero => rfl
    | succ k =>
      refine j5 ?_
      have t := (s ((2*k+1)*c)).2.2 (by simp only [Nat.add_mul, Nat.one_mul, Nat.mul_assoc] at g' ⊢; omega)
      simp only [Nat.add_mul, Nat.one_mul, Nat.mul_assoc] at j3 t ⊢
      omega
  · rw [e0, n3, n4, ← Nat.add_mul]
    intro g
    have g' := Nat.eq_of_mul_eq_mul_right hA0 g
    refine j6 ?_
    have t := (s ((2*k+1)*c)).1.2 (by simp only [Nat.add_mul, Nat.one_mul, Nat.mul_assoc] at g' ⊢; omega)
    simp only [Nat.add_mul, Nat.one_mul, Nat.mul_assoc] at j4 t ⊢
    omega
theorem quo_big (m n : Nat) (hm : m ≠ 0) (hn : n ≠ 0) : 2^53*n ≤ m <<< (54 + n.log2 - m.log2) := by
  have h1 := Nat.log2_self_le hm
  have h2 : n < 2^(n.log2+1) := Nat.lt_log2_self
  rw [Nat.shiftLeft_eq]
  have h3 : 2^(54 + n.log2) ≤ 2^m.log2*2^(54 + n.log2 - m.log2) := by
    rw [← Nat.pow_add]; exact Nat.pow_le_pow_right (by omega) (by omega)
  have h4 := Nat.mul_le_mul_right (2^(54 + n.log2 - m.log2)) h1
  have h5 : 2^(54 + n.log2) = 2^53*2^(n.log2+1) := by rw [← Nat.pow_add]; congr 1; omega
  omega
theorem div_fin (x y : Nat) (hx : Fin' x) (hy : Fin' y) (h0 : rmag (y % 2^63) ≠ 0) : ∃ z, D.div x y = some z ∧ Rv (sgn x ^^ sgn y) (rmag (x % 2^63) * U) (rmag (y % 2^63)) z := by
  obtain ⟨m, p, e1, e2, _, _⟩ := parts x hx
  obtain ⟨n, r, e3, e4, _, _⟩ := parts y hy
  have hn : n ≠ 0 := by intro h; rw [h, Nat.zero_mul] at e4; exact h0 e4.symm
  unfold Ieee.Format.div
  rw [e1, e3]
  unfold Ieee.Datum.quotient
  dsimp only
  rw [if_neg hn]
  refine ⟨_, rfl, ?_⟩
  show Rv _ _ _ (D.nearest _ _ _)
  rw [show D.fractionBits + 2 = 54 from rfl]
  by_cases hm : m = 0
  · subst hm
    rw [Nat.zero_mul] at e2
    rw [← e2, Nat.zero_mul, Nat.zero_shiftLeft, Nat.zero_div, Nat.zero_mod]
    refine ⟨0, ?_, ?_⟩
    · have := Rnd.self (rmag (y % 2^63)) 0 (by omega)
      rw [show rmag 0 = 0 by simp [rmag], Nat.zero_mul] at this
      exact this
    · unfold Ieee.Format.nearest; rw [if_pos (by decide), Nat.zero_min]
  · have hb := quo_big m n hm hn
    generalize hmore : 54 + n.log2 - m.log2 = more at hb ⊢
    obtain ⟨R, g1, g2⟩ := near_tp (sgn x ^^ sgn y) (2*(m <<< more / n) + (m <<< more % n != 0).toNat) ((-1074 + (p:Int)) - (-1074 + (r:Int)) - more - 1) (1074+p) (r+more+1) (by omega)
    refine ⟨R, ?_, g2⟩
    have g3 := Rnd.stick (by omega) (1074+p) (r+more+1) rfl rfl hb g1
    refine Rnd.unscale (tp (more+1)) (tp_pos _) ?_
    rw [← e2, ← e4, Nat.shiftLeft_eq] at *
    have f1 : m*tp p*U*tp (more+1) = 2*(m*2^more)*tp (1074+p) := by
      rw [show tp (1074+p) = U*tp p from tp_add 1074 p, tp_succ, show tp more = 2^more from rfl]
      generalize tp p = a
      generalize 2^more = b
      generalize U = c
      ac_rfl
    have f2 : n*tp r*tp (more+1) = n*tp (r+more+1) := by
      rw [show r+more+1 = r+(more+1) by omega, tp_add r (more+1), Nat.mul_assoc]
    rw [f1, f2]; exact g3
end Go.Proofs.YtlikknamliamiaaDoor
