/-
  The contract of ratio.Mean, of sums and weights that are small whole numbers. No condition.
-/
import Derived.Test.YtlikknamliamiaaDoorRatMP
import Derived.Test.YtlikknamliamiaaDoorRatChg
namespace Go.Proofs.YtlikknamliamiaaDoor
set_option linter.unusedVariables false
open Go.RowKit
def fvs (l : List Int) : List Value := l.map (fun k => .float .f64 (ofI k))
theorem fvs_length (l : List Int) : (fvs l).length = l.length := by simp [fvs]
theorem fvs_append (a b : List Int) : fvs (a ++ b) = fvs a ++ fvs b := by simp [fvs]
theorem fvs_one (l : List Int) : ∀ u ∈ fvs l, u.oneCell' = true := by
  intro u hu
  simp only [fvs, List.mem_map] at hu
  obtain ⟨b, _, rfl⟩ := hu
  rfl
theorem fvs_get {l : List Int} {k : Nat} (h : k < l.length) : (fvs l)[k]? = some (.float .f64 (ofI l[k])) := by simp [fvs, h]
def RdF (w : World) (A : Option Addr) (n : Nat) (l : List Int) : Prop := Rd w 1 A n (fvs l)
def OwF (w : World) (A : Option Addr) (n c : Nat) (l : List Int) : Prop := Ow w 22 1 A n c (fvs l)
theorem RdF.len {w : World} {A : Option Addr} {n : Nat} {l : List Int} (h : RdF w A n l) : l.length = n := by have := h.1; rw [fvs_length] at this; omega
/-- sums times weights, on the whole -/
def dot : List Int → List Int → Int
  | x :: xs, k :: ks => x*k + dot xs ks
  | _, _ => 0
theorem dot_snoc : ∀ (xs ks : List Int) (x k : Int), xs.length = ks.length → dot (xs ++ [x]) (ks ++ [k]) = dot xs ks + x*k := by
  intro xs
  induction xs with
  | nil => intro ks x k h; cases ks with | nil => simp [dot] | cons => simp at h
  | cons y xs ih =>
    intro ks x k h
    cases ks with
    | nil => simp at h
    | cons q ks =>
      rw [List.cons_append, List.cons_append, dot, dot, ih ks x k (by simpa using h)]; omega
theorem weighs_ok (w : World) (x : Nat) (hx : Fin' x) (h : 0 < V x) : Calls Tryd.prog 29 #[.float .f64 x] w fun e w' => e = .returned (.bool true) ∧ w = w' := by
  have o := ord_zero x (not_nan_of_fin hx)
  rw [Int.compare_eq_gt.2 h] at o
  have c1 := Lib.hid (fun W => isinf1_ok W x)
  rw [show infB 1 x = false by unfold infB; unfold Fin' at hx; simp; omega] at c1
  replace hx := Lib.hid hx
  replace h := Lib.hid h
  go_enter Tryd.func29, Tryd.ntmps29
  go_wp2_with fail
  refine (c1.out _).mono ?_
  rintro e w1 ⟨rfl, rfl⟩
  dsimp only
  go_wp2_with fail
  go_ret
  exact ⟨rfl, rfl⟩
/-- one step: the sum of the products, the sum of the weights, exactly -/
theorem mean_step (s t : Nat) (S K x k : Int) (hs : Fin' s) (ht : Fin' t) (hS : V s = S*U) (hK : V t = K*U) (hx : x.natAbs ≤ 2^30) (hk : 0 < k) (hk2 : k ≤ 100) (bS : S.natAbs ≤ 2^50) (bK : K.natAbs ≤ 2^50) :
    ∃ p s' t', D.mul (ofI x) (ofI k) = some p ∧ D.add s p = some s' ∧ Fin' s' ∧ V s' = (S + x*k)*U ∧ D.add t (ofI k) = some t' ∧ Fin' t' ∧ V t' = (K + k)*U := by
  obtain ⟨f1, f2⟩ := ofI_fin k (by omega)
  have hm : x.natAbs*k.natAbs ≤ 2^30*100 := Nat.mul_le_mul hx (by omega)
  have hxk : (x*k).natAbs ≤ 2^30*100 := by rw [Int.natAbs_mul]; exact hm
  obtain ⟨p, p1, p2, p3⟩ := times_exact x (ofI k) k.natAbs 1074 (by omega) f1 (by omega) (by omega) (by rw [← V_abs, f2, Int.natAbs_mul]; rfl)
  rw [f2, ← Int.mul_assoc] at p3
  have e1 : V s + V p = (S + x*k)*U := by rw [hS, p3, Int.add_mul]
  have e2 : V t + V (ofI k) = (K + k)*U := by rw [hK, f2, Int.add_mul]
  obtain ⟨s', s1, s2, s3⟩ := add_exact s p hs p2 (S + x*k).natAbs 1074 (by omega) (by omega) (by rw [e1, Int.natAbs_mul]; rfl)
  obtain ⟨t', t1, t2, t3⟩ := add_exact t (ofI k) ht f1 (K + k).natAbs 1074 (by omega) (by omega) (by rw [e2, Int.natAbs_mul]; rfl)
  exact ⟨p, s', t', p1, s1, s2, by rw [s3, e1], t1, t2, by rw [t3, e2]⟩
def MnRel (xs ks : List Int) (j : Nat) (sv tv : Value) : Prop := ∃ s t, sv = .float .f64 s ∧ tv = .float .f64 t ∧ Fin' s ∧ Fin' t ∧ V s = dot (xs.take j) (ks.take j)*U ∧ V t = isum (ks.take j)*U ∧ (dot (xs.take j) (ks.take j)).natAbs ≤ j*(2^30*100) ∧ (isum (ks.take j)).natAbs ≤ j*100
theorem MnRel.zero (xs ks : List Int) : MnRel xs ks 0 (.float .f64 0) (.float .f64 0) := by
  refine ⟨0, 0, rfl, rfl, fin_lt (by decide), fin_lt (by decide), ?_, ?_, ?_, ?_⟩ <;> simp [dot, isum_nil, V_zero]
theorem MnRel.step {xs ks : List Int} {j s t : Nat} (h : MnRel xs ks j (.float .f64 s) (.float .f64 t)) (hj : j < 100) (h1 : j < xs.length) (h2 : j < ks.length) (hx : xs[j].natAbs ≤ 2^30) (hk : 0 < ks[j]) (hk2 : ks[j] ≤ 100) :
    ∃ p s' t', D.mul (ofI xs[j]) (ofI ks[j]) = some p ∧ D.add s p = some s' ∧ D.add t (ofI ks[j]) = some t' ∧ MnRel xs ks (j+1) (.float .f64 s') (.float .f64 t') := by
  obtain ⟨s0, t0, e1, e2, fs, ft, vs, vt, bs, bt⟩ := h
  cases e1; cases e2
  have l1 : j*(2^30*100) ≤ 100*(2^30*100) := Nat.mul_le_mul_right _ (by omega)
  obtain ⟨p, s', t', p1, p2, p3, p4, p5, p6, p7⟩ := mean_step s t _ _ xs[j] ks[j] fs ft vs vt hx hk hk2 (by omega) (by omega)
  have d1 : dot (xs.take (j+1)) (ks.take (j+1)) = dot (xs.take j) (ks.take j) + xs[j]*ks[j] := by
    rw [List.take_succ_eq_append_getElem h1, List.take_succ_eq_append_getElem h2, dot_snoc _ _ _ _ (by simp; omega)]
  have d2 : isum (ks.take (j+1)) = isum (ks.take j) + ks[j] := by
    rw [List.take_succ_eq_append_getElem h2, isum_append, isum_cons, isum_nil]; omega
  have hxk : (xs[j]*ks[j]).natAbs ≤ 2^30*100 := by rw [Int.natAbs_mul]; exact Nat.mul_le_mul hx (by omega)
  refine ⟨p, s', t', p1, p2, p5, s', t', rfl, rfl, p3, p6, by rw [p4, d1], by rw [p7, d2], ?_, ?_⟩
  · rw [d1, Nat.succ_mul]; omega
  · rw [d2, Nat.succ_mul]; omega
theorem dot_bounds (lo hi : Int) : ∀ (xs ks : List Int), xs.length = ks.length → (∀ k ∈ ks, 0 < k ∧ k ≤ 100) → (∀ x ∈ xs, lo ≤ x ∧ x ≤ hi) → lo*isum ks ≤ dot xs ks ∧ dot xs ks ≤ hi*isum ks ∧ (ks.length : Int) ≤ isum ks := by
  intro xs
  induction xs with
  | nil => intro ks h _ _; cases ks with | nil => simp [dot, isum_nil] | cons => simp at h
  | cons x xs ih =>
    intro ks h hk hb
    cases ks with
    | nil => simp at h
    | cons k ks =>
      obtain ⟨i1, i2, i3⟩ := ih ks (by simpa using h) (fun y hy => hk y (List.mem_cons_of_mem _ hy)) (fun y hy => hb y (List.mem_cons_of_mem _ hy))
      have k1 := hk k (List.mem_cons_self ..)
      have b1 := hb x (List.mem_cons_self ..)
      have m1 : lo*k ≤ x*k := Int.mul_le_mul_of_nonneg_right b1.1 (by omega)
      have m2 : x*k ≤ hi*k := Int.mul_le_mul_of_nonneg_right b1.2 (by omega)
      rw [dot, isum_cons, Int.mul_add, Int.mul_add, List.length_cons]
      omega
theorem mean_end (xs ks : List Int) (lo hi : Int) (hl : xs.length = ks.length) (h0 : 0 < ks.length) (hx : ∀ x ∈ xs, x.natAbs ≤ 2^30) (hk : ∀ k ∈ ks, 0 < k ∧ k ≤ 100) (hlo : lo.natAbs ≤ 2^40) (hhi : hi.natAbs ≤ 2^40) (hb : ∀ x ∈ xs, lo ≤ x ∧ x ≤ hi)
    (s t : Nat) (h : MnRel xs ks xs.length (.float .f64 s) (.float .f64 t)) :
    ∃ z, D.div s t = some z ∧ Fin' z ∧ nanB z = false ∧ z < 2^64 ∧ (FloatKind.f64.format.order t 0 == some .eq) = false ∧ lo*U ≤ V z ∧ V z ≤ hi*U := by
  obtain ⟨s0, t0, e1, e2, fs, ft, vs, vt, _, _⟩ := h
  cases e1; cases e2
  rw [List.take_of_length_le (Nat.le_refl _), List.take_of_length_le (by omega)] at vs
  rw [List.take_of_length_le (by omega)] at vt
  obtain ⟨d1, d2, d3⟩ := dot_bounds lo hi xs ks hl hk hb
  have hK : 0 < isum ks := by omega
  obtain ⟨z, z1, z2, z3, z4⟩ := mean_div s t _ _ lo hi fs ft vs vt hK hlo hhi d1 d2
  refine ⟨z, z1, z2, nanB_no (not_nan_of_fin z2), ?_, ?_, z3, z4⟩
  · have h' : floatBits .quo .f64 s t = some z := z1
    have := floatBits_wf h'
    simpa [Lit.wf] using this
  · rw [ord_zero t (not_nan_of_fin ft)]
    have : 0 < V t := by rw [vt]; exact Int.mul_pos hK (by have := U_pos; omega)
    rw [Int.compare_eq_gt.2 this]; rfl
set_option maxRecDepth 100000 in
set_option maxHeartbeats 2000000 in
theorem mean_ok (w : World) (A B : Option Addr) (n c d : Nat) (xs ks : List Int) (lo hi : Int) (hA : RdI w A n xs) (hB : RdF w B n ks) (hnc : n ≤ c) (hn : n ≤ 100) (h0 : 0 < n)
    (hx : ∀ x ∈ xs, x.natAbs ≤ 2^30) (hk : ∀ k ∈ ks, 0 < k ∧ k ≤ 100) (hlo : lo.natAbs ≤ 2^40) (hhi : hi.natAbs ≤ 2^40) (hb : ∀ x ∈ xs, lo ≤ x ∧ x ≤ hi) :
    Calls Tryd.prog 20 #[.slice A n c, .slice B n d] w fun e w' => ∃ z, e = .returned (.tuple #[.float .f64 z, .bool true]) ∧ Fin' z ∧ lo*U ≤ V z ∧ V z ≤ hi*U ∧ w = w' := by
  have la := hA.len
  have lb := hB.len
  have fin := Lib.hid (mean_end xs ks lo hi (by omega) (by omega) hx hk hlo hhi hb)
  rw [la] at fin
  obtain ⟨b, o, eA, hcA⟩ := Rd.form hA (show 0 < n by omega) (by omega)
  obtain ⟨b', o', eB, hcB⟩ := Rd.form hB (show 0 < n by omega) (by omega)
  subst eA eB
  replace hA := Lib.hid hA
  replace hB := Lib.hid hB
  replace hx := Lib.hid hx
  replace hk := Lib.hid hk
  replace hlo := Lib.hid hlo
  replace hhi := Lib.hid hhi
  replace hb := Lib.hid hb
  replace hcA := Lib.hid hcA
  replace hcB := Lib.hid hcB
  go_enter Tryd.func20, Tryd.ntmps20
  go_wp2_with fail
  go_loop [6, 7, 19] (fun sv tv x => ∃ j : Nat, x = .int .i64 j ∧ j ≤ n ∧ MnRel xs ks j sv tv) (fun _ _ x => n - (intOf x).toNat)
  case atStart => exact ⟨0, rfl, by omega, MnRel.zero xs ks⟩
  case round =>
    obtain ⟨j, rfl, hj, hr⟩ := hrel
    obtain ⟨s, t, rfl, rfl, _⟩ := id hr
    by_cases hlt : j < n
    · have hjx : j < xs.length := by omega
      have hjk : j < ks.length := by omega
      have cA := hcA.out j _ (ivs_get hjx)
      have cB := hcB.out j _ (fvs_get hjk)
      obtain ⟨p, s', t', p1, p2, p3, hnx⟩ := hr.step (by omega) hjx hjk (hx.out _ (List.getElem_mem hjx)) (hk.out _ (List.getElem_mem hjk)).1 (hk.out _ (List.getElem_mem hjk)).2
      have kb := hk.out _ (List.getElem_mem hjk)
      obtain ⟨f1, f2⟩ := ofI_fin ks[j] (by omega)
      have f3 : 0 < V (ofI ks[j]) := by rw [f2]; exact Int.mul_pos kb.1 (by have := U_pos; omega)
      have cw := Lib.hid (fun (W : World) => weighs_ok W (ofI ks[j]) f1 f3)
      clear f1 f2 f3
      have r1 := fun W ty => run_float_arith (P := Tryd.prog) W .mul ty .f64 (floatOfInt .f64 xs[j]) (ofI ks[j]) p p1
      have r2 := fun W ty => run_float_arith (P := Tryd.prog) W .add ty .f64 s p s' p2
      have r3 := fun W ty => run_float_arith (P := Tryd.prog) W .add ty .f64 t (ofI ks[j]) t' p3
      clear p1 p2 p3 kb
      generalize xs[j] = x at *
      generalize ks[j] = k at *
      replace hr := Lib.hid hr
      replace hnx := Lib.hid hnx
      replace hjx := Lib.hid hjx
      replace hjk := Lib.hid hjk
      go_wp2_with fail
      refine (cw.out _).mono ?_
      rintro e w1 ⟨rfl, rfl⟩
      dsimp only
      go_wp2_with fail
      refine ⟨⟨j + 1, by go_num, by omega, hnx.out⟩, ?_⟩
      simp [intOf]; omega
    · have hjn : j = n := by omega
      subst hjn
      obtain ⟨z, hz, hzf, hzn, hz64, hto, h1, h2⟩ := fin.out s t hr
      have r1 := fun W ty => run_float_arith (P := Tryd.prog) W .quo ty .f64 s t z hz
      have cn := Lib.hid (fun W => isnan_ok W z)
      have ci := Lib.hid (fun W => isinf0_ok W z hz64)
      rw [hzn] at cn
      rw [show infB 0 z = false by unfold infB; unfold Fin' at hzf; simp; omega] at ci
      replace hr := Lib.hid hr
      replace hz := Lib.hid hz
      replace hzf := Lib.hid hzf
      replace hzn := Lib.hid hzn
      replace hz64 := Lib.hid hz64
      replace h1 := Lib.hid h1
      replace h2 := Lib.hid h2
      go_wp2_with fail
      refine (cn.out _).mono ?_
      rintro e w1 ⟨rfl, rfl⟩
      dsimp only
      go_wp2_with fail
      refine (ci.out _).mono ?_
      rintro e w1 ⟨rfl, rfl⟩
      dsimp only
      go_wp2_with fail
      go_ret2
      exact ⟨_, rfl, hzf.out, h1.out, h2.out, rfl⟩
set_option maxRecDepth 100000 in
set_option maxHeartbeats 2000000 in
theorem mean_nil (w : World) (A B : Option Addr) (c d : Nat) :
    Calls Tryd.prog 20 #[.slice A 0 c, .slice B 0 d] w fun e w' => e = .returned (.tuple #[.float .f64 0, .bool false]) ∧ Mod none_ w w' := by
  obtain ⟨b, k, hb, _, hrun⟩ := run_arith .quo (.inr (.inr (.inr rfl))) 0 0 w
  have o : FloatKind.f64.format.order 0 0 = some .eq := order_self 0 (by unfold Nan infR; decide)
  replace hb := Lib.hid hb
  go_enter Tryd.func20, Tryd.ntmps20
  go_wp2_with fail
  go_loopw [6, 7, 19] (fun sv tv x wr => sv = .float .f64 0 ∧ tv = .float .f64 0 ∧ x = .int .i64 0 ∧ w = wr) (fun _ _ x _ => 0)
  case atStart => exact ⟨rfl, rfl, rfl, rfl⟩
  case round =>
    obtain ⟨rfl, rfl, rfl, rfl⟩ := hrel
    go_wp2_with fail
    go_ret2
    exact ⟨rfl, (Mod.refl _ _).drewN k⟩
end Go.Proofs.YtlikknamliamiaaDoor
