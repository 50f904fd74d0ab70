import Derived.Test.YtdnbclhidpkpgaaGreatLp3
import Derived.Test.YtdnbclhidpkpgaaGreatLp1
import Derived.BigQuiet
import Derived.Deep.LoopGhost
import Derived.Test.YtdnbclhidpkpgaaGreatRows
import Derived.Maps.OwnSet
import Derived.StringKeys
import Derived.Maps.RangeWalk
import Derived.Lib.DecodeN
import Derived.Lib.QuoteLoop
import Derived.Lib.OthersKept
/-
  The plain laws of chapter 2: what is read is written so; cut it is torn; what is written is read. No condition.
-/
namespace Go.Proofs.YtdnbclhidpkpgaaGreat
set_option linter.unusedVariables false
set_option linter.unusedSimpArgs false
theorem rn_err {l : List UInt8} {v : Int} {e : Nat} {r : List UInt8} (h : rn l 0 = (v, e, r)) (he : e ≠ 0) : r = [] := by
  unfold rn at h
  rw [if_neg (by omega)] at h
  by_cases h1 : (rdNum l).1 = 0
  · rw [if_pos h1] at h; simp only [Prod.mk.injEq] at h; omega
  · rw [if_neg h1] at h; simp only [Prod.mk.injEq] at h; exact h.2.2.symm
theorem rn_yes {l : List UInt8} {v : Int} {r : List UInt8} (h : rn l 0 = (v, 0, r)) : ∃ k, 0 < k ∧ k ≤ l.length ∧ r = l.drop k ∧ l.take k = vb (zig v) ∧ -9223372036854775808 ≤ v ∧ v ≤ 9223372036854775807 ∧ rdNum l = (0, zig v, k) := by
  unfold rn at h
  rw [if_neg (by omega)] at h
  by_cases h1 : (rdNum l).1 = 0
  · rw [if_pos h1] at h
    obtain ⟨c, m, k, hr⟩ : ∃ c m k, rdNum l = (c, m, k) := ⟨_, _, _, rfl⟩
    rw [hr] at h h1
    simp only at h h1
    subst h1
    simp only [Prod.mk.injEq, true_and] at h
    obtain ⟨rfl, rfl⟩ := h
    obtain ⟨a1, a2, a3, a4⟩ := rdNum_once hr
    have hb := unzig_in a4
    exact ⟨k, a1, a2, rfl, by rw [zig_unzig]; exact a3, hb.1, hb.2, by rw [zig_unzig]; exact hr⟩
  · rw [if_neg h1] at h; simp only [Prod.mk.injEq] at h; omega
theorem rn_of {l : List UInt8} {v : Int} {t : List UInt8} (h1 : -9223372036854775808 ≤ v) (h2 : v ≤ 9223372036854775807) (hl : l = vb (zig v) ++ t) : rn l 0 = (v, 0, t) := by
  have h := rdNum_vb (zig v) t (by have := zig_lt h1 h2; simpa using this)
  rw [← hl] at h
  unfold rn
  rw [if_neg (by omega), h]
  simp only [if_true, unzig_zig]
  rw [hl, List.drop_left]
theorem rn_cut {l : List UInt8} {v : Int} {k j : Nat} (h : rdNum l = (0, zig v, k)) (hj : j < k) : rn (l.take j) 0 = (0, 4, []) := by
  unfold rn
  rw [if_neg (by omega), rdNum_cut h hj]
  simp
theorem rnl_err : ∀ (n : Nat) (pre xs : List Int) (l : List UInt8) (e : Nat) (r : List UInt8), rnl n pre l = (xs, e, r) → e ≠ 0 → xs = [] ∧ r = [] := by
  intro n
  induction n with
  | zero => intro pre xs l e r h he; simp only [rnl, Prod.mk.injEq] at h; omega
  | succ n ih =>
    intro pre xs l e r h he
    simp only [rnl] at h
    by_cases h1 : (rn l 0).2.1 ≠ 0
    · rw [if_pos h1] at h
      simp only [Prod.mk.injEq] at h
      obtain ⟨a, b, c, hr⟩ : ∃ a b c, rn l 0 = (a, b, c) := ⟨_, _, _, rfl⟩
      rw [hr] at h h1
      exact ⟨h.1.symm, by rw [← (by simpa using congrArg (·.2) h.2 : c = r)]; exact rn_err hr h1⟩
    · rw [if_neg h1] at h
      exact ih _ _ _ _ _ h he
theorem rns_err {most : Int} {l : List UInt8} {xs : List Int} {e : Nat} {r : List UInt8} (h : rns most l 0 = (xs, e, r)) (he : e ≠ 0) : xs = [] ∧ r = [] := by
  unfold rns at h
  by_cases h1 : (rg 0 most l 0).2.1 ≠ 0
  · rw [if_pos h1] at h
    simp only [Prod.mk.injEq] at h
    refine ⟨h.1.symm, ?_⟩
    have h2 := h.2
    unfold rg at h2 h1
    by_cases h3 : (rn l 0).2.1 ≠ 0
    · rw [if_pos h3] at h2
      obtain ⟨a, b, c, hr⟩ : ∃ a b c, rn l 0 = (a, b, c) := ⟨_, _, _, rfl⟩
      rw [hr] at h2 h3
      have := rn_err hr h3
      rw [this] at h2
      exact (by simpa using congrArg (·.2) h2 : [] = r).symm
    · rw [if_neg h3] at h2 h1
      by_cases h4 : (rn l 0).1 < 0 ∨ most < (rn l 0).1
      · rw [if_pos h4] at h2
        exact (by simpa using congrArg (·.2) h2 : [] = r).symm
      · rw [if_neg h4] at h1
        exact absurd h1 h3
  · rw [if_neg h1] at h
    exact rnl_err _ _ _ _ _ _ h he
theorem rnl_yes : ∀ (n : Nat) (pre xs : List Int) (l : List UInt8) (r : List UInt8), rnl n pre l = (xs, 0, r) → ∃ ys k, xs = pre ++ ys ∧ ys.length = n ∧ k ≤ l.length ∧ r = l.drop k ∧ l.take k = ys.flatMap (fun x => vb (zig x)) ∧ i64In ys ∧
    (∀ j, j < k → ∀ q, (rnl n q (l.take j)).2.1 = 4) := by
  intro n
  induction n with
  | zero =>
    intro pre xs l r h
    simp only [rnl, Prod.mk.injEq] at h
    obtain ⟨rfl, _, rfl⟩ := h
    exact ⟨[], 0, by simp, rfl, by omega, by simp, by simp, by simp [i64In], fun j hj => by omega⟩
  | succ n ih =>
    intro pre xs l r h
    obtain ⟨v, e, l1, hr⟩ : ∃ v e l1, rn l 0 = (v, e, l1) := ⟨_, _, _, rfl⟩
    simp only [rnl, hr] at h
    by_cases h1 : e ≠ 0
    · rw [if_pos h1] at h; simp only [Prod.mk.injEq] at h; omega
    · rw [if_neg h1] at h
      have : e = 0 := by omega
      subst this
      obtain ⟨k1, a1, a2, rfl, a4, a5, a6, a7⟩ := rn_yes hr
      obtain ⟨ys, k2, b1, b2, b3, b4, b5, b6, b7⟩ := ih _ _ _ _ h
      rw [List.length_drop] at b3
      refine ⟨v :: ys, k1 + k2, by rw [b1]; simp, by simp [b2], by omega, by rw [b4, List.drop_drop], ?_, ?_, ?_⟩
      · rw [List.take_add, b5, a4]; simp
      · intro x hx
        rcases List.mem_cons.1 hx with rfl | hx
        · exact ⟨a5, a6⟩
        · exact b6 x hx
      · intro j hj q
        by_cases hjk : j < k1
        · simp only [rnl, rn_cut a7 hjk]; simp
        · have e1 : l.take j = vb (zig v) ++ (l.drop k1).take (j - k1) := by
            rw [← a4, ← List.take_add, show k1 + (j - k1) = j by omega]
          simp only [rnl, rn_of a5 a6 e1]
          rw [if_neg (by omega)]
          exact b7 _ (by omega) _
/-- PackOnce's heart. -/
theorem rns_yes {most : Int} {l : List UInt8} {xs : List Int} {r : List UInt8} (h : rns most l 0 = (xs, 0, r)) :
    ∃ k, 0 < k ∧ k ≤ l.length ∧ r = l.drop k ∧ l.take k = numsB xs ∧ i64In xs ∧ (xs.length : Int) ≤ most ∧ ∀ j, j < k → (rns most (l.take j) 0).2.1 = 4 := by
  obtain ⟨v, e, l1, hr⟩ : ∃ v e l1, rg 0 most l 0 = (v, e, l1) := ⟨_, _, _, rfl⟩
  unfold rns at h
  rw [hr] at h
  by_cases h1 : e ≠ 0
  · rw [if_pos h1] at h; simp only [Prod.mk.injEq] at h; omega
  · rw [if_neg h1] at h
    have : e = 0 := by omega
    subst this
    have hb := rg_bound hr
    have hrn : rn l 0 = (v, 0, l1) := by
      unfold rg at hr
      by_cases h3 : (rn l 0).2.1 ≠ 0
      · rw [if_pos h3] at hr
        exfalso
        exact h3 (congrArg (·.2.1) hr)
      · rw [if_neg h3] at hr
        by_cases h4 : (rn l 0).1 < 0 ∨ most < (rn l 0).1
        · rw [if_pos h4] at hr; simp at hr
        · rw [if_neg h4] at hr; exact hr
    obtain ⟨k1, a1, a2, rfl, a4, a5, a6, a7⟩ := rn_yes hrn
    obtain ⟨ys, k2, b1, b2, b3, b4, b5, b6, b7⟩ := rnl_yes _ _ _ _ _ h
    simp only [List.nil_append] at b1
    subst b1
    rw [List.length_drop] at b3
    have hlen : (xs.length : Int) = v := by rw [b2]; simp only; omega
    refine ⟨k1 + k2, by omega, by omega, by rw [b4, List.drop_drop], ?_, b6, by omega, ?_⟩
    · rw [List.take_add, b5, a4, numsB, hlen]
    · intro j hj
      unfold rns rg
      by_cases hjk : j < k1
      · rw [rn_cut a7 hjk]; simp
      · have e1 : l.take j = vb (zig v) ++ (l.drop k1).take (j - k1) := by
          rw [← a4, ← List.take_add, show k1 + (j - k1) = j by omega]
        rw [rn_of a5 a6 e1]
        simp only
        rw [if_neg (by omega : ¬ (v < 0 ∨ most < v))]
        simp only [ne_eq, not_true_eq_false, if_false]
        exact b7 _ (by omega) _
end Go.Proofs.YtdnbclhidpkpgaaGreat
/-
  slices.Equal of legs, of Insts.
-/
namespace Go.Proofs.YtdnbclhidpkpgaaGreat
set_option linter.unusedVariables false
set_option linter.unusedSimpArgs false
open Go.RowKit
set_option maxRecDepth 100000 in
set_option maxHeartbeats 4000000 in
theorem eqL_ok (w : World) (A B : Option Addr) (n m c d : Nat) (C D : List Lg) (hA : RdL w A n C) (hB : RdL w B m D) (hn : n ≤ 140737488355328) (hm : m ≤ 140737488355328) :
    Calls Tryz.prog 104 #[.slice A n c, .slice B m d] w fun e w' => e = .returned (.bool (decide (C = D))) ∧ ∃ k, w' = w.drewN k := by
  have la := hA.len
  have lb := hB.len
  by_cases hnm : n = m
  · subst hnm
    replace hA := Lib.hid hA
    replace hB := Lib.hid hB
    replace la := Lib.hid la
    replace lb := Lib.hid lb
    go_enter Tryz.func104, Tryz.ntmps104
    go_wp2_with fail
    go_loopg [13] n (fun k x wr => ∃ j : Nat, x = .int .i64 j ∧ j + k = n ∧ C.take j = D.take j ∧ ∃ q, wr = w.drewN q)
    case atStart => exact ⟨0, rfl, by omega, rfl, 0, rfl⟩
    case round =>
      obtain ⟨j, rfl, hj, htk, q, hq⟩ := hrel
      by_cases hlt : j < n
      · have hjC : j < C.length := by rw [la.out]; exact hlt
        have hjD : j < D.length := by rw [lb.out]; exact hlt
        obtain ⟨b, o, x0, rfl, -, hx0, a1, a2⟩ := rdl_get (w := w.drewN q) (Rd.drewN hA.out q) hlt
        rw [List.getElem?_eq_getElem hjC] at hx0
        injection hx0 with hx0
        subst hx0
        obtain ⟨b', o', y0, rfl, -, hy0, b1, b2⟩ := rdl_get (w := w.drewN q) (Rd.drewN hB.out q) hlt
        rw [List.getElem?_eq_getElem hjD] at hy0
        injection hy0 with hy0
        subst hy0
        rw [← hq] at a1 a2 b1 b2
        have t1 : C.take (j+1) = C.take j ++ [C[j]] := by rw [List.take_succ_eq_append_getElem hjC]
        have t2 : D.take (j+1) = D.take j ++ [D[j]] := by rw [List.take_succ_eq_append_getElem hjD]
        generalize C[j] = x at *
        generalize D[j] = y at *
        have hne := fun W => neq_lg W x y
        unfold lgV at hne
        have hdiff : C.take j = D.take j → ¬ x = y → ¬ C = D := by
          intro h1 h2 h3
          subst h3
          rw [t1] at t2
          have := List.append_cancel_left t2
          simp at this
          exact h2 this
        by_cases hxy : x = y
        · rw [decide_eq_true hxy] at hne
          replace hq := Lib.hid hq
          replace t1 := Lib.hid t1
          replace t2 := Lib.hid t2
          replace htk := Lib.hid htk
          replace hjC := Lib.hid hjC
          replace hjD := Lib.hid hjD
          replace hxy := Lib.hid hxy
          replace hdiff := Lib.hid hdiff
          go_wp2_with (go_quiet (fail))
          go_roundg (gk - 1)
          case measure => omega
          case rel => exact ⟨j + 1, by go_num, by omega, by rw [t1.out, t2.out, htk.out, hxy.out], _, by rw [hq.out, World.drewN_drewN]⟩
        · rw [decide_eq_false hxy] at hne
          have hno : decide (C = D) = false := decide_eq_false (hdiff htk hxy)
          replace hq := Lib.hid hq
          replace t1 := Lib.hid t1
          replace t2 := Lib.hid t2
          replace htk := Lib.hid htk
          replace hjC := Lib.hid hjC
          replace hjD := Lib.hid hjD
          replace hxy := Lib.hid hxy
          replace hdiff := Lib.hid hdiff
          replace hno := Lib.hid hno
          go_wp2_with (go_quiet (fail))
          go_ret
          exact ⟨by rw [hno.out]; rfl, _, by rw [hq.out, World.drewN_drewN]⟩
      · have hjn : j = n := by omega
        subst hjn
        have heq : decide (C = D) = true := by
          refine decide_eq_true ?_
          rw [List.take_of_length_le (by have := la.out; omega), List.take_of_length_le (by have := lb.out; omega)] at htk
          exact htk
        replace htk := Lib.hid htk
        replace hq := Lib.hid hq
        replace heq := Lib.hid heq
        go_wp2_with fail
        go_ret
        exact ⟨by rw [heq.out]; rfl, q, hq.out⟩
  · have hno : decide (C = D) = false := decide_eq_false (fun h => hnm (by rw [← la, ← lb, h]))
    have hnm2 : ((n : Int) == (m : Int)) = false := by simp; omega
    replace hA := Lib.hid hA
    replace hB := Lib.hid hB
    replace la := Lib.hid la
    replace lb := Lib.hid lb
    replace hnm := Lib.hid hnm
    replace hno := Lib.hid hno
    go_enter Tryz.func104, Tryz.ntmps104
    go_wp2_with fail
    go_ret
    exact ⟨by rw [hno.out]; rfl, 0, rfl⟩
set_option maxRecDepth 100000 in
set_option maxHeartbeats 4000000 in
theorem eqP_ok (w : World) (A B : Option Addr) (n m c d : Nat) (C D : List Is) (hA : RdP w A n C) (hB : RdP w B m D) (hn : n ≤ 140737488355328) (hm : m ≤ 140737488355328) :
    Calls Tryz.prog 89 #[.slice A n c, .slice B m d] w fun e w' => e = .returned (.bool (decide (C = D))) ∧ ∃ k, w' = w.drewN k := by
  have la := hA.len
  have lb := hB.len
  by_cases hnm : n = m
  · subst hnm
    replace hA := Lib.hid hA
    replace hB := Lib.hid hB
    replace la := Lib.hid la
    replace lb := Lib.hid lb
    go_enter Tryz.func89, Tryz.ntmps89
    go_wp2_with fail
    go_loopg [13] n (fun k x wr => ∃ j : Nat, x = .int .i64 j ∧ j + k = n ∧ C.take j = D.take j ∧ ∃ q, wr = w.drewN q)
    case atStart => exact ⟨0, rfl, by omega, rfl, 0, rfl⟩
    case round =>
      obtain ⟨j, rfl, hj, htk, q, hq⟩ := hrel
      by_cases hlt : j < n
      · have hjC : j < C.length := by rw [la.out]; exact hlt
        have hjD : j < D.length := by rw [lb.out]; exact hlt
        obtain ⟨b, o, x0, rfl, -, hx0, a1, a2⟩ := rdp_get (w := w.drewN q) (Rd.drewN hA.out q) hlt
        rw [List.getElem?_eq_getElem hjC] at hx0
        injection hx0 with hx0
        subst hx0
        obtain ⟨b', o', y0, rfl, -, hy0, b1, b2⟩ := rdp_get (w := w.drewN q) (Rd.drewN hB.out q) hlt
        rw [List.getElem?_eq_getElem hjD] at hy0
        injection hy0 with hy0
        subst hy0
        rw [← hq] at a1 a2 b1 b2
        have t1 : C.take (j+1) = C.take j ++ [C[j]] := by rw [List.take_succ_eq_append_getElem hjC]
        have t2 : D.take (j+1) = D.take j ++ [D[j]] := by rw [List.take_succ_eq_append_getElem hjD]
        generalize C[j] = x at *
        generalize D[j] = y at *
        have hne := fun W => neq_is W x y
        unfold isV at hne
        have hdiff : C.take j = D.take j → ¬ x = y → ¬ C = D := by
          intro h1 h2 h3
          subst h3
          rw [t1] at t2
          have := List.append_cancel_left t2
          simp at this
          exact h2 this
        by_cases hxy : x = y
        · rw [decide_eq_true hxy] at hne
          replace hq := Lib.hid hq
          replace t1 := Lib.hid t1
          replace t2 := Lib.hid t2
          replace htk := Lib.hid htk
          replace hjC := Lib.hid hjC
          replace hjD := Lib.hid hjD
          replace hxy := Lib.hid hxy
          replace hdiff := Lib.hid hdiff
          go_wp2_with (go_quiet (fail))
          go_roundg (gk - 1)
          case measure => omega
          case rel => exact ⟨j + 1, by go_num, by omega, by rw [t1.out, t2.out, htk.out, hxy.out], _, by rw [hq.out, World.drewN_drewN]⟩
        · rw [decide_eq_false hxy] at hne
          have hno : decide (C = D) = false := decide_eq_false (hdiff htk hxy)
          replace hq := Lib.hid hq
          replace t1 := Lib.hid t1
          replace t2 := Lib.hid t2
          replace htk := Lib.hid htk
          replace hjC := Lib.hid hjC
          replace hjD := Lib.hid hjD
          replace hxy := Lib.hid hxy
          replace hdiff := Lib.hid hdiff
          replace hno := Lib.hid hno
          go_wp2_with (go_quiet (fail))
          go_ret
          exact ⟨by rw [hno.out]; rfl, _, by rw [hq.out, World.drewN_drewN]⟩
      · have hjn : j = n := by omega
        subst hjn
        have heq : decide (C = D) = true := by
          refine decide_eq_true ?_
          rw [List.take_of_length_le (by have := la.out; omega), List.take_of_length_le (by have := lb.out; omega)] at htk
          exact htk
        replace htk := Lib.hid htk
        replace hq := Lib.hid hq
        replace heq := Lib.hid heq
        go_wp2_with fail
        go_ret
        exact ⟨by rw [heq.out]; rfl, q, hq.out⟩
  · have hno : decide (C = D) = false := decide_eq_false (fun h => hnm (by rw [← la, ← lb, h]))
    have hnm2 : ((n : Int) == (m : Int)) = false := by simp; omega
    replace hA := Lib.hid hA
    replace hB := Lib.hid hB
    replace la := Lib.hid la
    replace lb := Lib.hid lb
    replace hnm := Lib.hid hnm
    replace hno := Lib.hid hno
    go_enter Tryz.func89, Tryz.ntmps89
    go_wp2_with fail
    go_ret
    exact ⟨by rw [hno.out]; rfl, 0, rfl⟩
end Go.Proofs.YtdnbclhidpkpgaaGreat
/-
  order.Same, runner.Same.
-/
namespace Go.Proofs.YtdnbclhidpkpgaaGreat
set_option linter.unusedVariables false
set_option linter.unusedSimpArgs false
open Go.RowKit
set_option maxRecDepth 100000 in
set_option maxHeartbeats 4000000 in
theorem sameO_ok (w : World) (a b : Od) (L M : SV) (ha : OdM w a L) (hb : OdM w b M) (hL : L.n ≤ 140737488355328) (hM : M.n ≤ 140737488355328) :
    Calls Tryz.prog 88 #[.agg #[.int .i64 a.c, .int .i64 a.s, .int .i64 a.k, .string (txt a.acct), .string (txt a.peer), .int .i64 a.sum, .slice L.a L.n L.c, .int .i64 a.per, .int .i64 a.hold, .string (txt a.note)], .agg #[.int .i64 b.c, .int .i64 b.s, .int .i64 b.k, .string (txt b.acct), .string (txt b.peer), .int .i64 b.sum, .slice M.a M.n M.c, .int .i64 b.per, .int .i64 b.hold, .string (txt b.note)]] w fun e w' => e = .returned (.bool (decide (a = b))) ∧ Mod none_ w w' := by
  have kE := Lib.hid (fun W (h : Mod none_ w W) => eqL_ok W L.a M.a L.n M.n L.c M.c a.legs b.legs (ha.rd.mod0 h) (hb.rd.mod0 h) hL hM)
  have hid := fun W => eql_id W ⟨a.c, a.s⟩ ⟨b.c, b.s⟩
  unfold isV at hid
  replace ha := Lib.hid ha
  replace hb := Lib.hid hb
  obtain ⟨ac, as_, ak, aa, ap, asum, al, aper, ah, an⟩ := a
  obtain ⟨bc, bs_, bk, ba, bp, bsum, bl, bper, bh, bn⟩ := b
  dsimp only at kE hid ⊢
  go_enter Tryz.func88, Tryz.ntmps88
  go_wp2_with fail
  · with_reducible refine (kE.out _ (((Mod.refl none_ w).alloc _).alloc _)).mono ?_
    rintro e w1 ⟨rfl, q, hq⟩
    dsimp only
    have hm : Mod none_ w w1 := by rw [hq]; exact (((Mod.refl none_ w).alloc _).alloc _).drewN _
    replace hm := Lib.hid hm
    replace hq := Lib.hid hq
    go_wp2_with fail
    go_ret
    refine ⟨?_, hm.out⟩
    simp_all
  all_goals
    go_ret
    refine ⟨by simp_all, ((Mod.refl none_ w).alloc _).alloc _⟩
theorem en_eq {a b : En} : a = b ↔ a.none = b.none ∧ a.o = b.o ∧ a.deps = b.deps := by
  cases a; cases b; simp only [En.mk.injEq]; exact ⟨fun ⟨x, y, z⟩ => ⟨y, x, z⟩, fun ⟨x, y, z⟩ => ⟨y, x, z⟩⟩
set_option maxRecDepth 100000 in
set_option maxHeartbeats 4000000 in
theorem sameE_ok (w : World) (a b : En) (L D M E : SV) (ha : EnM w a L D) (hb : EnM w b M E) (hL : L.n ≤ 140737488355328) (hD : D.n ≤ 140737488355328) (hM : M.n ≤ 140737488355328) (hE : E.n ≤ 140737488355328) :
    Calls Tryz.prog 57 #[.agg #[.int .i64 a.o.c, .int .i64 a.o.s, .int .i64 a.o.k, .string (txt a.o.acct), .string (txt a.o.peer), .int .i64 a.o.sum, .slice L.a L.n L.c, .int .i64 a.o.per, .int .i64 a.o.hold, .string (txt a.o.note), .bool a.none, .slice D.a D.n D.c], .agg #[.int .i64 b.o.c, .int .i64 b.o.s, .int .i64 b.o.k, .string (txt b.o.acct), .string (txt b.o.peer), .int .i64 b.o.sum, .slice M.a M.n M.c, .int .i64 b.o.per, .int .i64 b.o.hold, .string (txt b.o.note), .bool b.none, .slice E.a E.n E.c]] w fun e w' => e = .returned (.bool (decide (a = b))) ∧ Mod none_ w w' := by
  have kO := Lib.hid (fun W (h : Mod none_ w W) => sameO_ok W a.o b.o L M (ha.od.mod0 h) (hb.od.mod0 h) hL hM)
  have kE := Lib.hid (fun W (h : Mod none_ w W) => eqP_ok W D.a E.a D.n E.n D.c E.c a.deps b.deps (ha.rd.mod0 h) (hb.rd.mod0 h) hD hE)
  have hm0 : ∀ o p, Mod none_ w ((w.alloc o).alloc p) := fun o p => ((Mod.refl none_ w).alloc o).alloc p
  have he := @en_eq a b
  replace ha := Lib.hid ha
  replace hb := Lib.hid hb
  replace he := Lib.hid he
  obtain ⟨ao, na, ad⟩ := a
  obtain ⟨bo, nb, bd⟩ := b
  dsimp only at kO kE he ⊢
  by_cases h1 : na = nb
  · have hd1 : (na == nb) = true := by simp [h1]
    by_cases h2 : ao = bo
    · rw [decide_eq_true h2] at kO
      have hr : (decide ((⟨ao, na, ad⟩ : En) = ⟨bo, nb, bd⟩)) = decide (ad = bd) := by rw [decide_eq_decide, he.out]; exact ⟨fun h => h.2.2, fun h => ⟨h1, h2, h⟩⟩
      rw [hr]
      replace h1 := Lib.hid h1
      replace h2 := Lib.hid h2
      replace hr := Lib.hid hr
      go_enter Tryz.func57, Tryz.ntmps57
      go_wp2_with fail
      with_reducible refine (kO.out _ (hm0 _ _)).mono ?_
      rintro e w1 ⟨rfl, hm1⟩
      dsimp only
      have x1 := (((Blk.new w _ _).alloc _).mod hm1 (fun h => h)).cell_ (i := 11) rfl
      have x2 := ((Blk.new (w.alloc _) _ _).mod hm1 (fun h => h)).cell_ (i := 11) rfl
      simp only [World.size_alloc] at x2
      have hm2 := (hm0 _ _).trans hm1
      have kE' := Lib.hid (kE.out _ hm2)
      replace hm1 := Lib.hid hm1
      go_wp2_with fail
      with_reducible refine kE'.out.mono ?_
      rintro e w2 ⟨rfl, q, hq⟩
      dsimp only
      have hm3 : Mod none_ w w2 := by rw [hq]; exact hm2.drewN _
      replace hm3 := Lib.hid hm3
      replace hq := Lib.hid hq
      go_wp2_with fail
      go_ret
      exact ⟨rfl, hm3.out⟩
    · rw [decide_eq_false h2] at kO
      have hr : (decide ((⟨ao, na, ad⟩ : En) = ⟨bo, nb, bd⟩)) = false := by rw [decide_eq_false_iff_not, he.out]; exact fun h => h2 h.2.1
      rw [hr]
      replace h1 := Lib.hid h1
      replace h2 := Lib.hid h2
      replace hr := Lib.hid hr
      go_enter Tryz.func57, Tryz.ntmps57
      go_wp2_with fail
      with_reducible refine (kO.out _ (hm0 _ _)).mono ?_
      rintro e w1 ⟨rfl, hm1⟩
      dsimp only
      have hm2 := Lib.hid ((hm0 _ _).trans hm1)
      replace hm1 := Lib.hid hm1
      go_wp2_with fail
      go_ret
      exact ⟨rfl, hm2.out⟩
  · have hd1 : (na == nb) = false := by simp [h1]
    have hr : (decide ((⟨ao, na, ad⟩ : En) = ⟨bo, nb, bd⟩)) = false := by rw [decide_eq_false_iff_not, he.out]; exact fun h => h1 h.1
    rw [hr]
    replace h1 := Lib.hid h1
    replace hr := Lib.hid hr
    go_enter Tryz.func57, Tryz.ntmps57
    go_wp2_with fail
    go_ret
    exact ⟨rfl, hm0 _ _⟩
end Go.Proofs.YtdnbclhidpkpgaaGreat
/-
  Maps keyed by texts, whatever their elements: a block that is a map reads as the list of its entries, in the order of their names. By the kit's laws on a map's block, read through a token that is the element itself.
-/
namespace Go.Proofs.YtdnbclhidpkpgaaGreat
set_option linter.unusedVariables false
set_option linter.unusedSimpArgs false
open Go.RowKit
open Go.Maps (Keyed string_keyed)
abbrev NameV := List UInt8 × Value
def VR (v : Value) : Option (DataW Value × List MemPlace) := some (.held v, [])
def ent (p : NameV) : Lit × DataW Value := (.string p.1, .held p.2)
def mapD (L : List NameV) : DataW Value := .map (L.map ent)
def findL (L : List NameV) (s : List UInt8) : Option Value := (L.find? (fun p => p.1 == s)).map (·.2)
def insL (x : NameV) : List NameV → List NameV
  | [] => [x]
  | y :: l => if bytesBefore x.1 y.1 then x :: y :: l else y :: insL x l
def putL (s : List UInt8) (v : Value) (L : List NameV) : List NameV := insL (s, v) (L.filter fun p => !(p.1 == s))
def MapAt (w : World) (k : TypeId) (b : Nat) (L : List NameV) : Prop := ∃ n, n < maxLen ∧ w.ownsMap Tryz.prog k VR b n (mapD L)
theorem has_mapD (L : List NameV) (s : List UInt8) : Maps.has (mapD L) (.string s) = (findL L s).isSome := by
  unfold mapD Maps.has findL
  induction L with
  | nil => rfl
  | cons p L ih =>
    simp only [List.map_cons, List.any_cons, List.find?_cons]
    show (p.1 == s || _) = _
    by_cases h : (p.1 == s) = true
    · simp [h]
    · simp only [Bool.not_eq_true] at h
      rw [h]; simpa using ih
theorem atKey_mapD (L : List NameV) (s : List UInt8) (z : Value) : (mapD L).atKey (.string s) (.held z) = .held ((findL L s).getD z) := by
  unfold mapD DataW.atKey findL
  induction L with
  | nil => rfl
  | cons p L ih =>
    simp only [List.map_cons, List.find?_cons]
    have : (ent p).1.sameKey (.string s) = (p.1 == s) := rfl
    rw [this]
    by_cases h : (p.1 == s) = true
    · simp [h, ent]
    · simp only [Bool.not_eq_true] at h
      rw [h]; simpa using ih
theorem size_mapD (L : List NameV) : Maps.size (mapD L) = L.length := by simp [mapD, Maps.size]
theorem put_mapD (L : List NameV) (s : List UInt8) (v : Value) : (mapD L).put (.string s) (.held v) = mapD (putL s v L) := by
  have hf : (L.map ent).filter (fun p => !p.1.sameKey (.string s)) = (L.filter fun p => !(p.1 == s)).map ent := by
    rw [List.filter_map]; rfl
  have hi : ∀ l : List NameV, DataW.insert (Lit.string s, DataW.held v) (l.map ent) = (insL (s, v) l).map ent := by
    intro l
    induction l with
    | nil => rfl
    | cons y l ih =>
      simp only [List.map_cons, DataW.insert, insL]
      have : (Lit.string s).before (ent y).1 = bytesBefore s y.1 := rfl
      rw [this, ih]
      split <;> rfl
  show DataW.map _ = DataW.map _
  rw [hf, hi]; rfl
section
variable {F : Nat → Prop} {w w' : World} {k : TypeId} {b : Nat} {L : List NameV}
theorem MapAt.lt (h : MapAt w k b L) : b < w.heap.size := by obtain ⟨n, _, h⟩ := h; exact h.lt
theorem MapAt.mod (h : MapAt w k b L) (hm : Mod F w w') (hb : ¬ F b) : MapAt w' k b L := by
  have hlt := h.lt
  obtain ⟨n, hn, es, clock, h1, h2, h3, h4⟩ := h
  exact ⟨n, hn, es, clock, (hm.block b hlt hb).trans h1, h2, h3, h4⟩
theorem MapAt.alloc (h : MapAt w k b L) (o : Obj) : MapAt (w.alloc o) k b L := by obtain ⟨n, hn, h⟩ := h; exact ⟨n, hn, h.alloc o⟩
theorem MapAt.made (w : World) (k : TypeId) : MapAt (w.alloc (.map #[] 0)) k w.heap.size [] := ⟨0, by decide, World.ownsMap_made _ _ _ _⟩
theorem MapAt.tight (h : MapAt w k b L) : w.ownsMap Tryz.prog k VR b L.length (mapD L) := by
  obtain ⟨n, hn, es, clock, h1, h2, h3, h4⟩ := h
  refine ⟨es, clock, h1, h2, ?_, h4⟩
  have := congrArg Maps.size h4
  rw [size_mapD] at this
  rw [this]; simp [Maps.size, length_sorted]
end
section
variable (w : World) {ops : Array Oper} {rest : List Oper} {o : Oper} {a : Act} {Q : Exit → Act → World → Prop}
theorem map_look_ok (hg : o.guard = none) (m x : Operand) (t : TypeId) (hop : o.op = Op.lookup t m x true) (k e : TypeId) (ht : Tryz.prog.underlying t = some (.map k e)) (hk : Tryz.prog.underlying k = some .string)
    {z : Value} (hz : (zeroValue e).run Tryz.prog w = .ok z w) (b : Nat) (L : List NameV) (hm : a.eval m = .map (some b)) (h : MapAt w k b L) (s : ByteArray) (hs : s.size ≤ maxLen) (hx : a.eval x = .string s)
    (hK : wpList Tryz.prog ops Q rest (a.put o.dst (.tuple #[(findL L s.data.toList).getD z, .bool (findL L s.data.toList).isSome])) w) :
    wpList Tryz.prog ops Q (o :: rest) a w := by
  refine wpList_lookup_own_ok w hg m x t hop k e (string_keyed hk) ht VR hz (.held z) [] rfl b _ (mapD L) hm h.tight _ (.string s.data.toList) hx (Go.WideMaps.keyOf_string_mk hk hs) ?_
  intro v ps hv
  rw [atKey_mapD] at hv
  have : v = (findL L s.data.toList).getD z := by simp [VR] at hv; exact hv.1
  rw [this, has_mapD]
  exact hK
theorem map_look (hg : o.guard = none) (m x : Operand) (t : TypeId) (hop : o.op = Op.lookup t m x false) (k e : TypeId) (ht : Tryz.prog.underlying t = some (.map k e)) (hk : Tryz.prog.underlying k = some .string)
    {z : Value} (hz : (zeroValue e).run Tryz.prog w = .ok z w) (b : Nat) (L : List NameV) (hm : a.eval m = .map (some b)) (h : MapAt w k b L) (s : ByteArray) (hs : s.size ≤ maxLen) (hx : a.eval x = .string s)
    (hK : wpList Tryz.prog ops Q rest (a.put o.dst ((findL L s.data.toList).getD z)) w) :
    wpList Tryz.prog ops Q (o :: rest) a w := by
  refine wpList_plain hg fun K' hK' => ?_
  obtain ⟨v, ps, hrun, hv⟩ := h.tight.lookup (string_keyed hk) ht hz (zd := .held z) (zp := []) rfl (Go.WideMaps.keyOf_string_mk hk hs)
  rw [atKey_mapD] at hv
  have : v = (findL L s.data.toList).getD z := by simp [VR] at hv; exact hv.1
  rw [this] at hrun
  unfold Oper.wp
  simp [execOp, hop, hm, hx, hrun, Result.andThen]
  exact hK' _ _ hK
theorem map_store (hg : o.guard = none) (m x v : Operand) (t : TypeId) (hop : o.op = Op.mapUpdate t m x v) (k e : TypeId) (ht : Tryz.prog.underlying t = some (.map k e)) (hk : Tryz.prog.underlying k = some .string)
    (b : Nat) (L : List NameV) (hm : a.eval m = .map (some b)) (h : MapAt w k b L) (hroom : L.length + 1 < maxLen) (s : ByteArray) (hs : s.size ≤ maxLen) (hx : a.eval x = .string s) (val : Value) (hv : a.eval v = val)
    (hK : ∀ w', MapAt w' k b (putL s.data.toList val L) → Mod (· = b) w w' → w'.heap.size = w.heap.size → wpList Tryz.prog ops Q rest (a.put o.dst undef) w') :
    wpList Tryz.prog ops Q (o :: rest) a w := by
  refine wpList_mapUpdate_in w hg m x v t hop k e (string_keyed hk) ht VR b _ (mapD L) hm h.tight (by omega) _ val (.string s.data.toList) hx hv (Go.WideMaps.keyOf_string_mk hk hs) (.held val) [] rfl ?_
  intro w' h1 h2
  rw [put_mapD] at h1
  refine hK w' ⟨_, hroom, h1⟩ ((Mod.of_grown h2.grown).mono fun i hi => by cases hi; rfl) ?_
  obtain ⟨es, c, es', c', _, rfl⟩ := h2
  simp [ChangeMaps.setBlock]
theorem map_len (hg : o.guard = none) (m : Operand) (t : TypeId) (hop : o.op = Op.call { callee := Callee.builtin Builtin.len, args := #[m], argTypes := #[t] }) (k e : TypeId) (ht : Tryz.prog.underlying t = some (.map k e))
    (b : Nat) (L : List NameV) (hm : a.eval m = .map (some b)) (h : MapAt w k b L) (hK : wpList Tryz.prog ops Q rest (a.put o.dst (.int .i64 L.length)) w) : wpList Tryz.prog ops Q (o :: rest) a w := by
  refine wpList_len_own w hg m t hop k e ht VR b _ (mapD L) hm h.tight ?_
  rw [size_mapD]; exact hK
end
/-- The entries stand in the order of their names. -/
def Sorted (L : List NameV) : Prop := L.Pairwise fun p q => bytesBefore p.1 q.1 = true
theorem MapAt.sorted {w : World} {k : TypeId} {b : Nat} {L : List NameV} (h : MapAt w k b L) (hk : Tryz.prog.underlying k = some .string) : Sorted L := by
  obtain ⟨n, _, es, clock, _, F, _, hD⟩ := h
  have hr := WideShapes.rising_pairwise _ (Maps.fit_rising (string_keyed hk) F)
  have : L.map ent = (es.toList.map (WideElems.rg Tryz.prog k VR)).foldr DataW.insert [] := by
    unfold mapD at hD; injection hD
  rw [← this, List.pairwise_map] at hr
  exact hr
end Go.Proofs.YtdnbclhidpkpgaaGreat
/-
  The order of texts, byte by byte: whole, and lists that rise by it. Plain.
-/
namespace Go.Proofs.YtdnbclhidpkpgaaGreat
set_option linter.unusedVariables false
set_option linter.unusedSimpArgs false
open Go.RowKit
theorem bb_irrefl : ∀ a : List UInt8, bytesBefore a a = false
  | [] => rfl
  | a :: r => by simp [bytesBefore, bb_irrefl r]
theorem bb_cons (a b : UInt8) (r s : List UInt8) : bytesBefore (a :: r) (b :: s) = true ↔ a < b ∨ (a = b ∧ bytesBefore r s = true) := by simp [bytesBefore]
theorem bb_trans : ∀ a b c : List UInt8, bytesBefore a b = true → bytesBefore b c = true → bytesBefore a c = true
  | [], [], _, h, _ => by simp [bytesBefore] at h
  | [], _ :: _, [], _, h => by simp [bytesBefore] at h
  | [], _ :: _, _ :: _, _, _ => rfl
  | _ :: _, [], _, h, _ => by simp [bytesBefore] at h
  | _ :: _, _ :: _, [], _, h => by simp [bytesBefore] at h
  | x :: a, y :: b, z :: c, h, g => by
    rw [bb_cons] at h g ⊢
    rcases h with h | ⟨rfl, h⟩
    · rcases g with g | ⟨rfl, g⟩
      · exact .inl (UInt8.lt_trans h g)
      · exact .inl h
    · rcases g with g | ⟨rfl, g⟩
      · exact .inl g
      · exact .inr ⟨rfl, bb_trans a b c h g⟩
theorem bb_total : ∀ a b : List UInt8, bytesBefore a b = true ∨ a = b ∨ bytesBefore b a = true
  | [], [] => .inr (.inl rfl)
  | [], _ :: _ => .inl rfl
  | _ :: _, [] => .inr (.inr rfl)
  | x :: a, y :: b => by
    rw [bb_cons, bb_cons]
    have tri : x < y ∨ x = y ∨ y < x := by
      rcases Nat.lt_trichotomy x.toNat y.toNat with h | h | h
      · exact .inl (UInt8.lt_iff_toNat_lt.2 h)
      · exact .inr (.inl (UInt8.toNat_inj.1 h))
      · exact .inr (.inr (UInt8.lt_iff_toNat_lt.2 h))
    rcases tri with h | rfl | h
    · exact .inl (.inl h)
    · rcases bb_total a b with h | rfl | h
      · exact .inl (.inr ⟨rfl, h⟩)
      · exact .inr (.inl rfl)
      · exact .inr (.inr (.inr ⟨rfl, h⟩))
    · exact .inr (.inr (.inl h))
theorem bb_asymm {a b : List UInt8} (h : bytesBefore a b = true) : bytesBefore b a = false := by
  cases hb : bytesBefore b a with
  | false => rfl
  | true => have := bb_trans a b a h hb; rw [bb_irrefl] at this; cases this
theorem bb_ne {a b : List UInt8} (h : bytesBefore a b = true) : a ≠ b := by rintro rfl; rw [bb_irrefl] at h; cases h
end Go.Proofs.YtdnbclhidpkpgaaGreat
/-
  A range over a text: what its runes are, byte by byte. Plain.
-/
namespace Go.Proofs.YtdnbclhidpkpgaaGreat
set_option linter.unusedVariables false
set_option linter.unusedSimpArgs false
open Go.RowKit
set_option maxRecDepth 100000 in
theorem dec_wide (s : ByteArray) (i : Nat) (h : 128 ≤ (s.get! i).toNat) : 128 ≤ (Utf8.decode s i).1 ∧ ((Utf8.decode s i).1 < 55296 ∨ 57343 < (Utf8.decode s i).1 ∧ (Utf8.decode s i).1 ≤ 1114111) := by
  refine ⟨?_, ?_⟩
  · rw [Lib.decode_at]
    generalize (s.get! i).toNat = b0 at h
    generalize (s.get! (i + 1)).toNat = b1
    generalize (s.get! (i + 2)).toNat = b2
    generalize (s.get! (i + 3)).toNat = b3
    unfold Lib.decodeN
    repeat' split
    all_goals (simp only; omega)
  · rw [Lib.decode_at]
    exact Lib.decodeN_valid _ _ _ _ _ (UInt8.toNat_lt _)
end Go.Proofs.YtdnbclhidpkpgaaGreat
