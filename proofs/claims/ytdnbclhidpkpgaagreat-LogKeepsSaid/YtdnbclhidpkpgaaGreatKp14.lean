import Derived.Test.YtdnbclhidpkpgaaGreatKp13
import Derived.Test.YtdnbclhidpkpgaaGreatKp8
/-
  The contracts of pack.Reader.Range and pack.Reader.Text. No condition.
-/
namespace Go.Proofs.YtdnbclhidpkpgaaGreat
set_option linter.unusedVariables false
set_option linter.unusedSimpArgs false
open Go.RowKit
/-- What Range tells. -/
def rg (lo hi : Int) (l : List UInt8) (e : Nat) : Int × Nat × List UInt8 :=
  if (rn l e).2.1 ≠ 0 then (0, (rn l e).2) else if (rn l e).1 < lo ∨ hi < (rn l e).1 then (0, 3, []) else rn l e
theorem Rdr.blk {w : World} {g B : Nat} {l : List UInt8} {e : Nat} (h : Rdr w g B l e) : ∃ a b, Blk w g 111 #[a, b] ∧ g ≠ B := by
  obtain ⟨A, n, c, a1, _, _, _, _, a6⟩ := h
  exact ⟨_, _, a1, a6⟩
theorem Mod.only_trans {w w1 w2 : World} {g : Nat} (h : Mod (only g) w w1) (k : Mod (only g) w1 w2) : Mod (only g) w w2 := h.trans k
theorem fail_r (w : World) (g B e e0 : Nat) (l : List UInt8) (h : Rdr w g B l e0) : Calls Tryz.prog 72 #[.pointer (some ⟨g, 0, none⟩), .int .i64 (e : Int)] w (FailPost w g B e) := by
  obtain ⟨a, b, h1, h2⟩ := h.blk
  exact fail_ok w g B e a b h1 h2
set_option maxRecDepth 100000 in
theorem range_nil (w : World) (lo hi : Int) : Calls Tryz.prog 69 #[.pointer none, .int .i64 lo, .int .i64 hi] w fun en w' => en = .returned (.tuple #[.int .i64 0, .int .i64 1]) ∧ w = w' := by
  go_enter Tryz.func69, Tryz.ntmps69
  go_wp2_with fail
  refine (rnum_nil w).mono ?_
  rintro en w1 ⟨rfl, rfl⟩
  go_wp2_with fail
  go_ret2
  exact ⟨rfl, rfl⟩
set_option maxRecDepth 100000 in
theorem range_ok (w : World) (g B e : Nat) (l : List UInt8) (lo hi : Int) (h : Rdr w g B l e) : Calls Tryz.prog 69 #[.pointer (some ⟨g, 0, none⟩), .int .i64 lo, .int .i64 hi] w (RPost w g B (rg lo hi l e)) := by
  obtain ⟨v, e1, r, hrn⟩ : ∃ v e1 r, rn l e = (v, e1, r) := ⟨_, _, _, rfl⟩
  have hc := rnum_ok w g B e l h
  have hr : rg lo hi l e = if e1 ≠ 0 then (0, e1, r) else if v < lo ∨ hi < v then (0, 3, []) else (v, e1, r) := by unfold rg; rw [hrn]
  rw [hrn] at hc
  replace hc := Lib.hid hc
  replace hr := Lib.hid hr
  replace hrn := Lib.hid hrn
  go_enter Tryz.func69, Tryz.ntmps69
  go_wp2_with fail
  refine hc.out.mono ?_
  rintro en w1 ⟨rfl, hR, hm⟩
  dsimp only at hR ⊢
  replace hR := Lib.hid hR
  replace hm := Lib.hid hm
  by_cases he : e1 = 0
  · subst he
    by_cases c1 : v < lo
    · have c2 : decide (v < lo) = true := by simpa using c1
      go_wp2_with fail
      refine (fail_r _ g B 3 _ _ hR.out).mono ?_
      rintro en w2 ⟨rfl, hR2, hm2⟩
      replace hR2 := Lib.hid hR2
      replace hm2 := Lib.hid hm2
      go_wp2_with fail
      go_ret2
      rw [hr.out, if_neg (by omega), if_pos (.inl c1)]
      exact ⟨rfl, hR2.out, hm.out.trans hm2.out⟩
    · have c1' : decide (v < lo) = false := by simpa using c1
      by_cases c2 : hi < v
      · go_wp2_with fail
        refine (fail_r _ g B 3 _ _ hR.out).mono ?_
        rintro en w2 ⟨rfl, hR2, hm2⟩
        replace hR2 := Lib.hid hR2
        replace hm2 := Lib.hid hm2
        go_wp2_with fail
        go_ret2
        rw [hr.out, if_neg (by omega), if_pos (.inr c2)]
        exact ⟨rfl, hR2.out, hm.out.trans hm2.out⟩
      · go_wp2_with fail
        go_ret2
        rw [hr.out, if_neg (by omega), if_neg (by omega)]
        exact ⟨rfl, hR.out, hm.out⟩
  · have he1 : ((e1 : Int) != 0) = true := by simp; omega
    go_wp2_with fail
    go_ret2
    rw [hr.out, if_pos he]
    exact ⟨rfl, hR.out, hm.out⟩
/-- What Text tells. -/
def rt (most : Int) (l : List UInt8) (e : Nat) : List UInt8 × Nat × List UInt8 :=
  if (rg 0 most l e).2.1 ≠ 0 then ([], (rg 0 most l e).2) else if ((rg 0 most l e).2.2.length : Int) < (rg 0 most l e).1 then ([], 4, []) else
    ((rg 0 most l e).2.2.take (rg 0 most l e).1.toNat, 0, (rg 0 most l e).2.2.drop (rg 0 most l e).1.toNat)
def TPost (w : World) (g B : Nat) (r : List UInt8 × Nat × List UInt8) (en : Ending) (w' : World) : Prop :=
  en = .returned (.tuple #[.string (txt r.1), .int .i64 (r.2.1 : Int)]) ∧ Rdr w' g B r.2.2 r.2.1 ∧ Mod (only g) w w'
set_option maxRecDepth 100000 in
theorem rtext_nil (w : World) (most : Int) : Calls Tryz.prog 70 #[.pointer none, .int .i64 most] w fun en w' => en = .returned (.tuple #[.string (txt []), .int .i64 1]) ∧ w = w' := by
  go_enter Tryz.func70, Tryz.ntmps70
  go_wp2_with fail
  refine (range_nil w _ _).mono ?_
  rintro en w1 ⟨rfl, rfl⟩
  go_wp2_with fail
  go_ret2
  exact ⟨rfl, rfl⟩
theorem rg_bound {lo hi : Int} {l : List UInt8} {e : Nat} {v : Int} {r : List UInt8} (h : rg lo hi l e = (v, 0, r)) : lo ≤ v ∧ v ≤ hi := by
  unfold rg at h
  by_cases h1 : (rn l e).2.1 ≠ 0
  · rw [if_pos h1] at h
    have := congrArg (·.2.1) h
    simp only at this
    omega
  · rw [if_neg h1] at h
    by_cases h2 : (rn l e).1 < lo ∨ hi < (rn l e).1
    · rw [if_pos h2] at h; simp at h
    · rw [if_neg h2] at h
      rw [h] at h2
      simp only at h2
      omega
theorem rest_gen {w : World} {g B : Nat} {A : Option Addr} {n c : Nat} {l : List UInt8} {k q d : Nat} (hb : Blk w g 111 #[.slice A n c, .int .i64 ((0 : Nat) : Int)]) (hr : RdB w A l.length l)
    (hA : ∀ j, fp A j → j = B) (hB : g ≠ B) (hl : l.length = k + q) (hqd : q ≤ d) (hc : k + d ≤ 9223372036854775807) (A' : Option Addr) (m c' : Nat) (h1 : A' = A ∧ d = 0 ∨ A' = A.map (fun x => x.add k)) (h2 : m = q) (h3 : c' = d) :
    Rdr (w.setCell ⟨g, 0, none⟩ (.slice A' m c')) g B (l.drop k) 0 := by
  subst h2 h3
  have hlt : ∀ j, fp A' j → j = B := by
    rintro j ⟨a, ha, rfl⟩
    rcases h1 with ⟨h, _⟩ | h
    · rw [h] at ha; exact hA _ ⟨a, ha, rfl⟩
    · rw [h] at ha
      cases A with
      | none => cases ha
      | some x => cases ha; rw [block_of_add]; exact hA _ ⟨x, rfl, rfl⟩
  have h4 : RdB w A' m (l.drop k) := by
    rcases h1 with ⟨rfl, h0⟩ | rfl
    · have : m = 0 := by omega
      subst this
      rw [List.drop_eq_nil_of_le (by omega)]
      exact ⟨by simp [bvs], fun h => by omega⟩
    · have := rdb_drop hr (k := k) (c := l.length + k + 1) (by omega) (by omega)
      rw [if_neg (by omega), show l.length - k = m by omega] at this
      exact this
  refine ⟨A', m, c', hb.set_ 0 _, Rd.mod h4 ((Mod.refl (only g) w).set_only 0 _) ?_, hqd, by omega, hlt, hB⟩
  intro j hj hg
  exact hB (hg ▸ hlt j hj)
set_option maxRecDepth 100000 in
theorem rtext_ok (w : World) (g B e : Nat) (l : List UInt8) (most : Int) (h : Rdr w g B l e) (hmost : most ≤ 9223372036854775807) : Calls Tryz.prog 70 #[.pointer (some ⟨g, 0, none⟩), .int .i64 most] w (TPost w g B (rt most l e)) := by
  obtain ⟨v, e1, r, hrn⟩ : ∃ v e1 r, rg 0 most l e = (v, e1, r) := ⟨_, _, _, rfl⟩
  have hc := range_ok w g B e l 0 most h
  have hr : rt most l e = if e1 ≠ 0 then ([], e1, r) else if (r.length : Int) < v then ([], 4, []) else (r.take v.toNat, 0, r.drop v.toNat) := by unfold rt; rw [hrn]
  rw [hrn] at hc
  by_cases he : e1 = 0
  · subst he
    have hv := rg_bound hrn
    obtain ⟨k, rfl⟩ : ∃ k : Nat, v = (k : Int) := ⟨v.toNat, by omega⟩
    have hk : k ≤ 9223372036854775807 := by omega
    clear hv
    replace hc := Lib.hid hc
    replace hr := Lib.hid hr
    replace hrn := Lib.hid hrn
    go_enter Tryz.func70, Tryz.ntmps70
    go_wp2_with fail
    refine hc.out.mono ?_
    rintro en w1 ⟨rfl, hR, hm⟩
    dsimp only at hR ⊢
    have hall := Lib.hid hR
    obtain ⟨A, n, c, hb, hrd, hnc, hcm, hA, hB⟩ := hR
    obtain ⟨h1, h2, h3, h4⟩ := hb.two
    have hl := hrd.len
    subst hl
    replace hb := Lib.hid hb
    replace hrd := Lib.hid hrd
    replace hA := Lib.hid hA
    replace hm := Lib.hid hm
    by_cases c1 : r.length < k
    · go_wp2_with fail
      refine (fail_r _ g B 4 _ _ hall.out).mono ?_
      rintro en w2 ⟨rfl, hR2, hm2⟩
      replace hR2 := Lib.hid hR2
      replace hm2 := Lib.hid hm2
      go_wp2_with fail
      go_ret2
      rw [hr.out, if_neg (by omega), if_pos (by omega)]
      exact ⟨rfl, hR2.out, hm.out.trans hm2.out⟩
    · obtain ⟨q, hq⟩ : ∃ q, r.length = k + q := ⟨r.length - k, by omega⟩
      obtain ⟨d, rfl⟩ : ∃ d, c = k + d := ⟨c - k, by omega⟩
      have hfin := Lib.hid (@rest_gen w1 g B A _ _ r k q d hb.out hrd.out hA.out hB hq (by omega) (by omega))
      have hlt0 : decide (((k : Nat) : Int) + ((q : Nat) : Int) < ((k : Nat) : Int)) = false := by simp; omega
      by_cases d0 : d = 0
      · subst d0
        have hcv := run_string_of_bytes (P := Tryz.prog) w1 22 9 5 Tryz.underlying22 Tryz.underlying5 Tryz.underlying9 A k k (r.take k) (rdb_take hrd.out (by omega))
        go_wp2_with fail
        go_ret2
        rw [hr.out, if_neg (by omega), if_neg (by omega)]
        exact ⟨rfl, hfin.out _ _ _ (.inl ⟨rfl, by simp⟩) (by omega) (by omega), hm.out.set_only 0 _⟩
      · have hcv := run_string_of_bytes (P := Tryz.prog) w1 22 9 5 Tryz.underlying22 Tryz.underlying5 Tryz.underlying9 A k (k + d) (r.take k) (rdb_take hrd.out (by omega))
        go_wp2_with fail
        go_ret2
        rw [hr.out, if_neg (by omega), if_neg (by omega)]
        exact ⟨rfl, hfin.out _ _ _ (.inr rfl) (by omega) (by omega), hm.out.set_only 0 _⟩
  · have he1 : ((e1 : Int) != 0) = true := by simp; omega
    replace hc := Lib.hid hc
    replace hr := Lib.hid hr
    replace hrn := Lib.hid hrn
    go_enter Tryz.func70, Tryz.ntmps70
    go_wp2_with fail
    refine hc.out.mono ?_
    rintro en w1 ⟨rfl, hR, hm⟩
    dsimp only at hR ⊢
    replace hR := Lib.hid hR
    replace hm := Lib.hid hm
    go_wp2_with fail
    go_ret2
    rw [hr.out, if_pos he]
    exact ⟨rfl, hR.out, hm.out⟩
end Go.Proofs.YtdnbclhidpkpgaaGreat
/-
  The contract of pack.Reader.Nums. No condition.
-/
namespace Go.Proofs.YtdnbclhidpkpgaaGreat
set_option linter.unusedVariables false
set_option linter.unusedSimpArgs false
open Go.RowKit
/-- The next k numbers, behind some. -/
def rnl : Nat → List Int → List UInt8 → List Int × Nat × List UInt8
  | 0, pre, l => (pre, 0, l)
  | k + 1, pre, l => if (rn l 0).2.1 ≠ 0 then ([], (rn l 0).2) else rnl k (pre ++ [(rn l 0).1]) (rn l 0).2.2
/-- What Nums tells. -/
def rns (most : Int) (l : List UInt8) (e : Nat) : List Int × Nat × List UInt8 :=
  if (rg 0 most l e).2.1 ≠ 0 then ([], (rg 0 most l e).2) else rnl (rg 0 most l e).1.toNat [] (rg 0 most l e).2.2
def LPost (w : World) (g B : Nat) (r : List Int × Nat × List UInt8) (en : Ending) (w' : World) : Prop :=
  ∃ A n c, en = .returned (.tuple #[.slice A n c, .int .i64 (r.2.1 : Int)]) ∧ OwI w' A n c r.1 ∧ Fresh w A ∧ Rdr w' g B r.2.2 r.2.1 ∧ Mod (only g) w w'
theorem RPost.zero {w : World} {g B : Nat} {v : Int} {r : List UInt8} {en : Ending} {w' : World} (h : RPost w g B (v, 0, r) en w') : en = .returned (.tuple #[.int .i64 v, .int .i64 0]) ∧ Rdr w' g B r 0 ∧ Mod (only g) w w' := h
def NsRel (w : World) (g B k : Nat) (l0 : List UInt8) (i : Nat) (v : Value) (wr : World) : Prop :=
  ∃ A t c pre l, v = .slice A t c ∧ OwI wr A t c pre ∧ Fresh w A ∧ Mod (only g) w wr ∧ Rdr wr g B l 0 ∧ rnl (k - i) pre l = rnl k [] l0 ∧ t = i
theorem Fresh.not_only {w : World} {A : Option Addr} (h : Fresh w A) {g : Nat} (hg : g < w.heap.size) : ∀ k, fp A k → ¬ only g k := by
  rintro k ⟨a, ha, rfl⟩ hk
  have := h a ha
  unfold only at hk
  omega
theorem Fresh.not_fp {w : World} {A : Option Addr} (h : Fresh w A) {g : Nat} (hg : g < w.heap.size) : ¬ fp A g := by
  rintro ⟨a, ha, rfl⟩
  have := h a ha
  omega
end Go.Proofs.YtdnbclhidpkpgaaGreat
/-
  The plain laws of chapter 2: what is read is written so; cut it is torn; what is written is read. No condition.
-/
namespace Go.Proofs.YtdnbclhidpkpgaaGreat
set_option linter.unusedVariables false
set_option linter.unusedSimpArgs false
theorem rn_err {l : List UInt8} {v : Int} {e : Nat} {r : List UInt8} (h : rn l 0 = (v, e, r)) (he : e ≠ 0) : r = [] := by
  unfold rn at h
  rw [if_neg (by omega)] at h
  by_cases h1 : (rdNum l).1 = 0
  · rw [if_pos h1] at h; simp only [Prod.mk.injEq] at h; omega
  · rw [if_neg h1] at h; simp only [Prod.mk.injEq] at h; exact h.2.2.symm
theorem rn_yes {l : List UInt8} {v : Int} {r : List UInt8} (h : rn l 0 = (v, 0, r)) : ∃ k, 0 < k ∧ k ≤ l.length ∧ r = l.drop k ∧ l.take k = vb (zig v) ∧ -9223372036854775808 ≤ v ∧ v ≤ 9223372036854775807 ∧ rdNum l = (0, zig v, k) := by
  unfold rn at h
  rw [if_neg (by omega)] at h
  by_cases h1 : (rdNum l).1 = 0
  · rw [if_pos h1] at h
    obtain ⟨c, m, k, hr⟩ : ∃ c m k, rdNum l = (c, m, k) := ⟨_, _, _, rfl⟩
    rw [hr] at h h1
    simp only at h h1
    subst h1
    simp only [Prod.mk.injEq, true_and] at h
    obtain ⟨rfl, rfl⟩ := h
    obtain ⟨a1, a2, a3, a4⟩ := rdNum_once hr
    have hb := unzig_in a4
    exact ⟨k, a1, a2, rfl, by rw [zig_unzig]; exact a3, hb.1, hb.2, by rw [zig_unzig]; exact hr⟩
  · rw [if_neg h1] at h; simp only [Prod.mk.injEq] at h; omega
theorem rn_of {l : List UInt8} {v : Int} {t : List UInt8} (h1 : -9223372036854775808 ≤ v) (h2 : v ≤ 9223372036854775807) (hl : l = vb (zig v) ++ t) : rn l 0 = (v, 0, t) := by
  have h := rdNum_vb (zig v) t (by have := zig_lt h1 h2; simpa using this)
  rw [← hl] at h
  unfold rn
  rw [if_neg (by omega), h]
  simp only [if_true, unzig_zig]
  rw [hl, List.drop_left]
theorem rn_cut {l : List UInt8} {v : Int} {k j : Nat} (h : rdNum l = (0, zig v, k)) (hj : j < k) : rn (l.take j) 0 = (0, 4, []) := by
  unfold rn
  rw [if_neg (by omega), rdNum_cut h hj]
  simp
theorem rnl_err : ∀ (n : Nat) (pre xs : List Int) (l : List UInt8) (e : Nat) (r : List UInt8), rnl n pre l = (xs, e, r) → e ≠ 0 → xs = [] ∧ r = [] := by
  intro n
  induction n with
  | zero => intro pre xs l e r h he; simp only [rnl, Prod.mk.injEq] at h; omega
  | succ n ih =>
    intro pre xs l e r h he
    simp only [rnl] at h
    by_cases h1 : (rn l 0).2.1 ≠ 0
    · rw [if_pos h1] at h
      simp only [Prod.mk.injEq] at h
      obtain ⟨a, b, c, hr⟩ : ∃ a b c, rn l 0 = (a, b, c) := ⟨_, _, _, rfl⟩
      rw [hr] at h h1
      exact ⟨h.1.symm, by rw [← (by simpa using congrArg (·.2) h.2 : c = r)]; exact rn_err hr h1⟩
    · rw [if_neg h1] at h
      exact ih _ _ _ _ _ h he
theorem rns_err {most : Int} {l : List UInt8} {xs : List Int} {e : Nat} {r : List UInt8} (h : rns most l 0 = (xs, e, r)) (he : e ≠ 0) : xs = [] ∧ r = [] := by
  unfold rns at h
  by_cases h1 : (rg 0 most l 0).2.1 ≠ 0
  · rw [if_pos h1] at h
    simp only [Prod.mk.injEq] at h
    refine ⟨h.1.symm, ?_⟩
    have h2 := h.2
    unfold rg at h2 h1
    by_cases h3 : (rn l 0).2.1 ≠ 0
    · rw [if_pos h3] at h2
      obtain ⟨a, b, c, hr⟩ : ∃ a b c, rn l 0 = (a, b, c) := ⟨_, _, _, rfl⟩
      rw [hr] at h2 h3
      have := rn_err hr h3
      rw [this] at h2
      exact (by simpa using congrArg (·.2) h2 : [] = r).symm
    · rw [if_neg h3] at h2 h1
      by_cases h4 : (rn l 0).1 < 0 ∨ most < (rn l 0).1
      · rw [if_pos h4] at h2
        exact (by simpa using congrArg (·.2) h2 : [] = r).symm
      · rw [if_neg h4] at h1
        exact absurd h1 h3
  · rw [if_neg h1] at h
    exact rnl_err _ _ _ _ _ _ h he
theorem rnl_yes : ∀ (n : Nat) (pre xs : List Int) (l : List UInt8) (r : List UInt8), rnl n pre l = (xs, 0, r) → ∃ ys k, xs = pre ++ ys ∧ ys.length = n ∧ k ≤ l.length ∧ r = l.drop k ∧ l.take k = ys.flatMap (fun x => vb (zig x)) ∧ i64In ys ∧
    (∀ j, j < k → ∀ q, (rnl n q (l.take j)).2.1 = 4) := by
  intro n
  induction n with
  | zero =>
    intro pre xs l r h
    simp only [rnl, Prod.mk.injEq] at h
    obtain ⟨rfl, _, rfl⟩ := h
    exact ⟨[], 0, by simp, rfl, by omega, by simp, by simp, by simp [i64In], fun j hj => by omega⟩
  | succ n ih =>
    intro pre xs l r h
    obtain ⟨v, e, l1, hr⟩ : ∃ v e l1, rn l 0 = (v, e, l1) := ⟨_, _, _, rfl⟩
    simp only [rnl, hr] at h
    by_cases h1 : e ≠ 0
    · rw [if_pos h1] at h; simp only [Prod.mk.injEq] at h; omega
    · rw [if_neg h1] at h
      have : e = 0 := by omega
      subst this
      obtain ⟨k1, a1, a2, rfl, a4, a5, a6, a7⟩ := rn_yes hr
      obtain ⟨ys, k2, b1, b2, b3, b4, b5, b6, b7⟩ := ih _ _ _ _ h
      rw [List.length_drop] at b3
      refine ⟨v :: ys, k1 + k2, by rw [b1]; simp, by simp [b2], by omega, by rw [b4, List.drop_drop], ?_, ?_, ?_⟩
      · rw [List.take_add, b5, a4]; simp
      · intro x hx
        rcases List.mem_cons.1 hx with rfl | hx
        · exact ⟨a5, a6⟩
        · exact b6 x hx
      · intro j hj q
        by_cases hjk : j < k1
        · simp only [rnl, rn_cut a7 hjk]; simp
        · have e1 : l.take j = vb (zig v) ++ (l.drop k1).take (j - k1) := by
            rw [← a4, ← List.take_add, show k1 + (j - k1) = j by omega]
          simp only [rnl, rn_of a5 a6 e1]
          rw [if_neg (by omega)]
          exact b7 _ (by omega) _
/-- PackOnce's heart. -/
theorem rns_yes {most : Int} {l : List UInt8} {xs : List Int} {r : List UInt8} (h : rns most l 0 = (xs, 0, r)) :
    ∃ k, 0 < k ∧ k ≤ l.length ∧ r = l.drop k ∧ l.take k = numsB xs ∧ i64In xs ∧ (xs.length : Int) ≤ most ∧ ∀ j, j < k → (rns most (l.take j) 0).2.1 = 4 := by
  obtain ⟨v, e, l1, hr⟩ : ∃ v e l1, rg 0 most l 0 = (v, e, l1) := ⟨_, _, _, rfl⟩
  unfold rns at h
  rw [hr] at h
  by_cases h1 : e ≠ 0
  · rw [if_pos h1] at h; simp only [Prod.mk.injEq] at h; omega
  · rw [if_neg h1] at h
    have : e = 0 := by omega
    subst this
    have hb := rg_bound hr
    have hrn : rn l 0 = (v, 0, l1) := by
      unfold rg at hr
      by_cases h3 : (rn l 0).2.1 ≠ 0
      · rw [if_pos h3] at hr
        exfalso
        exact h3 (congrArg (·.2.1) hr)
      · rw [if_neg h3] at hr
        by_cases h4 : (rn l 0).1 < 0 ∨ most < (rn l 0).1
        · rw [if_pos h4] at hr; simp at hr
        · rw [if_neg h4] at hr; exact hr
    obtain ⟨k1, a1, a2, rfl, a4, a5, a6, a7⟩ := rn_yes hrn
    obtain ⟨ys, k2, b1, b2, b3, b4, b5, b6, b7⟩ := rnl_yes _ _ _ _ _ h
    simp only [List.nil_append] at b1
    subst b1
    rw [List.length_drop] at b3
    have hlen : (xs.length : Int) = v := by rw [b2]; simp only; omega
    refine ⟨k1 + k2, by omega, by omega, by rw [b4, List.drop_drop], ?_, b6, by omega, ?_⟩
    · rw [List.take_add, b5, a4, numsB, hlen]
    · intro j hj
      unfold rns rg
      by_cases hjk : j < k1
      · rw [rn_cut a7 hjk]; simp
      · have e1 : l.take j = vb (zig v) ++ (l.drop k1).take (j - k1) := by
          rw [← a4, ← List.take_add, show k1 + (j - k1) = j by omega]
        rw [rn_of a5 a6 e1]
        simp only
        rw [if_neg (by omega : ¬ (v < 0 ∨ most < v))]
        simp only [ne_eq, not_true_eq_false, if_false]
        exact b7 _ (by omega) _
end Go.Proofs.YtdnbclhidpkpgaaGreat
/-
  The plain codec: what the readers of orders, records and messages read, and what is written; there and back. No condition.
-/
namespace Go.Proofs.YtdnbclhidpkpgaaGreat
set_option linter.unusedVariables false
set_option linter.unusedSimpArgs false
abbrev RS := Nat × List UInt8
abbrev PR (α : Type) := RS → α × RS
def bd {α β : Type} (p : PR α) (f : α → PR β) : PR β := fun s => f (p s).1 (p s).2
def pu {α : Type} (x : α) : PR α := fun s => (x, s)
def qn : PR Int := fun s => rn s.2 s.1
def qg (lo hi : Int) : PR Int := fun s => rg lo hi s.2 s.1
def qt (most : Int) : PR (List UInt8) := fun s => rt most s.2 s.1
def nb (n : Int) : List UInt8 := vb (zig n)
def in64 (n : Int) : Prop := -9223372036854775808 ≤ n ∧ n ≤ 9223372036854775807
theorem tri_ {α β γ : Type} (x : α × β × γ) : ∃ p e t, x = (p, e, t) := ⟨x.1, x.2.1, x.2.2, rfl⟩
theorem duo_ {α β : Type} (x : α × β) : ∃ p e, x = (p, e) := ⟨x.1, x.2, rfl⟩
theorem nb_len (n : Int) : (nb n).length ≤ 10 := vb_len _
theorem txtB_len (s : List UInt8) : (txtB s).length ≤ s.length + 10 := by
  unfold txtB; rw [List.length_append]; have := vb_len (zig (s.length : Int)); omega
theorem bd_inv {α β : Type} {p : PR α} {f : α → PR β} {s : RS} {v : β} {e : Nat} {t : List UInt8} (h : bd p f s = (v, e, t)) : ∃ a s', p s = (a, s') ∧ f a s' = (v, e, t) := ⟨_, _, rfl, h⟩
theorem bd_of {α β : Type} {p : PR α} {f : α → PR β} {s s' : RS} {a : α} (h : p s = (a, s')) : bd p f s = f a s' := by unfold bd; rw [h]
theorem qn_exact {s : RS} {v : Int} {t : List UInt8} (h : qn s = (v, 0, t)) : s = (0, nb v ++ t) ∧ in64 v := by
  obtain ⟨e, l⟩ := s
  unfold qn at h
  dsimp only at h
  have he : e = 0 := by
    rcases Nat.eq_zero_or_pos e with h1 | h1
    · exact h1
    · unfold rn at h
      rw [if_pos (by omega)] at h
      simp only [Prod.mk.injEq] at h
      omega
  subst he
  obtain ⟨k, _, h2, rfl, h4, h5, h6, _⟩ := rn_yes h
  refine ⟨?_, h5, h6⟩
  unfold nb
  rw [← h4, List.take_append_drop]
theorem qn_reads {v : Int} (t : List UInt8) (h : in64 v) : qn (0, nb v ++ t) = (v, 0, t) := rn_of h.1 h.2 rfl
theorem qg_exact {lo hi : Int} {s : RS} {v : Int} {t : List UInt8} (h : qg lo hi s = (v, 0, t)) : s = (0, nb v ++ t) ∧ lo ≤ v ∧ v ≤ hi := by
  have hb := rg_bound h
  refine ⟨?_, hb⟩
  have : qn s = (v, 0, t) := by
    unfold qg rg at h
    unfold qn
    by_cases h1 : (rn s.2 s.1).2.1 ≠ 0
    · rw [if_pos h1] at h
      exact absurd (congrArg (·.2.1) h) h1
    · rw [if_neg h1] at h
      by_cases h2 : (rn s.2 s.1).1 < lo ∨ hi < (rn s.2 s.1).1
      · rw [if_pos h2] at h; simp at h
      · rw [if_neg h2] at h; exact h
  exact (qn_exact this).1
theorem qg_reads {lo hi v : Int} (t : List UInt8) (h1 : lo ≤ v) (h2 : v ≤ hi) (h3 : in64 v) : qg lo hi (0, nb v ++ t) = (v, 0, t) := by
  have := qn_reads t h3
  unfold qn at this
  unfold qg rg
  dsimp only at this ⊢
  rw [this]
  dsimp only
  rw [if_neg (by omega), if_neg (by omega)]
theorem qt_exact {most : Int} {s : RS} {v t : List UInt8} (h : qt most s = (v, 0, t)) : s = (0, txtB v ++ t) ∧ (v.length : Int) ≤ most := by
  unfold qt rt at h
  obtain ⟨k, e, r, hr⟩ : ∃ k e r, rg 0 most s.2 s.1 = (k, e, r) := ⟨_, _, _, rfl⟩
  rw [hr] at h
  dsimp only at h
  by_cases h1 : e ≠ 0
  · rw [if_pos h1] at h; simp only [Prod.mk.injEq] at h; omega
  · rw [if_neg h1] at h
    obtain rfl : e = 0 := by omega
    by_cases h2 : (r.length : Int) < k
    · rw [if_pos h2] at h; simp at h
    · rw [if_neg h2] at h
      obtain ⟨h3, h4, h5⟩ := qg_exact (s := s) hr
      simp only [Prod.mk.injEq, true_and] at h
      obtain ⟨rfl, rfl⟩ := h
      have hl : (r.take k.toNat).length = k.toNat := by rw [List.length_take]; omega
      refine ⟨?_, by omega⟩
      rw [h3]
      unfold txtB
      rw [hl, show ((k.toNat : Nat) : Int) = k by omega, List.append_assoc, List.take_append_drop]
      rfl
theorem qt_reads {most : Int} {v : List UInt8} (t : List UInt8) (h : (v.length : Int) ≤ most) (hm : most ≤ 1000000) : qt most (0, txtB v ++ t) = (v, 0, t) := by
  have := qg_reads (lo := 0) (hi := most) (v := (v.length : Int)) (v ++ t) (by omega) h ⟨by omega, by omega⟩
  unfold qg at this
  unfold qt rt txtB
  dsimp only at this ⊢
  rw [List.append_assoc]
  unfold nb at this
  rw [this]
  dsimp only
  rw [if_neg (by omega), if_neg (by rw [List.length_append]; omega)]
  simp
/-- so many, one behind the other -/
def rdList {α : Type} (p : PR α) : Nat → PR (List α)
  | 0 => pu []
  | n + 1 => bd p fun x => bd (rdList p n) fun xs => pu (x :: xs)
theorem rdList_exact {α : Type} {p : PR α} {enc : α → List UInt8} {ok : α → Prop} (hp : ∀ s v t, p s = (v, 0, t) → s = (0, enc v ++ t) ∧ ok v) :
    ∀ (n : Nat) (s : RS) (vs : List α) (t : List UInt8), rdList p n s = (vs, 0, t) → s = (0, vs.flatMap enc ++ t) ∧ vs.length = n ∧ ∀ v ∈ vs, ok v := by
  intro n
  induction n with
  | zero =>
    intro s vs t h
    simp only [rdList, pu, Prod.mk.injEq] at h
    obtain ⟨rfl, h⟩ := h
    exact ⟨by rw [h]; simp, rfl, fun v hv => by cases hv⟩
  | succ n ih =>
    intro s vs t h
    obtain ⟨x, s1, h1, h⟩ := bd_inv h
    obtain ⟨xs, s2, h2, h⟩ := bd_inv h
    simp only [pu, Prod.mk.injEq] at h
    obtain ⟨rfl, rfl⟩ := h
    obtain ⟨rfl, h3, h4⟩ := ih _ _ _ h2
    obtain ⟨rfl, h5⟩ := hp _ _ _ h1
    refine ⟨by simp, by simp [h3], fun v hv => ?_⟩
    rcases List.mem_cons.1 hv with rfl | hv
    · exact h5
    · exact h4 v hv
theorem rdList_reads {α : Type} {p : PR α} {enc : α → List UInt8} {ok : α → Prop} (hp : ∀ v t, ok v → p (0, enc v ++ t) = (v, 0, t)) :
    ∀ (vs : List α) (t : List UInt8), (∀ v ∈ vs, ok v) → rdList p vs.length (0, vs.flatMap enc ++ t) = (vs, 0, t) := by
  intro vs
  induction vs with
  | nil => intro t _; rfl
  | cons x xs ih =>
    intro t h
    simp only [List.length_cons, rdList, List.flatMap_cons, List.append_assoc]
    rw [bd_of (hp x _ (h x (by simp))), bd_of (ih t fun v hv => h v (by simp [hv]))]
    rfl
/-- one step of a loop that reads a list -/
theorem rdList_step {α : Type} {p : PR α} {n : Nat} {s s1 r2 : RS} {x : α} {pre all : List α} {rest : List α} (h1 : p s = (x, s1)) (h2 : rdList p (n + 1) s = (rest, r2)) (h3 : pre ++ rest = all) :
    ∃ rest', rdList p n s1 = (rest', r2) ∧ (pre ++ [x]) ++ rest' = all := by
  unfold rdList at h2
  rw [bd_of h1] at h2
  obtain ⟨xs, s2, h4⟩ : ∃ xs s2, rdList p n s1 = (xs, s2) := ⟨_, _, rfl⟩
  rw [bd_of h4] at h2
  simp only [pu, Prod.mk.injEq] at h2
  obtain ⟨rfl, rfl⟩ := h2
  exact ⟨xs, h4, by rw [← h3]; simp⟩

/- ORDERS -/
def legB (l : Lg) : List UInt8 := txtB l.n ++ nb l.x
def orderB (o : Od) : List UInt8 :=
  nb o.c ++ (nb o.s ++ (nb o.k ++ (txtB o.acct ++ (txtB o.peer ++ (nb o.sum ++ (nb (o.legs.length : Int) ++ (o.legs.flatMap legB ++ (nb o.per ++ (nb o.hold ++ txtB o.note)))))))))
def rdLeg : PR Lg := bd (qt 8) fun n => bd qn fun x => pu ⟨n, x⟩
def okLg (l : Lg) : Prop := l.n.length ≤ 8 ∧ in64 l.x
theorem rdLeg_exact (s : RS) (v : Lg) (t : List UInt8) (h : rdLeg s = (v, 0, t)) : s = (0, legB v ++ t) ∧ okLg v := by
  unfold rdLeg at h
  obtain ⟨n, s1, h1, h⟩ := bd_inv h
  obtain ⟨x, s2, h2, h⟩ := bd_inv h
  simp only [pu, Prod.mk.injEq] at h
  obtain ⟨rfl, rfl⟩ := h
  obtain ⟨rfl, h3⟩ := qn_exact h2
  obtain ⟨rfl, h4⟩ := qt_exact h1
  exact ⟨by unfold legB; simp, by dsimp only; omega, h3⟩
theorem rdLeg_reads (v : Lg) (t : List UInt8) (h : okLg v) : rdLeg (0, legB v ++ t) = (v, 0, t) := by
  unfold rdLeg legB
  rw [List.append_assoc, bd_of (qt_reads _ (by have := h.1; omega) (by omega)), bd_of (qn_reads _ h.2)]
  rfl
def rdO : PR Od := bd (qg 0 9) fun c => bd (qg 0 999) fun s => bd (qg 0 7) fun k => bd (qt 8) fun a => bd (qt 8) fun p => bd qn fun x => bd (qg 0 6) fun n =>
  bd (rdList rdLeg n.toNat) fun ls => bd (qg 0 1000) fun per => bd (qg 0 9999) fun hold => bd (qt 20) fun note => pu ⟨c, s, k, a, p, x, ls, per, hold, note⟩
def okOd (o : Od) : Prop := (0 ≤ o.c ∧ o.c ≤ 9) ∧ (0 ≤ o.s ∧ o.s ≤ 999) ∧ (0 ≤ o.k ∧ o.k ≤ 7) ∧ o.acct.length ≤ 8 ∧ o.peer.length ≤ 8 ∧ in64 o.sum ∧ o.legs.length ≤ 6 ∧ (∀ l ∈ o.legs, okLg l) ∧ (0 ≤ o.per ∧ o.per ≤ 1000) ∧ (0 ≤ o.hold ∧ o.hold ≤ 9999) ∧ o.note.length ≤ 20
theorem in64_of {lo hi v : Int} (h1 : lo ≤ v) (h2 : v ≤ hi) (h3 : -9223372036854775808 ≤ lo) (h4 : hi ≤ 9223372036854775807) : in64 v := ⟨by omega, by omega⟩
theorem rdO_exact (s : RS) (o : Od) (t : List UInt8) (h : rdO s = (o, 0, t)) : s = (0, orderB o ++ t) ∧ okOd o := by
  unfold rdO at h
  obtain ⟨c, s1, h1, h⟩ := bd_inv h
  obtain ⟨q, s2, h2, h⟩ := bd_inv h
  obtain ⟨k, s3, h3, h⟩ := bd_inv h
  obtain ⟨a, s4, h4, h⟩ := bd_inv h
  obtain ⟨p, s5, h5, h⟩ := bd_inv h
  obtain ⟨x, s6, h6, h⟩ := bd_inv h
  obtain ⟨n, s7, h7, h⟩ := bd_inv h
  obtain ⟨ls, s8, h8, h⟩ := bd_inv h
  obtain ⟨per, s9, h9, h⟩ := bd_inv h
  obtain ⟨hold, s10, h10, h⟩ := bd_inv h
  obtain ⟨note, s11, h11, h⟩ := bd_inv h
  simp only [pu, Prod.mk.injEq] at h
  obtain ⟨rfl, rfl⟩ := h
  obtain ⟨rfl, k11⟩ := qt_exact h11
  obtain ⟨rfl, k10⟩ := qg_exact h10
  obtain ⟨rfl, k9⟩ := qg_exact h9
  obtain ⟨rfl, k8, k8'⟩ := rdList_exact rdLeg_exact _ _ _ _ h8
  obtain ⟨rfl, k7⟩ := qg_exact h7
  obtain ⟨rfl, k6⟩ := qn_exact h6
  obtain ⟨rfl, k5⟩ := qt_exact h5
  obtain ⟨rfl, k4⟩ := qt_exact h4
  obtain ⟨rfl, k3⟩ := qg_exact h3
  obtain ⟨rfl, k2⟩ := qg_exact h2
  obtain ⟨rfl, k1⟩ := qg_exact h1
  refine ⟨?_, k1, k2, k3, by dsimp only; omega, by dsimp only; omega, k6, by dsimp only; omega, k8', k9, k10, by dsimp only; omega⟩
  have e : ((ls.length : Nat) : Int) = n := by rw [k8]; omega
  unfold orderB
  dsimp only
  rw [e]
  simp only [List.append_assoc]
theorem rdO_reads (o : Od) (t : List UInt8) (h : okOd o) : rdO (0, orderB o ++ t) = (o, 0, t) := by
  obtain ⟨h1, h2, h3, h4, h5, h6, h7, h8, h9, h10, h11⟩ := h
  unfold rdO orderB
  simp only [List.append_assoc]
  rw [bd_of (qg_reads _ h1.1 h1.2 (in64_of h1.1 h1.2 (by decide) (by decide))), bd_of (qg_reads _ h2.1 h2.2 (in64_of h2.1 h2.2 (by decide) (by decide))), bd_of (qg_reads _ h3.1 h3.2 (in64_of h3.1 h3.2 (by decide) (by decide))),
    bd_of (qt_reads _ (by omega) (by omega)), bd_of (qt_reads _ (by omega) (by omega)), bd_of (qn_reads _ h6), bd_of (qg_reads _ (by omega) (by omega) ⟨by omega, by omega⟩)]
  rw [show ((o.legs.length : Int)).toNat = o.legs.length by omega, bd_of (rdList_reads rdLeg_reads _ _ h8),
    bd_of (qg_reads _ h9.1 h9.2 (in64_of h9.1 h9.2 (by decide) (by decide))), bd_of (qg_reads _ h10.1 h10.2 (in64_of h10.1 h10.2 (by decide) (by decide))), bd_of (qt_reads _ (by omega) (by omega))]
  rfl
/-- order.Read -/
def rdOrd (b : List UInt8) : Od × Nat :=
  if dn (rdO (0, b)).2.2 (rdO (0, b)).2.1 ≠ 0 ∨ rightO (rdO (0, b)).1 = false then (od0, 3) else ((rdO (0, b)).1, 0)
theorem dn_zero {l : List UInt8} {e : Nat} : dn l e = 0 ↔ e = 0 ∧ l = [] := by
  unfold dn
  by_cases h : e = 0
  · rw [if_neg (by omega)]
    by_cases h2 : 0 < l.length
    · rw [if_pos h2]
      constructor
      · intro h; omega
      · rintro ⟨_, rfl⟩; simp at h2
    · rw [if_neg h2]
      exact ⟨fun _ => ⟨h, List.eq_nil_of_length_eq_zero (by omega)⟩, fun _ => rfl⟩
  · rw [if_pos h]
    exact ⟨fun h1 => absurd h1 h, fun h1 => absurd h1.1 h⟩
theorem nameB_len {l : List UInt8} (h : nameB l = true) : l.length ≤ 8 := by
  unfold nameB at h
  simp only [Bool.and_eq_true, decide_eq_true_eq] at h
  exact h.2
/-- what is in the machine's numbers -/
def numsO (o : Od) : Prop := in64 o.c ∧ in64 o.s ∧ in64 o.k ∧ in64 o.sum ∧ (∀ l ∈ o.legs, in64 l.x) ∧ in64 o.per ∧ in64 o.hold
theorem legsB_ok {ls : List Lg} (h : legsB ls = true) (hn : ∀ l ∈ ls, in64 l.x) : ls.length ≤ 6 ∧ ∀ l ∈ ls, okLg l := by
  unfold legsB at h
  simp only [Bool.and_eq_true, decide_eq_true_eq, List.all_eq_true] at h
  refine ⟨h.2, fun l hl => ⟨?_, hn l hl⟩⟩
  have := h.1.1.1 l hl
  unfold okLeg at this
  rw [Bool.and_eq_true] at this
  exact nameB_len this.1
theorem rightO_okOd {o : Od} (h : rightO o = true) (hn : in64 o.sum ∧ ∀ l ∈ o.legs, in64 l.x) : okOd o := by
  unfold rightO at h
  rw [Bool.and_eq_true] at h
  obtain ⟨h1, h2⟩ := h
  unfold idB at h1
  rw [decide_eq_true_eq] at h1
  unfold kindB at h2
  have z64 : in64 0 := ⟨by omega, by omega⟩
  split at h2
  · rename_i hk
    rw [Bool.and_eq_true, decide_eq_true_eq] at h2
    obtain ⟨he, hf⟩ := h2
    unfold fits1 at hf
    simp only [Bool.and_eq_true, decide_eq_true_eq] at hf
    have hnm := nameB_len hf.1
    rw [he] at hn ⊢
    exact ⟨⟨h1.1, h1.2.1⟩, ⟨by dsimp only [bare1]; omega, h1.2.2.2⟩, ⟨by dsimp only [bare1]; omega, by dsimp only [bare1]; omega⟩, hnm, by simp [bare1], hn.1, by simp [bare1], by simp [bare1], by simp [bare1], by simp [bare1], by simp [bare1]⟩
  · split at h2
    · rename_i hk
      rw [Bool.and_eq_true, decide_eq_true_eq] at h2
      obtain ⟨he, hf⟩ := h2
      unfold fits2 periodB at hf
      simp only [Bool.and_eq_true, decide_eq_true_eq] at hf
      obtain ⟨hl1, hl2⟩ := legsB_ok hf.1 hn.2
      obtain ⟨hp, hno⟩ := hf.2
      rw [he]
      exact ⟨⟨h1.1, h1.2.1⟩, ⟨by dsimp only [bare2]; omega, h1.2.2.2⟩, ⟨by dsimp only [bare2]; omega, by dsimp only [bare2]; omega⟩, by simp [bare2], by simp [bare2], z64, hl1, hl2, by dsimp only [bare2]; omega, by simp [bare2], hno⟩
    · split at h2
      · rename_i hk
        rw [Bool.and_eq_true, decide_eq_true_eq] at h2
        obtain ⟨he, hf⟩ := h2
        unfold fits3 at hf
        simp only [Bool.and_eq_true, decide_eq_true_eq] at hf
        have hnm := nameB_len hf.1
        rw [he] at hn ⊢
        exact ⟨⟨h1.1, h1.2.1⟩, ⟨by dsimp only [bare3]; omega, h1.2.2.2⟩, ⟨by dsimp only [bare3]; omega, by dsimp only [bare3]; omega⟩, hnm, by simp [bare3], hn.1, by simp [bare3], by simp [bare3], by simp [bare3], by simp [bare3], by simp [bare3]⟩
      · split at h2
        · rename_i hk
          rw [Bool.and_eq_true, decide_eq_true_eq] at h2
          obtain ⟨he, hf⟩ := h2
          unfold fits4 heldB periodB at hf
          simp only [Bool.and_eq_true, decide_eq_true_eq] at hf
          have hnm := nameB_len hf.1
          have hpm := nameB_len hf.2.1
          obtain ⟨_, _, hh, hp⟩ := hf.2.2
          rw [he] at hn ⊢
          exact ⟨⟨h1.1, h1.2.1⟩, ⟨by dsimp only [bare4]; omega, h1.2.2.2⟩, ⟨by dsimp only [bare4]; omega, by dsimp only [bare4]; omega⟩, hnm, hpm, hn.1, by simp [bare4], by simp [bare4], by dsimp only [bare4]; omega, by dsimp only [bare4]; omega, by simp [bare4]⟩
        · split at h2
          · rename_i hk
            rw [Bool.and_eq_true, decide_eq_true_eq] at h2
            obtain ⟨he, hf⟩ := h2
            unfold fits5 heldB at hf
            simp only [Bool.and_eq_true, decide_eq_true_eq] at hf
            have hnm := nameB_len hf.1
            have hh := hf.2
            rw [he]
            exact ⟨⟨h1.1, h1.2.1⟩, ⟨by dsimp only [bare5]; omega, h1.2.2.2⟩, ⟨by dsimp only [bare5]; omega, by dsimp only [bare5]; omega⟩, hnm, by simp [bare5], z64, by simp [bare5], by simp [bare5], by simp [bare5], by dsimp only [bare5]; omega, by simp [bare5]⟩
          · split at h2
            · rename_i hk
              rw [Bool.and_eq_true, decide_eq_true_eq] at h2
              obtain ⟨he, hf⟩ := h2
              unfold fits6 periodB at hf
              simp only [decide_eq_true_eq] at hf
              rw [he]
              exact ⟨⟨h1.1, h1.2.1⟩, ⟨by dsimp only [bare6]; omega, h1.2.2.2⟩, ⟨by dsimp only [bare6]; omega, by dsimp only [bare6]; omega⟩, by simp [bare6], by simp [bare6], z64, by simp [bare6], by simp [bare6], by dsimp only [bare6]; omega, by simp [bare6], by simp [bare6]⟩
            · split at h2
              · rename_i hk
                rw [Bool.and_eq_true, decide_eq_true_eq] at h2
                obtain ⟨he, hf⟩ := h2
                have hnm := nameB_len hf
                rw [he]
                exact ⟨⟨h1.1, h1.2.1⟩, ⟨by dsimp only [bare7]; omega, h1.2.2.2⟩, ⟨by dsimp only [bare7]; omega, by dsimp only [bare7]; omega⟩, hnm, by simp [bare7], z64, by simp [bare7], by simp [bare7], by simp [bare7], by simp [bare7], by simp [bare7]⟩
              · cases h2
theorem flat_le {α : Type} (f : α → List UInt8) (k : Nat) : ∀ (xs : List α), (∀ x ∈ xs, (f x).length ≤ k) → (xs.flatMap f).length ≤ xs.length * k := by
  intro xs
  induction xs with
  | nil => intro _; simp
  | cons x xs ih =>
    intro h
    rw [List.flatMap_cons, List.length_append, List.length_cons, Nat.succ_mul]
    have := ih fun y hy => h y (by simp [hy])
    have := h x (by simp)
    omega
theorem orderB_len {o : Od} (h : okOd o) : (orderB o).length ≤ 400 := by
  obtain ⟨_, _, _, h4, h5, _, h7, h8, _, _, h11⟩ := h
  have hl := flat_le legB 28 o.legs fun l hl => by
    have := (h8 l hl).1
    have := txtB_len l.n
    have := nb_len l.x
    unfold legB
    rw [List.length_append]; omega
  have := nb_len o.c
  have := nb_len o.s
  have := nb_len o.k
  have := nb_len o.sum
  have := nb_len (o.legs.length : Int)
  have := nb_len o.per
  have := nb_len o.hold
  have := txtB_len o.acct
  have := txtB_len o.peer
  have := txtB_len o.note
  unfold orderB
  simp only [List.length_append]
  omega
/-- There and back. -/
theorem rdOrd_of {o : Od} (h : rightO o = true) (hn : in64 o.sum ∧ ∀ l ∈ o.legs, in64 l.x) : rdOrd (orderB o) = (o, 0) := by
  have := rdO_reads o [] (rightO_okOd h hn)
  rw [List.append_nil] at this
  unfold rdOrd
  rw [this]
  dsimp only
  rw [if_neg]
  rw [h, show dn [] 0 = 0 from rfl]
  simp
/-- Just these bytes. -/
theorem rdOrd_yes {b : List UInt8} {o : Od} (h : rdOrd b = (o, 0)) : rightO o = true ∧ b = orderB o ∧ okOd o := by
  unfold rdOrd at h
  obtain ⟨p, e, t, hr⟩ : ∃ p e t, rdO (0, b) = (p, e, t) := tri_ _
  rw [hr] at h
  dsimp only at h
  by_cases h1 : dn t e ≠ 0 ∨ rightO p = false
  · rw [if_pos h1] at h; simp at h
  · rw [if_neg h1] at h
    simp only [Prod.mk.injEq, and_true] at h
    subst h
    have h2 : dn t e = 0 := Classical.byContradiction fun hh => h1 (.inl hh)
    obtain ⟨rfl, rfl⟩ := dn_zero.1 h2
    obtain ⟨h3, h4⟩ := rdO_exact _ _ _ hr
    simp only [Prod.mk.injEq, List.append_nil, true_and] at h3
    refine ⟨?_, h3, h4⟩
    cases hq : rightO p with
    | true => rfl
    | false => exact absurd (.inr hq) h1
theorem rdOrd_two (b : List UInt8) : (rdOrd b).2 = 0 ∨ rdOrd b = (od0, 3) := by
  unfold rdOrd
  split
  · exact .inr rfl
  · exact .inl rfl
end Go.Proofs.YtdnbclhidpkpgaaGreat
/-
  post.Right.
-/
namespace Go.Proofs.YtdnbclhidpkpgaaGreat
set_option linter.unusedVariables false
set_option linter.unusedSimpArgs false
open Go.RowKit
theorem record_size : (Tryz.prog.info? 37).map (·.size) = some 17 := by kernel_rfl
theorem ret_record {fn : Func} {p : Tmp} (h : fn.results = #[.cell p 37]) {a : Act} {w : World} {R : Ending → World → Prop} (g : Nat) (cs : Array Value) (hp : a.tmps.getD p undef = .pointer (some ⟨g, 0, none⟩))
    (hg : Blk w g 37 cs) (hs : cs.size = 17) (hd : a.defers = []) (hR : R (.returned (.agg cs)) w) : bodyPost Tryz.prog fn R .ret a w :=
  bodyPost_ret (results_cell_row h a.tmps w g _ cs _ _ hp hg Tryz.underlying37 rfl (by rw [hs]; exact record_size)) hd hR
def bareR (r : Rc) : Rc := ⟨r.i, 0, 3, 0, r.e⟩
def endsB (m : Mg) : Bool := decide (0 ≤ m.frm ∧ m.frm ≤ 6 ∧ 0 ≤ m.to ∧ m.to ≤ 6 ∧ ¬ m.frm = m.to)
def kindMB (m : Mg) : Bool := decide (1 ≤ m.kind ∧ m.kind ≤ 9)
def plainB (m : Mg) : Bool := decide (m.r.st = 0 ∧ m.r.by_ = 0 ∧ 0 ≤ m.r.bal ∧ m.r.bal ≤ 1000000)
def rightM (m : Mg) : Bool := endsB m && (kindMB m && (rightR m.r || (plainB m && rightR (bareR m.r))))
end Go.Proofs.YtdnbclhidpkpgaaGreat
/-
  The plain codec of records and messages; there and back. No condition.
-/
namespace Go.Proofs.YtdnbclhidpkpgaaGreat
set_option linter.unusedVariables false
set_option linter.unusedSimpArgs false
/- RECORDS -/
def isB (i : Is) : List UInt8 := nb i.r ++ nb i.n
def rdIs : PR Is := bd (qg 0 6) fun r => bd (qg 0 10000) fun n => pu ⟨r, n⟩
def okIs (i : Is) : Prop := (0 ≤ i.r ∧ i.r ≤ 6) ∧ (0 ≤ i.n ∧ i.n ≤ 10000)
theorem rdIs_exact (s : RS) (v : Is) (t : List UInt8) (h : rdIs s = (v, 0, t)) : s = (0, isB v ++ t) ∧ okIs v := by
  unfold rdIs at h
  obtain ⟨r, s1, h1, h⟩ := bd_inv h
  obtain ⟨n, s2, h2, h⟩ := bd_inv h
  simp only [pu, Prod.mk.injEq] at h
  obtain ⟨rfl, rfl⟩ := h
  obtain ⟨rfl, h3⟩ := qg_exact h2
  obtain ⟨rfl, h4⟩ := qg_exact h1
  exact ⟨by unfold isB; simp, h4, h3⟩
theorem rdIs_reads (v : Is) (t : List UInt8) (h : okIs v) : rdIs (0, isB v ++ t) = (v, 0, t) := by
  unfold rdIs isB
  rw [List.append_assoc, bd_of (qg_reads _ h.1.1 h.1.2 (in64_of h.1.1 h.1.2 (by decide) (by decide))), bd_of (qg_reads _ h.2.1 h.2.2 (in64_of h.2.1 h.2.2 (by decide) (by decide)))]
  rfl
/-- an entry: it, and an error -/
def rdEnO (e : Nat) (o : Od) : PR (En × Nat) := if e ≠ 0 then pu (⟨od0, false, []⟩, e) else bd (qg 0 100) fun k => bd (rdList rdIs k.toNat) fun ds => pu (⟨o, false, ds⟩, 0)
def rdEn : PR (En × Nat) := bd (qg 0 1) fun x => if x = 1 then bd (qg 0 100) fun k => bd (rdList rdIs k.toNat) fun ds => pu (⟨od0, true, ds⟩, 0) else bd (qt 1000) fun s => rdEnO (rdOrd s).2 (rdOrd s).1
def entB (e : En) : List UInt8 := (if e.none then nb 1 else nb 0 ++ txtB (orderB e.o)) ++ (nb (e.deps.length : Int) ++ e.deps.flatMap isB)
def okEn (e : En) : Prop := (if e.none then e.o = od0 else rightO e.o = true ∧ okOd e.o) ∧ e.deps.length ≤ 100 ∧ ∀ d ∈ e.deps, okIs d
theorem rdEn_exact (s : RS) (v : En) (t : List UInt8) (h : rdEn s = ((v, 0), 0, t)) : s = (0, entB v ++ t) ∧ okEn v := by
  unfold rdEn at h
  obtain ⟨x, s1, h1, h⟩ := bd_inv h
  by_cases hx : x = 1
  · rw [if_pos hx] at h
    obtain ⟨k, s2, h2, h⟩ := bd_inv h
    obtain ⟨ds, s3, h3, h⟩ := bd_inv h
    simp only [pu, Prod.mk.injEq] at h
    obtain ⟨⟨rfl, _⟩, rfl⟩ := h
    obtain ⟨rfl, k3, k3'⟩ := rdList_exact rdIs_exact _ _ _ _ h3
    obtain ⟨rfl, k2⟩ := qg_exact h2
    obtain ⟨rfl, k1⟩ := qg_exact h1
    have e : ((ds.length : Nat) : Int) = k := by rw [k3]; omega
    refine ⟨?_, by simp, by dsimp only; omega, k3'⟩
    unfold entB
    dsimp only
    rw [e, hx]
    simp
  · rw [if_neg hx] at h
    obtain ⟨b, s2, h2, h⟩ := bd_inv h
    obtain ⟨o, f, ho⟩ : ∃ o f, rdOrd b = (o, f) := duo_ _
    rw [ho] at h
    dsimp only at h
    unfold rdEnO at h
    by_cases hf : f ≠ 0
    · rw [if_pos hf] at h
      simp only [pu, Prod.mk.injEq] at h
      omega
    · rw [if_neg hf] at h
      obtain rfl : f = 0 := by omega
      obtain ⟨k, s3, h3, h⟩ := bd_inv h
      obtain ⟨ds, s4, h4, h⟩ := bd_inv h
      simp only [pu, Prod.mk.injEq] at h
      obtain ⟨⟨rfl, _⟩, rfl⟩ := h
      obtain ⟨rfl, k4, k4'⟩ := rdList_exact rdIs_exact _ _ _ _ h4
      obtain ⟨rfl, k3⟩ := qg_exact h3
      obtain ⟨rfl, k2⟩ := qt_exact h2
      obtain ⟨rfl, k1⟩ := qg_exact h1
      obtain ⟨r1, rfl, r3⟩ := rdOrd_yes ho
      have e : ((ds.length : Nat) : Int) = k := by rw [k4]; omega
      obtain rfl : x = 0 := by omega
      refine ⟨?_, by simp; exact ⟨r1, r3⟩, by dsimp only; omega, k4'⟩
      unfold entB
      dsimp only
      rw [e]
      simp
theorem rdEn_reads (v : En) (t : List UInt8) (h : okEn v) (hn : in64 v.o.sum ∧ ∀ l ∈ v.o.legs, in64 l.x) : rdEn (0, entB v ++ t) = ((v, 0), 0, t) := by
  obtain ⟨o, nn, ds⟩ := v
  obtain ⟨h1, h2, h3⟩ := h
  dsimp only at h1 h2 h3 hn
  cases nn with
  | true =>
    simp only [if_true] at h1
    subst h1
    unfold rdEn entB
    dsimp only
    simp only [if_true, List.append_assoc]
    rw [bd_of (qg_reads _ (by omega) (by omega) ⟨by omega, by omega⟩), if_pos rfl, bd_of (qg_reads _ (by omega) (by omega) ⟨by omega, by omega⟩), show ((ds.length : Int)).toNat = ds.length by omega, bd_of (rdList_reads rdIs_reads _ _ h3)]
    rfl
  | false =>
    simp only [Bool.false_eq_true, if_false] at h1
    unfold rdEn entB
    dsimp only
    simp only [Bool.false_eq_true, if_false, List.append_assoc]
    have hl := orderB_len h1.2
    rw [bd_of (qg_reads _ (by omega) (by omega) ⟨by omega, by omega⟩), if_neg (by omega), bd_of (qt_reads _ (by omega) (by omega)), rdOrd_of h1.1 hn]
    unfold rdEnO
    dsimp only
    rw [if_neg (by omega), bd_of (qg_reads _ (by omega) (by omega) ⟨by omega, by omega⟩), show ((ds.length : Int)).toNat = ds.length by omega, bd_of (rdList_reads rdIs_reads _ _ h3)]
    rfl
def headB (r : Rc) : List UInt8 := nb r.i.r ++ (nb r.i.n ++ (nb r.bal ++ (nb r.st ++ nb r.by_)))
def recB (r : Rc) : List UInt8 := headB r ++ (if r.st = 0 then [] else entB r.e)
def rdR : PR (Rc × Nat) := bd rdIs fun i => bd (qg 0 1000000) fun bal => bd (qg 0 3) fun st => bd (qg 0 1000000) fun by_ =>
  if st = 0 then pu (⟨i, bal, st, by_, en0⟩, 0) else bd rdEn fun e => pu (⟨i, bal, st, by_, e.1⟩, e.2)
def okRc (r : Rc) : Prop := okIs r.i ∧ (0 ≤ r.bal ∧ r.bal ≤ 1000000) ∧ (0 ≤ r.st ∧ r.st ≤ 3) ∧ (0 ≤ r.by_ ∧ r.by_ ≤ 1000000) ∧ (if r.st = 0 then r.e = en0 else okEn r.e)
theorem rdR_exact (s : RS) (v : Rc) (t : List UInt8) (h : rdR s = ((v, 0), 0, t)) : s = (0, recB v ++ t) ∧ okRc v := by
  unfold rdR at h
  obtain ⟨i, s1, h1, h⟩ := bd_inv h
  obtain ⟨bal, s2, h2, h⟩ := bd_inv h
  obtain ⟨st, s3, h3, h⟩ := bd_inv h
  obtain ⟨by_, s4, h4, h⟩ := bd_inv h
  by_cases hs : st = 0
  · rw [if_pos hs] at h
    simp only [pu, Prod.mk.injEq] at h
    obtain ⟨⟨rfl, _⟩, rfl⟩ := h
    obtain ⟨rfl, k4⟩ := qg_exact h4
    obtain ⟨rfl, k3⟩ := qg_exact h3
    obtain ⟨rfl, k2⟩ := qg_exact h2
    obtain ⟨rfl, k1⟩ := rdIs_exact _ _ _ h1
    refine ⟨?_, k1, k2, k3, k4, by simp [hs]⟩
    unfold recB headB isB
    dsimp only
    rw [if_pos hs]
    simp
  · rw [if_neg hs] at h
    obtain ⟨⟨en, f⟩, s5, h5, h⟩ := bd_inv h
    simp only [pu, Prod.mk.injEq] at h
    obtain ⟨⟨rfl, rfl⟩, rfl⟩ := h
    obtain ⟨rfl, k5⟩ := rdEn_exact _ _ _ h5
    obtain ⟨rfl, k4⟩ := qg_exact h4
    obtain ⟨rfl, k3⟩ := qg_exact h3
    obtain ⟨rfl, k2⟩ := qg_exact h2
    obtain ⟨rfl, k1⟩ := rdIs_exact _ _ _ h1
    refine ⟨?_, k1, k2, k3, k4, by simp [hs]; exact k5⟩
    unfold recB headB isB
    dsimp only
    rw [if_neg hs]
    simp
def numsE (e : En) : Prop := in64 e.o.sum ∧ ∀ l ∈ e.o.legs, in64 l.x
theorem rdR_reads (v : Rc) (t : List UInt8) (h : okRc v) (hn : numsE v.e) : rdR (0, recB v ++ t) = ((v, 0), 0, t) := by
  obtain ⟨i, bal, st, by_, e⟩ := v
  obtain ⟨h1, h2, h3, h4, h5⟩ := h
  dsimp only at h1 h2 h3 h4 h5 hn
  have hh : ∀ u, headB ⟨i, bal, st, by_, e⟩ ++ u = isB i ++ (nb bal ++ (nb st ++ (nb by_ ++ u))) := fun u => by unfold headB isB; simp
  unfold rdR recB
  rw [List.append_assoc, hh, bd_of (rdIs_reads _ _ h1), bd_of (qg_reads _ h2.1 h2.2 (in64_of h2.1 h2.2 (by decide) (by decide))), bd_of (qg_reads _ h3.1 h3.2 (in64_of h3.1 h3.2 (by decide) (by decide))), bd_of (qg_reads _ h4.1 h4.2 (in64_of h4.1 h4.2 (by decide) (by decide)))]
  by_cases hs : st = 0
  · rw [if_pos hs] at h5 ⊢
    subst h5
    dsimp only
    rw [if_pos hs]
    simp [pu]
  · rw [if_neg hs] at h5 ⊢
    dsimp only
    rw [if_neg hs, bd_of (rdEn_reads _ _ h5 hn)]
    rfl
def rc0 : Rc := ⟨⟨0, 0⟩, 0, 0, 0, en0⟩
/-- log.Read -/
def rdRec (b : List UInt8) : Rc × Nat :=
  if (rdR (0, b)).1.2 ≠ 0 ∨ dn (rdR (0, b)).2.2 (rdR (0, b)).2.1 ≠ 0 ∨ rightR (rdR (0, b)).1.1 = false then (rc0, 3) else ((rdR (0, b)).1.1, 0)
theorem goodD_okIs {i : Is} {ds : List Is} (h : depsB i ds = true) : ∀ d ∈ ds, okIs d := by
  intro d hd
  unfold depsB at h
  rw [List.all_eq_true] at h
  obtain ⟨j, hj, rfl⟩ := List.getElem_of_mem hd
  have := h j (List.mem_range.2 hj)
  unfold goodD at this
  rw [List.getElem?_eq_getElem hj] at this
  dsimp only at this
  rw [Bool.and_eq_true, Bool.and_eq_true] at this
  have := this.1.1
  unfold rightI at this
  rw [decide_eq_true_eq] at this
  exact ⟨⟨this.1, this.2.1⟩, by omega, by omega⟩
theorem rightR_okRc {r : Rc} (h : rightR r = true) (hn : numsE r.e) : okRc r := by
  unfold rightR at h
  rw [Bool.and_eq_true, Bool.and_eq_true] at h
  obtain ⟨h1, h2, h3⟩ := h
  unfold rightI at h1
  unfold slotB at h2
  rw [decide_eq_true_eq] at h1 h2
  unfold stateB at h3
  by_cases hs : r.st = 0
  · rw [if_pos hs, Bool.and_eq_true, decide_eq_true_eq, decide_eq_true_eq] at h3
    exact ⟨⟨⟨h1.1, h1.2.1⟩, by omega, by omega⟩, ⟨h2.1, h2.2.1⟩, by omega, by omega, by rw [if_pos hs]; exact h3.2⟩
  · rw [if_neg hs] at h3
    by_cases ht : r.st = 1 ∨ r.st = 2 ∨ r.st = 3
    · rw [if_pos ht, Bool.and_eq_true, decide_eq_true_eq] at h3
      obtain ⟨h4, h5⟩ := h3
      unfold rightE at h5
      rw [Bool.and_eq_true, Bool.and_eq_true] at h5
      refine ⟨⟨⟨h1.1, h1.2.1⟩, by omega, by omega⟩, ⟨h2.1, h2.2.1⟩, by omega, by omega, ?_⟩
      rw [if_neg hs]
      refine ⟨?_, h4, goodD_okIs h5.1⟩
      have h6 := h5.2.2
      by_cases hb : r.e.none = true
      · rw [if_pos hb] at h6 ⊢
        exact of_decide_eq_true h6
      · rw [if_neg hb] at h6 ⊢
        exact ⟨h6, rightO_okOd h6 hn⟩
    · rw [if_neg ht] at h3; cases h3
theorem entB_len {e : En} (h : okEn e) : (entB e).length ≤ 2500 := by
  obtain ⟨h1, h2, _⟩ := h
  have hl := flat_le isB 20 e.deps fun i _ => by
    have := nb_len i.r
    have := nb_len i.n
    unfold isB; rw [List.length_append]; omega
  have := nb_len (e.deps.length : Int)
  have := nb_len 0
  have := nb_len 1
  unfold entB
  by_cases hb : e.none = true
  · rw [if_pos hb]
    simp only [List.length_append]
    omega
  · rw [if_neg hb] at h1 ⊢
    have := orderB_len h1.2
    have := txtB_len (orderB e.o)
    simp only [List.length_append]
    omega
theorem recB_len {r : Rc} (h : okRc r) : (recB r).length ≤ 2600 := by
  have := nb_len r.i.r
  have := nb_len r.i.n
  have := nb_len r.bal
  have := nb_len r.st
  have := nb_len r.by_
  have h5 := h.2.2.2.2
  unfold recB headB
  by_cases hs : r.st = 0
  · rw [if_pos hs]; simp only [List.length_append, List.length_nil]; omega
  · rw [if_neg hs] at h5 ⊢
    have := entB_len h5
    simp only [List.length_append]; omega
theorem rdRec_of {r : Rc} (h : rightR r = true) (hn : numsE r.e) : rdRec (recB r) = (r, 0) := by
  have := rdR_reads r [] (rightR_okRc h hn) hn
  rw [List.append_nil] at this
  unfold rdRec
  rw [this]
  dsimp only
  rw [if_neg]
  rw [h, show dn [] 0 = 0 from rfl]
  simp
theorem rdRec_yes {b : List UInt8} {r : Rc} (h : rdRec b = (r, 0)) : rightR r = true ∧ b = recB r ∧ okRc r := by
  unfold rdRec at h
  obtain ⟨⟨p, f⟩, e, t, hr⟩ : ∃ q e t, rdR (0, b) = (q, e, t) := tri_ _
  rw [hr] at h
  dsimp only at h
  by_cases h1 : f ≠ 0 ∨ dn t e ≠ 0 ∨ rightR p = false
  · rw [if_pos h1] at h; simp at h
  · rw [if_neg h1] at h
    simp only [Prod.mk.injEq, and_true] at h
    subst h
    have h0 : f = 0 := Classical.byContradiction fun hh => h1 (.inl hh)
    have h2 : dn t e = 0 := Classical.byContradiction fun hh => h1 (.inr (.inl hh))
    subst h0
    obtain ⟨rfl, rfl⟩ := dn_zero.1 h2
    obtain ⟨h3, h4⟩ := rdR_exact _ _ _ hr
    simp only [Prod.mk.injEq, List.append_nil, true_and] at h3
    refine ⟨?_, h3, h4⟩
    cases hq : rightR p with
    | true => rfl
    | false => exact absurd (.inr (.inr hq)) h1
theorem rdRec_two (b : List UInt8) : (rdRec b).2 = 0 ∨ rdRec b = (rc0, 3) := by
  unfold rdRec
  split
  · exact .inr rfl
  · exact .inl rfl

/- MESSAGES -/
def msgB (m : Mg) : List UInt8 :=
  nb m.frm ++ (nb m.to ++ (nb m.kind ++ (if rightR m.r then nb 1 ++ txtB (recB m.r) else nb 0 ++ (nb m.r.bal ++ txtB (recB (bareR m.r))))))
def rdM : PR (Int × Int × Int × Bool × Int × List UInt8) := bd (qg 0 6) fun f => bd (qg 0 6) fun t => bd (qg 1 9) fun k => bd (qg 0 1) fun x =>
  if x = 1 then bd (qt 4096) fun s => pu (f, t, k, true, 0, s) else bd (qg 0 1000000) fun b => bd (qt 4096) fun s => pu (f, t, k, false, b, s)
def mg0 : Mg := ⟨0, 0, 0, rc0⟩
/-- what is made of the parts: none, where there is an error -/
def mkM (f t k : Int) (full : Bool) (bal : Int) (x : Rc) : Option Mg :=
  let m : Mg := if full then ⟨f, t, k, x⟩ else ⟨f, t, k, ⟨x.i, bal, 0, 0, x.e⟩⟩
  if (full || (decide (x.st = 3) && (decide (x.bal = 0) && !rightR m.r))) && rightM m then some m else none
/-- post.Read -/
def rdMsg (b : List UInt8) : Mg × Nat :=
  let p := rdM (0, b)
  if (rdRec p.1.2.2.2.2.2).2 ≠ 0 ∨ dn p.2.2 p.2.1 ≠ 0 then (mg0, 3) else
    match mkM p.1.1 p.1.2.1 p.1.2.2.1 p.1.2.2.2.1 p.1.2.2.2.2.1 (rdRec p.1.2.2.2.2.2).1 with
    | none => (mg0, 3)
    | some m => (m, 0)
theorem rdMsg_two (b : List UInt8) : (rdMsg b).2 = 0 ∨ rdMsg b = (mg0, 3) := by
  unfold rdMsg
  dsimp only
  split
  · exact .inr rfl
  · split
    · exact .inr rfl
    · exact .inl rfl
theorem rightM_ends {m : Mg} (h : rightM m = true) : (0 ≤ m.frm ∧ m.frm ≤ 6) ∧ (0 ≤ m.to ∧ m.to ≤ 6) ∧ (1 ≤ m.kind ∧ m.kind ≤ 9) ∧ (rightR m.r = true ∨ (plainB m = true ∧ rightR (bareR m.r) = true)) := by
  unfold rightM endsB kindMB at h
  simp only [Bool.and_eq_true, decide_eq_true_eq, Bool.or_eq_true] at h
  obtain ⟨⟨h1, h2, h3, h4, _⟩, h5, h6⟩ := h
  exact ⟨⟨h1, h2⟩, ⟨h3, h4⟩, h5, h6⟩
theorem rdMsg_of {m : Mg} (h : rightM m = true) (hn : numsE m.r.e) : rdMsg (msgB m) = (m, 0) := by
  obtain ⟨h1, h2, h3, h4⟩ := rightM_ends h
  obtain ⟨f, t, k, r⟩ := m
  dsimp only at h1 h2 h3 h4 hn
  cases hr : rightR r with
  | true =>
    have hp : rdM (0, msgB ⟨f, t, k, r⟩) = ((f, t, k, true, 0, recB r), 0, []) := by
      unfold rdM msgB
      dsimp only
      rw [hr, if_pos rfl]
      rw [bd_of (qg_reads _ h1.1 h1.2 (in64_of h1.1 h1.2 (by decide) (by decide))), bd_of (qg_reads _ h2.1 h2.2 (in64_of h2.1 h2.2 (by decide) (by decide))), bd_of (qg_reads _ h3.1 h3.2 (in64_of h3.1 h3.2 (by decide) (by decide))), bd_of (qg_reads _ (by omega) (by omega) ⟨by omega, by omega⟩), if_pos rfl]
      have := qt_reads (most := 4096) (v := recB r) [] (by have := recB_len (rightR_okRc hr hn); omega) (by omega)
      rw [List.append_nil] at this
      rw [bd_of this]
      rfl
    unfold rdMsg
    dsimp only
    rw [hp]
    dsimp only
    rw [rdRec_of hr hn, if_neg (by rw [show dn [] 0 = 0 from rfl]; simp)]
    unfold mkM
    simp only [if_true, Bool.true_or, Bool.true_and, h]
  | false =>
    rw [hr] at h4
    obtain ⟨h5, h6⟩ : plainB ⟨f, t, k, r⟩ = true ∧ rightR (bareR r) = true := by simpa using h4
    unfold plainB at h5
    simp only [decide_eq_true_eq] at h5
    have hp : rdM (0, msgB ⟨f, t, k, r⟩) = ((f, t, k, false, r.bal, recB (bareR r)), 0, []) := by
      unfold rdM msgB
      dsimp only
      rw [hr]
      simp only [Bool.false_eq_true, if_false]
      rw [bd_of (qg_reads _ h1.1 h1.2 (in64_of h1.1 h1.2 (by decide) (by decide))), bd_of (qg_reads _ h2.1 h2.2 (in64_of h2.1 h2.2 (by decide) (by decide))), bd_of (qg_reads _ h3.1 h3.2 (in64_of h3.1 h3.2 (by decide) (by decide))), bd_of (qg_reads _ (by omega) (by omega) ⟨by omega, by omega⟩), if_neg (by omega),
        bd_of (qg_reads _ (by omega) (by omega) ⟨by omega, by omega⟩)]
      have := qt_reads (most := 4096) (v := recB (bareR r)) [] (by have := recB_len (rightR_okRc h6 hn); omega) (by omega)
      rw [List.append_nil] at this
      rw [bd_of this]
      rfl
    have er : (⟨r.i, r.bal, 0, 0, r.e⟩ : Rc) = r := by
      obtain ⟨i, bal, st, by_, e⟩ := r
      dsimp only at h5 ⊢
      rw [h5.1, h5.2.1]
    unfold rdMsg
    dsimp only
    rw [hp]
    dsimp only
    rw [rdRec_of h6 hn, if_neg (by rw [show dn [] 0 = 0 from rfl]; simp)]
    unfold mkM
    simp only [bareR, Bool.false_eq_true, if_false, er, hr, h]
    simp
theorem rdMsg_yes {b : List UInt8} {m : Mg} (h : rdMsg b = (m, 0)) : rightM m = true ∧ b = msgB m := by
  unfold rdMsg at h
  dsimp only at h
  obtain ⟨⟨f, t, k, full, bal, s⟩, e, r, hp⟩ : ∃ q e r, rdM (0, b) = (q, e, r) := tri_ _
  rw [hp] at h
  dsimp only at h
  obtain ⟨x, g, hx⟩ : ∃ x g, rdRec s = (x, g) := duo_ _
  rw [hx] at h
  dsimp only at h
  by_cases h1 : g ≠ 0 ∨ dn r e ≠ 0
  · rw [if_pos h1] at h; simp at h
  · rw [if_neg h1] at h
    have h0 : g = 0 := Classical.byContradiction fun hh => h1 (.inl hh)
    have h2 : dn r e = 0 := Classical.byContradiction fun hh => h1 (.inr hh)
    subst h0
    obtain ⟨rfl, rfl⟩ := dn_zero.1 h2
    obtain ⟨x1, rfl, x3⟩ := rdRec_yes hx
    unfold rdM at hp
    obtain ⟨f', s1, q1, hp⟩ := bd_inv hp
    obtain ⟨t', s2, q2, hp⟩ := bd_inv hp
    obtain ⟨k', s3, q3, hp⟩ := bd_inv hp
    obtain ⟨y, s4, q4, hp⟩ := bd_inv hp
    by_cases hy : y = 1
    · rw [if_pos hy] at hp
      obtain ⟨s', s5, q5, hp⟩ := bd_inv hp
      simp only [pu, Prod.mk.injEq] at hp
      obtain ⟨⟨rfl, rfl, rfl, rfl, rfl, rfl⟩, rfl⟩ := hp
      obtain ⟨rfl, k5⟩ := qt_exact q5
      obtain ⟨rfl, k4⟩ := qg_exact q4
      obtain ⟨rfl, k3⟩ := qg_exact q3
      obtain ⟨rfl, k2⟩ := qg_exact q2
      obtain ⟨he, k1⟩ := qg_exact q1
      simp only [Prod.mk.injEq, true_and] at he
      unfold mkM at h
      simp only [if_true, Bool.true_or, Bool.true_and] at h
      by_cases hm : rightM ⟨f', t', k', x⟩ = true
      · rw [if_pos hm] at h
        simp only [Prod.mk.injEq, and_true] at h
        subst h
        refine ⟨hm, ?_⟩
        rw [he]
        unfold msgB
        dsimp only
        rw [x1, if_pos rfl, hy, List.append_nil]
      · rw [if_neg hm] at h; simp at h
    · rw [if_neg hy] at hp
      obtain ⟨bl', s5, q5, hp⟩ := bd_inv hp
      obtain ⟨s', s6, q6, hp⟩ := bd_inv hp
      simp only [pu, Prod.mk.injEq] at hp
      obtain ⟨⟨rfl, rfl, rfl, rfl, rfl, rfl⟩, rfl⟩ := hp
      obtain ⟨rfl, k6⟩ := qt_exact q6
      obtain ⟨rfl, k5⟩ := qg_exact q5
      obtain ⟨rfl, k4⟩ := qg_exact q4
      obtain ⟨rfl, k3⟩ := qg_exact q3
      obtain ⟨rfl, k2⟩ := qg_exact q2
      obtain ⟨he, k1⟩ := qg_exact q1
      simp only [Prod.mk.injEq, true_and] at he
      unfold mkM at h
      simp only [Bool.false_eq_true, if_false, Bool.false_or] at h
      by_cases hm : (decide (x.st = 3) && (decide (x.bal = 0) && !rightR ⟨x.i, bl', 0, 0, x.e⟩) && rightM ⟨f', t', k', ⟨x.i, bl', 0, 0, x.e⟩⟩) = true
      · rw [if_pos hm] at h
        simp only [Prod.mk.injEq, and_true] at h
        subst h
        simp only [Bool.and_eq_true, decide_eq_true_eq, Bool.not_eq_true'] at hm
        obtain ⟨⟨m1, m2, m3⟩, m4⟩ := hm
        refine ⟨m4, ?_⟩
        have hb : bareR ⟨x.i, bl', 0, 0, x.e⟩ = x := by
          obtain ⟨i, bal, st, by_, en⟩ := x
          dsimp only at m1 m2
          have := x1
          unfold rightR slotB at this
          simp only [Bool.and_eq_true, decide_eq_true_eq] at this
          unfold bareR
          dsimp only
          rw [m1, m2, show by_ = 0 by omega]
        obtain rfl : y = 0 := by omega
        rw [he]
        unfold msgB
        dsimp only
        rw [m3]
        simp only [Bool.false_eq_true, if_false]
        rw [hb, List.append_nil]
      · rw [if_neg hm] at h; simp at h
end Go.Proofs.YtdnbclhidpkpgaaGreat
