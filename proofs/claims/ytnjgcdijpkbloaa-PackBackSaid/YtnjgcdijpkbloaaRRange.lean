/-
  The contracts of pack.Reader.Range and pack.Reader.Text. No condition.
-/
import Derived.Test.YtnjgcdijpkbloaaRNum
namespace Go.Proofs.Ytnjgcdijpkbloaa
open Go.RowKit
/-- What Range tells. -/
def rg (lo hi : Int) (l : List UInt8) (e : Nat) : Int × Nat × List UInt8 :=
  if (rn l e).2.1 ≠ 0 then (0, (rn l e).2) else if (rn l e).1 < lo ∨ hi < (rn l e).1 then (0, 3, []) else rn l e
theorem Rdr.blk {w : World} {g B : Nat} {l : List UInt8} {e : Nat} (h : Rdr w g B l e) : ∃ a b, Blk w g 49 #[a, b] ∧ g ≠ B := by
  obtain ⟨A, n, c, a1, _, _, _, _, a6⟩ := h
  exact ⟨_, _, a1, a6⟩
theorem Mod.only_trans {w w1 w2 : World} {g : Nat} (h : Mod (only g) w w1) (k : Mod (only g) w1 w2) : Mod (only g) w w2 := h.trans k
theorem fail_r (w : World) (g B e e0 : Nat) (l : List UInt8) (h : Rdr w g B l e0) : Calls Try.prog 20 #[.pointer (some ⟨g, 0, none⟩), .int .i64 (e : Int)] w (FailPost w g B e) := by
  obtain ⟨a, b, h1, h2⟩ := h.blk
  exact fail_ok w g B e a b h1 h2
set_option maxRecDepth 100000 in
theorem range_nil (w : World) (lo hi : Int) : Calls Try.prog 8 #[.pointer none, .int .i64 lo, .int .i64 hi] w fun en w' => en = .returned (.tuple #[.int .i64 0, .int .i64 1]) ∧ w = w' := by
  go_enter Try.func8, Try.ntmps8
  go_wp2_with fail
  refine (rnum_nil w).mono ?_
  rintro en w1 ⟨rfl, rfl⟩
  go_wp2_with fail
  go_ret2
  exact ⟨rfl, rfl⟩
set_option maxRecDepth 100000 in
theorem range_ok (w : World) (g B e : Nat) (l : List UInt8) (lo hi : Int) (h : Rdr w g B l e) : Calls Try.prog 8 #[.pointer (some ⟨g, 0, none⟩), .int .i64 lo, .int .i64 hi] w (RPost w g B (rg lo hi l e)) := by
  obtain ⟨v, e1, r, hrn⟩ : ∃ v e1 r, rn l e = (v, e1, r) := ⟨_, _, _, rfl⟩
  have hc := rnum_ok w g B e l h
  have hr : rg lo hi l e = if e1 ≠ 0 then (0, e1, r) else if v < lo ∨ hi < v then (0, 3, []) else (v, e1, r) := by unfold rg; rw [hrn]
  rw [hrn] at hc
  replace hc := Lib.hid hc
  replace hr := Lib.hid hr
  replace hrn := Lib.hid hrn
  go_enter Try.func8, Try.ntmps8
  go_wp2_with fail
  refine hc.out.mono ?_
  rintro en w1 ⟨rfl, hR, hm⟩
  dsimp only at hR ⊢
  replace hR := Lib.hid hR
  replace hm := Lib.hid hm
  by_cases he : e1 = 0
  · subst he
    by_cases c1 : v < lo
    · have c2 : decide (v < lo) = true := by simpa using c1
      go_wp2_with fail
      refine (fail_r _ g B 3 _ _ hR.out).mono ?_
      rintro en w2 ⟨rfl, hR2, hm2⟩
      replace hR2 := Lib.hid hR2
      replace hm2 := Lib.hid hm2
      go_wp2_with fail
      go_ret2
      rw [hr.out, if_neg (by omega), if_pos (.inl c1)]
      exact ⟨rfl, hR2.out, hm.out.trans hm2.out⟩
    · have c1' : decide (v < lo) = false := by simpa using c1
      by_cases c2 : hi < v
      · go_wp2_with fail
        refine (fail_r _ g B 3 _ _ hR.out).mono ?_
        rintro en w2 ⟨rfl, hR2, hm2⟩
        replace hR2 := Lib.hid hR2
        replace hm2 := Lib.hid hm2
        go_wp2_with fail
        go_ret2
        rw [hr.out, if_neg (by omega), if_pos (.inr c2)]
        exact ⟨rfl, hR2.out, hm.out.trans hm2.out⟩
      · go_wp2_with fail
        go_ret2
        rw [hr.out, if_neg (by omega), if_neg (by omega)]
        exact ⟨rfl, hR.out, hm.out⟩
  · have he1 : ((e1 : Int) != 0) = true := by simp; omega
    go_wp2_with fail
    go_ret2
    rw [hr.out, if_pos he]
    exact ⟨rfl, hR.out, hm.out⟩
/-- What Text tells. -/
def rt (most : Int) (l : List UInt8) (e : Nat) : List UInt8 × Nat × List UInt8 :=
  if (rg 0 most l e).2.1 ≠ 0 then ([], (rg 0 most l e).2) else if ((rg 0 most l e).2.2.length : Int) < (rg 0 most l e).1 then ([], 4, []) else
    ((rg 0 most l e).2.2.take (rg 0 most l e).1.toNat, 0, (rg 0 most l e).2.2.drop (rg 0 most l e).1.toNat)
def TPost (w : World) (g B : Nat) (r : List UInt8 × Nat × List UInt8) (en : Ending) (w' : World) : Prop :=
  en = .returned (.tuple #[.string (txt r.1), .int .i64 (r.2.1 : Int)]) ∧ Rdr w' g B r.2.2 r.2.1 ∧ Mod (only g) w w'
set_option maxRecDepth 100000 in
theorem rtext_nil (w : World) (most : Int) : Calls Try.prog 9 #[.pointer none, .int .i64 most] w fun en w' => en = .returned (.tuple #[.string (txt []), .int .i64 1]) ∧ w = w' := by
  go_enter Try.func9, Try.ntmps9
  go_wp2_with fail
  refine (range_nil w _ _).mono ?_
  rintro en w1 ⟨rfl, rfl⟩
  go_wp2_with fail
  go_ret2
  exact ⟨rfl, rfl⟩
theorem rg_bound {lo hi : Int} {l : List UInt8} {e : Nat} {v : Int} {r : List UInt8} (h : rg lo hi l e = (v, 0, r)) : lo ≤ v ∧ v ≤ hi := by
  unfold rg at h
  by_cases h1 : (rn l e).2.1 ≠ 0
  · rw [if_pos h1] at h
    have := congrArg (·.2.1) h
    simp only at this
    omega
  · rw [if_neg h1] at h
    by_cases h2 : (rn l e).1 < lo ∨ hi < (rn l e).1
    · rw [if_pos h2] at h; simp at h
    · rw [if_neg h2] at h
      rw [h] at h2
      simp only at h2
      omega
theorem rest_gen {w : World} {g B : Nat} {A : Option Addr} {n c : Nat} {l : List UInt8} {k q d : Nat} (hb : Blk w g 49 #[.slice A n c, .int .i64 ((0 : Nat) : Int)]) (hr : RdB w A l.length l)
    (hA : ∀ j, fp A j → j = B) (hB : g ≠ B) (hl : l.length = k + q) (hqd : q ≤ d) (hc : k + d ≤ 9223372036854775807) (A' : Option Addr) (m c' : Nat) (h1 : A' = A ∧ d = 0 ∨ A' = A.map (fun x => x.add k)) (h2 : m = q) (h3 : c' = d) :
    Rdr (w.setCell ⟨g, 0, none⟩ (.slice A' m c')) g B (l.drop k) 0 := by
  subst h2 h3
  have hlt : ∀ j, fp A' j → j = B := by
    rintro j ⟨a, ha, rfl⟩
    rcases h1 with ⟨h, _⟩ | h
    · rw [h] at ha; exact hA _ ⟨a, ha, rfl⟩
    · rw [h] at ha
      cases A with
      | none => cases ha
      | some x => cases ha; rw [block_of_add]; exact hA _ ⟨x, rfl, rfl⟩
  have h4 : RdB w A' m (l.drop k) := by
    rcases h1 with ⟨rfl, h0⟩ | rfl
    · have : m = 0 := by omega
      subst this
      rw [List.drop_eq_nil_of_le (by omega)]
      exact ⟨by simp [bvs], fun h => by omega⟩
    · have := rdb_drop hr (k := k) (c := l.length + k + 1) (by omega) (by omega)
      rw [if_neg (by omega), show l.length - k = m by omega] at this
      exact this
  refine ⟨A', m, c', hb.set_ 0 _, Rd.mod h4 ((Mod.refl (only g) w).set_only 0 _) ?_, hqd, by omega, hlt, hB⟩
  intro j hj hg
  exact hB (hg ▸ hlt j hj)
set_option maxRecDepth 100000 in
theorem rtext_ok (w : World) (g B e : Nat) (l : List UInt8) (most : Int) (h : Rdr w g B l e) (hmost : most ≤ 9223372036854775807) : Calls Try.prog 9 #[.pointer (some ⟨g, 0, none⟩), .int .i64 most] w (TPost w g B (rt most l e)) := by
  obtain ⟨v, e1, r, hrn⟩ : ∃ v e1 r, rg 0 most l e = (v, e1, r) := ⟨_, _, _, rfl⟩
  have hc := range_ok w g B e l 0 most h
  have hr : rt most l e = if e1 ≠ 0 then ([], e1, r) else if (r.length : Int) < v then ([], 4, []) else (r.take v.toNat, 0, r.drop v.toNat) := by unfold rt; rw [hrn]
  rw [hrn] at hc
  by_cases he : e1 = 0
  · subst he
    have hv := rg_bound hrn
    obtain ⟨k, rfl⟩ : ∃ k : Nat, v = (k : Int) := ⟨v.toNat, by omega⟩
    have hk : k ≤ 9223372036854775807 := by omega
    clear hv
    replace hc := Lib.hid hc
    replace hr := Lib.hid hr
    replace hrn := Lib.hid hrn
    go_enter Try.func9, Try.ntmps9
    go_wp2_with fail
    refine hc.out.mono ?_
    rintro en w1 ⟨rfl, hR, hm⟩
    dsimp only at hR ⊢
    have hall := Lib.hid hR
    obtain ⟨A, n, c, hb, hrd, hnc, hcm, hA, hB⟩ := hR
    obtain ⟨h1, h2, h3, h4⟩ := hb.two
    have hl := hrd.len
    subst hl
    replace hb := Lib.hid hb
    replace hrd := Lib.hid hrd
    replace hA := Lib.hid hA
    replace hm := Lib.hid hm
    by_cases c1 : r.length < k
    · go_wp2_with fail
      refine (fail_r _ g B 4 _ _ hall.out).mono ?_
      rintro en w2 ⟨rfl, hR2, hm2⟩
      replace hR2 := Lib.hid hR2
      replace hm2 := Lib.hid hm2
      go_wp2_with fail
      go_ret2
      rw [hr.out, if_neg (by omega), if_pos (by omega)]
      exact ⟨rfl, hR2.out, hm.out.trans hm2.out⟩
    · obtain ⟨q, hq⟩ : ∃ q, r.length = k + q := ⟨r.length - k, by omega⟩
      obtain ⟨d, rfl⟩ : ∃ d, c = k + d := ⟨c - k, by omega⟩
      have hfin := Lib.hid (@rest_gen w1 g B A _ _ r k q d hb.out hrd.out hA.out hB hq (by omega) (by omega))
      have hlt0 : decide (((k : Nat) : Int) + ((q : Nat) : Int) < ((k : Nat) : Int)) = false := by simp; omega
      by_cases d0 : d = 0
      · subst d0
        have hcv := run_string_of_bytes (P := Try.prog) w1 37 9 5 Try.underlying37 Try.underlying5 Try.underlying9 A k k (r.take k) (rdb_take hrd.out (by omega))
        go_wp2_with fail
        go_ret2
        rw [hr.out, if_neg (by omega), if_neg (by omega)]
        exact ⟨rfl, hfin.out _ _ _ (.inl ⟨rfl, by simp⟩) (by omega) (by omega), hm.out.set_only 0 _⟩
      · have hcv := run_string_of_bytes (P := Try.prog) w1 37 9 5 Try.underlying37 Try.underlying5 Try.underlying9 A k (k + d) (r.take k) (rdb_take hrd.out (by omega))
        go_wp2_with fail
        go_ret2
        rw [hr.out, if_neg (by omega), if_neg (by omega)]
        exact ⟨rfl, hfin.out _ _ _ (.inr rfl) (by omega) (by omega), hm.out.set_only 0 _⟩
  · have he1 : ((e1 : Int) != 0) = true := by simp; omega
    replace hc := Lib.hid hc
    replace hr := Lib.hid hr
    replace hrn := Lib.hid hrn
    go_enter Try.func9, Try.ntmps9
    go_wp2_with fail
    refine hc.out.mono ?_
    rintro en w1 ⟨rfl, hR, hm⟩
    dsimp only at hR ⊢
    replace hR := Lib.hid hR
    replace hm := Lib.hid hm
    go_wp2_with fail
    go_ret2
    rw [hr.out, if_pos he]
    exact ⟨rfl, hR.out, hm.out⟩
end Go.Proofs.Ytnjgcdijpkbloaa
