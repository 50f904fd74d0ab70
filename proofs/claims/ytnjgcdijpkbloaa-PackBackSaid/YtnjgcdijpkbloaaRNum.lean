/-
  The contract of pack.Reader.Num. No condition.
-/
import Derived.Test.YtnjgcdijpkbloaaRdr
namespace Go.Proofs.Ytnjgcdijpkbloaa
open Go.RowKit
theorem rdb_form {w : World} {A : Option Addr} {n : Nat} {l : List UInt8} (h : RdB w A n l) (hn : 0 < n) : ∃ b o, A = some ⟨b, o, none⟩ ∧ ∀ k (hk : k < l.length), w.cell? ⟨b, o + k, none⟩ = some (.int .u8 (l[k].toNat : Int)) := by
  obtain ⟨b, o, e, hc⟩ := Rd.form h hn (by omega)
  exact ⟨b, o, e, fun k hk => hc k _ (bvs_get hk)⟩
def lng (n k x : Nat) : Nat := if k + 1 = n ∧ 128 ≤ x ∧ k < 10 then 4 else 3
set_option maxRecDepth 100000 in
theorem long_ok (w : World) (g b o n c k x : Nat) (E : Value) (hb : Blk w g 49 #[.slice (some ⟨b, o, none⟩) n c, E]) (hk : k < n) (hn : n ≤ 9223372036854775807) (hx : w.cell? ⟨b, o + k, none⟩ = some (.int .u8 (x : Int))) :
    Calls Try.prog 21 #[.pointer (some ⟨g, 0, none⟩), .int .i64 (k : Int)] w fun en w' => en = .returned (.int .i64 (lng n k x : Nat)) ∧ w = w' := by
  obtain ⟨h1, h2, h3, h4⟩ := hb.two
  replace hb := Lib.hid hb
  by_cases c1 : k + 1 = n
  · obtain rfl : n = k + 1 := by omega
    clear c1
    by_cases c2 : 128 ≤ x
    · by_cases c3 : k < 10
      · have r := Lib.hid (show lng (k + 1) k x = 4 by simp [lng, *])
        go_enter Try.func21, Try.ntmps21
        go_wp2
        go_ret
        exact ⟨by rw [r.out]; rfl, rfl⟩
      · have r := Lib.hid (show lng (k + 1) k x = 3 by simp [lng, *])
        go_enter Try.func21, Try.ntmps21
        go_wp2
        go_ret
        exact ⟨by rw [r.out]; rfl, rfl⟩
    · have r := Lib.hid (show lng (k + 1) k x = 3 by simp [lng, *])
      go_enter Try.func21, Try.ntmps21
      go_wp2
      go_ret
      exact ⟨by rw [r.out]; rfl, rfl⟩
  · have r := Lib.hid (show lng n k x = 3 by simp [lng, c1])
    have hd : ((k : Int) == (n : Int) - 1) = false := by simp; omega
    go_enter Try.func21, Try.ntmps21
    go_wp2
    go_ret
    exact ⟨by rw [r.out]; rfl, rfl⟩
/-- What Reader.Num tells: the number, the error, what is left. -/
def rn (l : List UInt8) (e : Nat) : Int × Nat × List UInt8 :=
  if e ≠ 0 then (0, e, l) else if (rdNum l).1 = 0 then (unzig (rdNum l).2.1, 0, l.drop (rdNum l).2.2) else (0, (rdNum l).1, [])
def RPost (w : World) (g B : Nat) (r : Int × Nat × List UInt8) (en : Ending) (w' : World) : Prop :=
  en = .returned (.tuple #[.int .i64 r.1, .int .i64 (r.2.1 : Int)]) ∧ Rdr w' g B r.2.2 r.2.1 ∧ Mod (only g) w w'
set_option maxRecDepth 100000 in
theorem rnum_nil (w : World) : Calls Try.prog 7 #[.pointer none] w fun en w' => en = .returned (.tuple #[.int .i64 0, .int .i64 1]) ∧ w = w' := by
  go_enter Try.func7, Try.ntmps7
  go_wp2
  go_ret2
  exact ⟨rfl, rfl⟩
theorem an128 : ∀ x : Nat, x < 256 → bits .andNot .u8 (x : Int) 128 = ((x % 128 : Nat) : Int) := by decide +kernel
theorem bo64 (a b : Nat) (ha : a < 18446744073709551616) (hb : b < 18446744073709551616) : bits .or .u64 (a : Int) (b : Int) = ((a ||| b : Nat) : Int) := by
  have hx : a ||| b < 2 ^ 64 := Nat.or_lt_two_pow (by omega) (by omega)
  show IntKind.u64.wrap ((BitVec.ofInt 64 (a : Int) ||| BitVec.ofInt 64 (b : Int)).toNat : Int) = _
  rw [BitVec.toNat_or, ofInt_nat 64 a (by omega), ofInt_nat 64 b (by omega), IntKind.wrap_u64]
  omega
theorem wrap_nat (q : Nat) (h : q < 18446744073709551616) : IntKind.u64.wrap (q : Int) = (q : Int) := by rw [IntKind.wrap_u64]; omega
theorem step_bits (a k x : Nat) (ha : a < 2 ^ (7 * k)) (hx : x < 256) (hk : k ≤ 9) (h9 : k = 9 → x ≤ 1) :
    bits .or .u64 (a : Int) (IntKind.u64.wrap (IntKind.u64.wrap (bits .andNot .u8 (x : Int) 128) * 2 ^ (7 * k))) = ((a + x % 128 * 2 ^ (7 * k) : Nat) : Int) := by
  have hp : x % 128 * 2 ^ (7 * k) < 18446744073709551616 := by
    by_cases e : k = 9
    · subst e
      have := h9 rfl
      have : x % 128 ≤ 1 := by omega
      have := Nat.mul_le_mul_right (2 ^ (7 * 9)) this
      have e63 : 2 ^ (7 * 9) = 9223372036854775808 := by decide
      omega
    · have h2 : 2 ^ (7 * k) ≤ 2 ^ 56 := Nat.pow_le_pow_right (by omega) (by omega)
      have e56 : 2 ^ 56 = 72057594037927936 := by decide
      have := Nat.mul_le_mul (show x % 128 ≤ 127 by omega) h2
      omega
  have ha2 : a < 18446744073709551616 := Nat.lt_of_lt_of_le ha (Nat.le_trans (Nat.pow_le_pow_right (n := 2) (by omega) (show 7 * k ≤ 64 by omega)) (by decide))
  rw [an128 x hx, wrap_nat _ (by omega), show (2 : Int) ^ (7 * k) = ((2 ^ (7 * k) : Nat) : Int) by simp, ← Int.natCast_mul, wrap_nat _ hp, bo64 _ _ ha2 hp, Nat.or_comm, or_add _ _ _ ha, Nat.add_comm]
theorem rdF_at {l : List UInt8} {k x a : Nat} (hk : k < l.length) (hx : l[k].toNat = x) : rdF a k (l.drop k) =
    (if k = 10 ∨ (k = 9 ∧ 1 < x) then (if l.drop (k + 1) = [] ∧ 128 ≤ x ∧ k < 10 then 4 else 3, 0, 0)
    else if x < 128 ∧ x = 0 ∧ 0 < k then (3, 0, 0)
    else if x < 128 then (0, a + x * 2 ^ (7 * k), k + 1)
    else rdF (a + (x - 128) * 2 ^ (7 * k)) (k + 1) (l.drop (k + 1))) := by
  rw [List.drop_eq_getElem_cons hk, rdF, hx]
theorem rest_set {w : World} {g B b o n c : Nat} {l : List UInt8} {k q d : Nat} (hb : Blk w g 49 #[.slice (some ⟨b, o, none⟩) n c, .int .i64 ((0 : Nat) : Int)]) (hr : RdB w (some ⟨b, o, none⟩) l.length l)
    (hA : ∀ j, fp (some (⟨b, o, none⟩ : Addr)) j → j = B) (hB : g ≠ B) (hl : l.length = k + 1 + q) (hqd : q ≤ d) (hc : k + 1 + d ≤ 9223372036854775807) (A' : Option Addr) (m c' : Nat) (h1 : A' = some ⟨b, o, none⟩ ∧ d = 0 ∨ A' = some ⟨b, o + (k + 1), none⟩) (h2 : m = q) (h3 : c' = d) :
    Rdr (w.setCell ⟨g, 0, none⟩ (.slice A' m c')) g B (l.drop (k + 1)) 0 := by
  subst h2 h3
  have hlt : ∀ j, fp A' j → j = B := by
    rintro j ⟨a, ha, rfl⟩
    rcases h1 with ⟨h, _⟩ | h <;> (rw [h] at ha; cases ha; exact hA _ ⟨_, rfl, rfl⟩)
  have h4 : RdB w A' m (l.drop (k + 1)) := by
    rcases h1 with ⟨rfl, h0⟩ | rfl
    · have : m = 0 := by omega
      subst this
      rw [List.drop_eq_nil_of_le (by omega)]
      exact ⟨by simp [bvs], fun h => by omega⟩
    · have := rdb_drop hr (k := k + 1) (c := l.length + 1) (by omega) (by omega)
      rw [if_neg (by omega)] at this
      simp only [Option.map_some] at this
      have e : (⟨b, o, none⟩ : Addr).add (k + 1) = ⟨b, o + (k + 1), none⟩ := by unfold Addr.add; rw [if_neg (by omega)]
      rw [e, show l.length - (k + 1) = m by omega] at this
      exact this
  refine ⟨A', m, c', hb.set_ 0 _, Rd.mod h4 ((Mod.refl (only g) w).set_only 0 _) ?_, hqd, by omega, hlt, hB⟩
  intro j hj hg
  exact hB (hg ▸ hlt j hj)
def RnRel (l : List UInt8) (k a : Nat) : Prop := k ≤ l.length ∧ k ≤ 9 ∧ a < 2 ^ (7 * k) ∧ rdF a k (l.drop k) = rdNum l
set_option maxRecDepth 100000 in
set_option maxHeartbeats 2000000 in
theorem rnum_ok (w : World) (g B e : Nat) (l : List UInt8) (h : Rdr w g B l e) : Calls Try.prog 7 #[.pointer (some ⟨g, 0, none⟩)] w (RPost w g B (rn l e)) := by
  have hall := Lib.hid h
  obtain ⟨A, n, c, hb, hr, hnc, hc, hA, hB⟩ := h
  obtain ⟨h1, h2, h3, h4⟩ := hb.two
  have hl := hr.len
  subst hl
  replace hr := Lib.hid hr
  replace hb := Lib.hid hb
  replace hA := Lib.hid hA
  by_cases he : e = 0
  · subst he
    go_enter Try.func7, Try.ntmps7
    go_wp2_with fail
    go_loop [4, 24] (fun m i => ∃ k a : Nat, i = .int .i64 (k : Int) ∧ m = .int .u64 (a : Int) ∧ RnRel l k a) (fun _ i => l.length - (intOf i).toNat)
    case atStart => exact ⟨0, 0, rfl, rfl, by omega, by omega, by simp, by simp [rdNum]⟩
    case round =>
      obtain ⟨k, a, rfl, rfl, hk, hk9, ha, hrd⟩ := hrel
      replace ha := Lib.hid ha
      replace hrd := Lib.hid hrd
      by_cases hlt : k < l.length
      · obtain ⟨b, o, rfl, hcell⟩ := rdb_form hr.out (by omega)
        have hx := hcell k hlt
        clear hcell
        have hx8 := l[k].toNat_lt
        have hst := Lib.hid (rdF_at (a := a) hlt rfl)
        generalize l[k].toNat = x at *
        by_cases hbad : k = 9 ∧ 1 < x
        · obtain ⟨rfl, hx1⟩ := hbad
          have e3 : Hid (rn l 0 = (0, lng l.length 9 x, [])) := by
            have := hst.out
            rw [if_pos (.inr ⟨rfl, hx1⟩), hrd.out] at this
            refine Lib.hid ?_
            unfold rn
            rw [if_neg (by omega), this]
            have e4 : l.drop (9 + 1) = [] ↔ 9 + 1 = l.length := by
              rw [List.drop_eq_nil_iff]; omega
            simp only [e4, lng]
            split <;> simp
          go_wp2_with fail
          refine (long_ok _ g b o l.length c 9 x _ hb.out hlt (by omega) hx).mono ?_
          rintro en w1 ⟨rfl, rfl⟩
          go_wp2_with fail
          refine (fail_ok _ g B _ _ _ hb.out hB).mono ?_
          rintro en w1 ⟨rfl, hR, hm⟩
          replace hR := Lib.hid hR
          replace hm := Lib.hid hm
          go_wp2_with fail
          go_ret2
          rw [e3.out]
          exact ⟨rfl, hR.out, hm.out⟩
        · have hn10 : ¬ (k = 10 ∨ (k = 9 ∧ 1 < x)) := by omega
          have hst2 := hst.out
          rw [if_neg hn10, hrd.out] at hst2
          have hbits := step_bits a k x ha.out hx8 hk9 (by omega)
          have k1 : ((k : Int) == 10) = false := by simp; omega
          have k2 : (((k : Int) == 9) && decide (1 < x)) = false := by simp; omega
          by_cases h0 : x = 0 ∧ 0 < k
          · obtain ⟨rfl, hk0⟩ := h0
            have e3 : Hid (rn l 0 = (0, 3, [])) := by
              rw [if_pos ⟨by omega, rfl, hk0⟩] at hst2
              refine Lib.hid ?_
              unfold rn
              rw [if_neg (by omega), hst2]
              simp
            clear hst2 hbits
            by_cases k9 : k = 9
            · subst k9
              go_wp2_with fail
              refine (fail_ok _ g B 3 _ _ hb.out hB).mono ?_
              rintro en w1 ⟨rfl, hR, hm⟩
              replace hR := Lib.hid hR
              replace hm := Lib.hid hm
              go_wp2_with fail
              go_ret2
              rw [e3.out]
              exact ⟨rfl, hR.out, hm.out⟩
            · have k9' : ((k : Int) == 9) = false := by simp; omega
              go_wp2_with fail
              refine (fail_ok _ g B 3 _ _ hb.out hB).mono ?_
              rintro en w1 ⟨rfl, hR, hm⟩
              replace hR := Lib.hid hR
              replace hm := Lib.hid hm
              go_wp2_with fail
              go_ret2
              rw [e3.out]
              exact ⟨rfl, hR.out, hm.out⟩
          · rw [if_neg (by omega)] at hst2
            by_cases hlast : x < 128
            · rw [if_pos hlast] at hst2
              have hxx : x % 128 = x := by omega
              obtain ⟨y, hy⟩ : ∃ y, y = a + x % 128 * 2 ^ (7 * k) := ⟨_, rfl⟩
              rw [← hy] at hbits
              rw [hxx] at hy
              rw [← hy] at hst2
              have hy64 : y < 18446744073709551616 := (rdNum_once hst2).2.2.2
              have e3 : Hid (rn l 0 = (unzig y, 0, l.drop (k + 1))) := by
                refine Lib.hid ?_
                unfold rn
                rw [if_neg (by omega), hst2]
                simp
              clear hxx
              obtain ⟨q, hq⟩ : ∃ q, l.length = k + 1 + q := ⟨l.length - (k + 1), by omega⟩
              obtain ⟨d, rfl⟩ : ∃ d, c = k + 1 + d := ⟨c - (k + 1), by omega⟩
              have hfin := Lib.hid (@rest_set w g B b o _ _ l k q d hb.out hr.out hA.out hB (by omega) (by omega) (by omega))
              replace hst2 := Lib.hid hst2
              replace hy := Lib.hid hy
              replace hy64 := Lib.hid hy64
              rw [hq] at h1
              have hqd : q ≤ d := by omega
              replace hq := Lib.hid hq
              by_cases x0 : x = 0
              · subst x0
                have hk0 : k = 0 := by omega
                have hk1 : decide ((0 : Int) < (k : Int)) = false := by simp; omega
                have k3 : ((k : Int) == 9) = false := by simp; omega
                rw [show (((0 : Nat) : Int)) = 0 from rfl] at hbits hx
                replace hk0 := Lib.hid hk0
                by_cases d0 : d = 0
                · subst d0
                  go_wp2_with fail
                  refine (unfold_ok _ y hy64.out).mono ?_
                  rintro en w2 ⟨rfl, rfl⟩
                  go_wp2_with fail
                  go_ret2
                  rw [e3.out]
                  exact ⟨rfl, hfin.out _ _ _ (.inl (by simp)) (by omega) (by omega), (Mod.refl _ w).set_only 0 _⟩
                · go_wp2_with fail
                  refine (unfold_ok _ y hy64.out).mono ?_
                  rintro en w2 ⟨rfl, rfl⟩
                  go_wp2_with fail
                  go_ret2
                  rw [e3.out]
                  exact ⟨rfl, hfin.out _ _ _ (.inr rfl) (by omega) (by omega), (Mod.refl _ w).set_only 0 _⟩
              · have x1 : ((x : Int) == 0) = false := by simp; omega
                by_cases k9 : k = 9
                · subst k9
                  simp only [Nat.reduceMul, Nat.reduceAdd, Int.reducePow] at hbits h1
                  by_cases d0 : d = 0
                  · subst d0
                    go_wp2_with fail
                    refine (unfold_ok _ y hy64.out).mono ?_
                    rintro en w2 ⟨rfl, rfl⟩
                    go_wp2_with fail
                    go_ret2
                    rw [e3.out]
                    exact ⟨rfl, hfin.out _ _ _ (.inl (by simp)) (by omega) (by omega), (Mod.refl _ w).set_only 0 _⟩
                  · go_wp2_with fail
                    refine (unfold_ok _ y hy64.out).mono ?_
                    rintro en w2 ⟨rfl, rfl⟩
                    go_wp2_with fail
                    go_ret2
                    rw [e3.out]
                    exact ⟨rfl, hfin.out _ _ _ (.inr rfl) (by omega) (by omega), (Mod.refl _ w).set_only 0 _⟩
                · have k3 : ((k : Int) == 9) = false := by simp; omega
                  by_cases d0 : d = 0
                  · subst d0
                    go_wp2_with fail
                    refine (unfold_ok _ y hy64.out).mono ?_
                    rintro en w2 ⟨rfl, rfl⟩
                    go_wp2_with fail
                    go_ret2
                    rw [e3.out]
                    exact ⟨rfl, hfin.out _ _ _ (.inl (by simp)) (by omega) (by omega), (Mod.refl _ w).set_only 0 _⟩
                  · go_wp2_with fail
                    refine (unfold_ok _ y hy64.out).mono ?_
                    rintro en w2 ⟨rfl, rfl⟩
                    go_wp2_with fail
                    go_ret2
                    rw [e3.out]
                    exact ⟨rfl, hfin.out _ _ _ (.inr rfl) (by omega) (by omega), (Mod.refl _ w).set_only 0 _⟩
            · rw [if_neg hlast] at hst2
              have g9 : k < 9 := by omega
              have k3 : ((k : Int) == 9) = false := by simp; omega
              have hnx : Hid (RnRel l (k + 1) (a + x % 128 * 2 ^ (7 * k))) := by
                refine Lib.hid ⟨by omega, by omega, ?_, ?_⟩
                · have := ha.out
                  have e : 2 ^ (7 * (k + 1)) = 128 * 2 ^ (7 * k) := by rw [show 7 * (k + 1) = 7 + 7 * k by omega, Nat.pow_add]
                  have := Nat.mul_le_mul_right (2 ^ (7 * k)) (show x % 128 ≤ 127 by omega)
                  omega
                · rw [show x % 128 = x - 128 by omega]; exact hst2.symm
              replace hst2 := Lib.hid hst2
              go_wp2_with fail
              refine ⟨⟨k + 1, _, by go_num, by simp, hnx.out⟩, ?_⟩
              simp [intOf]; omega
      · have e3 : Hid (rn l 0 = (0, 4, [])) := by
          have := hrd.out
          rw [List.drop_eq_nil_of_le (by omega), rdF] at this
          refine Lib.hid ?_
          unfold rn
          rw [if_neg (by omega), ← this]
          simp
        go_wp2_with fail
        refine (fail_ok _ g B 4 _ _ hb.out hB).mono ?_
        rintro en w1 ⟨rfl, hR, hm⟩
        replace hR := Lib.hid hR
        replace hm := Lib.hid hm
        go_wp2_with fail
        go_ret2
        rw [e3.out]
        exact ⟨rfl, hR.out, hm.out⟩
  · have he1 : ((e : Int) != 0) = true := by simp; omega
    go_enter Try.func7, Try.ntmps7
    go_wp2_with (go_quiet (fail))
    go_ret2
    have : rn l e = (0, e, l) := by simp [rn, he]
    rw [this]
    exact ⟨rfl, hall.out.mod0 ((Mod.refl none_ w).drewN _), (Mod.refl _ w).drewN _⟩
end Go.Proofs.Ytnjgcdijpkbloaa
