/-
  The contract of coins.Total. No condition.
-/
import Derived.Test.YtaohgefpnndjcaaCoinTimes
namespace Go.Proofs.Ytaohgefpnndjcaa
set_option linter.unusedVariables false
open Go.RowKit
def isum (l : List Int) : Int := l.foldl (· + ·) 0
theorem isum_acc : ∀ (l : List Int) (a : Int), l.foldl (· + ·) a = a + isum l := by
  intro l
  induction l with
  | nil => intro a; simp [isum]
  | cons x l ih => intro a; simp only [isum, List.foldl_cons]; rw [ih (a + x), ih (0 + x)]; omega
theorem isum_nil : isum [] = 0 := rfl
theorem isum_cons (x : Int) (l : List Int) : isum (x :: l) = x + isum l := by
  show (x :: l).foldl (· + ·) 0 = _
  rw [List.foldl_cons, isum_acc]; omega
theorem isum_append (a b : List Int) : isum (a ++ b) = isum a + isum b := by
  induction a with
  | nil => simp [isum_nil]
  | cons x a ih => rw [List.cons_append, isum_cons, isum_cons, ih]; omega
def I64s (l : List Int) : Prop := ∀ x ∈ l, I64 x
theorem total_in {S H : Int} {L : Nat} (h : H * 18446744073709551616 + (L : Int) = S) (hL : L < 18446744073709551616) : (H != wrap64 (L : Int) / 9223372036854775808) = !(inI S) ∧ (inI S = true → wrap64 (L : Int) = S) := by
  constructor
  · rw [Bool.eq_iff_iff]
    simp only [bne_iff_ne, ne_eq, Bool.not_eq_true', inI, Bool.and_eq_false_iff, decide_eq_false_iff_not]
    unfold wrap64
    omega
  · intro hi
    have := inI_yes.1 hi
    unfold wrap64
    omega
def TotRel (xs : List Int) (j : Nat) (hv lv : Value) : Prop := ∃ (H : Int) (L : Nat), hv = .int .i64 H ∧ lv = .int .u64 (L : Int) ∧ H * 18446744073709551616 + (L : Int) = isum (xs.take j) ∧ L < 18446744073709551616 ∧ -(j : Int) ≤ H ∧ H ≤ (j : Int)
set_option maxRecDepth 100000 in
set_option maxHeartbeats 1000000 in
theorem total_ok (w : World) (A : Option Addr) (n c : Nat) (xs : List Int) (h : RdI w A n xs) (hn : n ≤ 1000000000000) (hin : I64s xs) : Calls Try.prog 46 #[.slice A n c] w (SumPost (sumR (isum xs)) w) := by
  have hl := h.len
  replace h := Lib.hid h
  replace hl := Lib.hid hl
  replace hin := Lib.hid hin
  go_enter Try.func46, Try.ntmps46
  go_wp2_with fail
  go_loop [4, 5, 11] (fun hv lv x => ∃ j : Nat, x = .int .i64 j ∧ j ≤ n ∧ TotRel xs j hv lv) (fun _ _ x => n - (intOf x).toNat)
  case atStart => exact ⟨0, rfl, by omega, 0, 0, rfl, rfl, by simp [isum_nil], by omega, by omega, by omega⟩
  case round =>
    obtain ⟨j, rfl, hj, H, L, rfl, rfl, hs, hL, h1, h2⟩ := hrel
    by_cases hlt : j < n
    · obtain ⟨b, o, e, hc⟩ := Rd.form h.out (show 0 < n by omega) (by omega)
      subst e
      have hjl : j < xs.length := by rw [hl.out]; exact hlt
      have hcell := hc j _ (ivs_get hjl)
      clear hc
      have hx := hin.out xs[j] (List.getElem_mem hjl)
      have hnx : isum (xs.take (j + 1)) = isum (xs.take j) + xs[j] := by rw [List.take_succ_eq_append_getElem hjl, isum_append, isum_cons, isum_nil]; omega
      generalize xs[j] = x at hcell hx hnx
      obtain ⟨x1, x2⟩ := hx
      obtain ⟨u, hu⟩ : ∃ u : Nat, IntKind.u64.wrap x = (u : Int) := ⟨(IntKind.u64.wrap x).toNat, by rw [IntKind.wrap_u64]; omega⟩
      obtain ⟨sx, hsx⟩ : ∃ sx : Int, x / 9223372036854775808 = sx := ⟨_, rfl⟩
      have hsb : -1 ≤ sx ∧ sx ≤ 0 := by omega
      have hux : (u : Int) = x - sx * 18446744073709551616 := by rw [IntKind.wrap_u64] at hu; omega
      have ha := add64_run L u w
      obtain ⟨cc, ss, hq⟩ : ∃ cc ss : Nat, L + u = cc * 18446744073709551616 + ss ∧ ss < 18446744073709551616 ∧ cc ≤ 1 := ⟨(L + u) / 18446744073709551616, (L + u) % 18446744073709551616, by omega, by omega, by omega⟩
      obtain ⟨hq1, hq2, hq3⟩ := hq
      have e1 : (L + u) % 18446744073709551616 = ss := by omega
      have e2 : (L + u) / 18446744073709551616 = cc := by omega
      rw [e1, e2] at ha
      have hnext : Hid (TotRel xs (j + 1) (.int .i64 (H + (sx + (cc : Int)))) (.int .u64 (ss : Int))) := Lib.hid ⟨_, _, rfl, rfl, by rw [hnx, ← hs]; omega, by omega, by omega, by omega⟩
      obtain ⟨s1, s2⟩ := hsb
      clear e1 e2 hnx
      replace hs := Lib.hid hs
      replace hL := Lib.hid hL
      replace hq1 := Lib.hid hq1
      replace hux := Lib.hid hux
      replace hq2 := Lib.hid hq2
      clear x1 x2
      go_wp2_with fail
      refine ⟨⟨j + 1, by go_num, by omega, hnext.out⟩, ?_⟩
      simp [intOf]; omega
    · have hjn : j = n := by omega
      have hall : xs.take j = xs := List.take_of_length_le (by have := hl.out; omega)
      rw [hall] at hs
      obtain ⟨t1, t2⟩ := total_in hs hL
      clear hall hjn
      by_cases hi : inI (isum xs) = true
      · rw [hi, Bool.not_true] at t1
        have r := Lib.hid (sumR_yes hi)
        have t3 := Lib.hid (t2 hi)
        replace hi := Lib.hid hi
        replace hs := Lib.hid hs
        replace hL := Lib.hid hL
        clear t2
        go_wp2_with fail
        go_ret2
        exact ⟨by rw [r.out]; exact ret2i t3.out rfl, rfl⟩
      · have hi : inI (isum xs) = false := by simpa using hi
        rw [hi, Bool.not_false] at t1
        have r := Lib.hid (sumR_no hi)
        replace hi := Lib.hid hi
        replace hs := Lib.hid hs
        replace hL := Lib.hid hL
        clear t2
        go_wp2_with fail
        go_ret2
        exact ⟨by rw [r.out]; exact ret2i rfl rfl, rfl⟩
end Go.Proofs.Ytaohgefpnndjcaa
