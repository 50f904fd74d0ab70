/-
  The reference's Same, of two lists of accounts.
-/
import Derived.Test.YtaohgefpnndjcaaChAll
import Derived.Test.YtaohgefpnndjcaaAcEq
import Derived.BigQuiet
namespace Go.Proofs.Ytaohgefpnndjcaa
set_option linter.unusedVariables false
open Go.RowKit
theorem rda_get {w : World} {A : Option Addr} {n : Nat} {C : List Ac} (h : RdA w A n C) {j : Nat} (hj : j < C.length) (hn : 0 < n) : ∃ b o, A = some ⟨b, o, none⟩ ∧
    w.cell? ⟨b, o + j*4, none⟩ = some (.string (txt C[j].n)) ∧ w.cell? ⟨b, o + j*4 + 1, none⟩ = some (.int .i64 C[j].h) ∧ w.cell? ⟨b, o + j*4 + 2, none⟩ = some (.int .i64 C[j].s) ∧ w.cell? ⟨b, o + j*4 + 3, none⟩ = some (.int .i64 C[j].l) := by
  obtain ⟨b, o, e, hc⟩ := Rd.form h hn (by omega)
  have hg := flat_get (fun a : Ac => [Value.string (txt a.n), .int .i64 a.h, .int .i64 a.s, .int .i64 a.l]) 4 (fun _ => rfl) C j C[j] (List.getElem?_eq_getElem hj)
  refine ⟨b, o, e, ?_, ?_, ?_, ?_⟩
  · exact hc (j*4) _ (hg 0 (by omega))
  · rw [Nat.add_assoc]; exact hc (j*4+1) _ (hg 1 (by omega))
  · rw [Nat.add_assoc]; exact hc (j*4+2) _ (hg 2 (by omega))
  · rw [Nat.add_assoc]; exact hc (j*4+3) _ (hg 3 (by omega))
def sameAc (C D : List Ac) : Bool := decide (C = D)
set_option maxRecDepth 100000 in
set_option maxHeartbeats 2000000 in
theorem same_ok (w : World) (A B : Option Addr) (n m c d : Nat) (C D : List Ac) (hA : RdA w A n C) (hB : RdA w B m D) (hn : n ≤ 1000) (hm : m ≤ 1000) :
    Calls Try.prog 14 #[.slice A n c, .slice B m d] w fun e w' => e = .returned (.bool (sameAc C D)) ∧ ∃ k, w' = w.drewN k := by
  have la := hA.len
  have lb := hB.len
  by_cases hnm : n = m
  · subst hnm
    replace hA := Lib.hid hA
    replace hB := Lib.hid hB
    replace la := Lib.hid la
    replace lb := Lib.hid lb
    go_enter Try.func14, Try.ntmps14
    go_wp2_with fail
    go_loopw [5] (fun x wr => ∃ j : Nat, x = .int .i64 j ∧ j ≤ n ∧ C.take j = D.take j ∧ ∃ k, wr = w.drewN k) (fun x _ => n - (intOf x).toNat)
    case atStart => exact ⟨0, rfl, by omega, rfl, 0, rfl⟩
    case round =>
      obtain ⟨j, rfl, hj, htk, k, rfl⟩ := hrel
      by_cases hlt : j < n
      · have hjC : j < C.length := by rw [la.out]; exact hlt
        have hjD : j < D.length := by rw [lb.out]; exact hlt
        obtain ⟨b, o, rfl, a1, a2, a3, a4⟩ := rda_get (w := w.drewN k) (Rd.drewN hA.out k) hjC (by omega)
        obtain ⟨b', o', rfl, b1, b2, b3, b4⟩ := rda_get (w := w.drewN k) (Rd.drewN hB.out k) hjD (by omega)
        have t1 : C.take (j+1) = C.take j ++ [C[j]] := by rw [List.take_succ_eq_append_getElem hjC]
        have t2 : D.take (j+1) = D.take j ++ [D[j]] := by rw [List.take_succ_eq_append_getElem hjD]
        generalize C[j] = x at *
        generalize D[j] = y at *
        generalize hw : w.drewN k = w1 at *
        have hne := fun W => neq_ac W x y
        unfold acV at hne
        have hdiff : C.take j = D.take j → ¬ x = y → ¬ C = D := by
          intro h1 h2 h3
          subst h3
          rw [t1] at t2
          have := List.append_cancel_left t2
          simp at this
          exact h2 this
        by_cases hxy : x = y
        · rw [decide_eq_true hxy] at hne
          replace hw := Lib.hid hw
          replace t1 := Lib.hid t1
          replace t2 := Lib.hid t2
          replace htk := Lib.hid htk
          replace hjC := Lib.hid hjC
          replace hjD := Lib.hid hjD
          replace hxy := Lib.hid hxy
          replace hdiff := Lib.hid hdiff
          go_wp2_with (go_quiet (fail))
          go_roundw
          case rel => exact ⟨j + 1, by go_num, by omega, by rw [t1.out, t2.out, htk.out, hxy.out], _, by rw [← hw.out, World.drewN_drewN]⟩
          case measure => simp [intOf]; omega
        · rw [decide_eq_false hxy] at hne
          have hno : sameAc C D = false := decide_eq_false (hdiff htk hxy)
          replace hw := Lib.hid hw
          replace t1 := Lib.hid t1
          replace t2 := Lib.hid t2
          replace htk := Lib.hid htk
          replace hjC := Lib.hid hjC
          replace hjD := Lib.hid hjD
          replace hxy := Lib.hid hxy
          replace hdiff := Lib.hid hdiff
          go_wp2_with (go_quiet (fail))
          go_ret
          exact ⟨by rw [hno]; rfl, _, by rw [← hw.out, World.drewN_drewN]⟩
      · have hjn : j = n := by omega
        subst hjn
        have heq : sameAc C D = true := by
          refine decide_eq_true ?_
          rw [List.take_of_length_le (by have := la.out; omega), List.take_of_length_le (by have := lb.out; omega)] at htk
          exact htk
        replace htk := Lib.hid htk
        go_wp2_with fail
        go_ret
        exact ⟨by rw [heq]; rfl, k, rfl⟩
  · have hno : sameAc C D = false := decide_eq_false (fun h => hnm (by rw [← la, ← lb, h]))
    have hnm2 : ((n : Int) == (m : Int)) = false := by simp; omega
    replace hA := Lib.hid hA
    replace hB := Lib.hid hB
    replace la := Lib.hid la
    replace lb := Lib.hid lb
    replace hnm := Lib.hid hnm
    go_enter Try.func14, Try.ntmps14
    go_wp2_with fail
    go_ret
    exact ⟨by rw [hno]; rfl, 0, rfl⟩
end Go.Proofs.Ytaohgefpnndjcaa
