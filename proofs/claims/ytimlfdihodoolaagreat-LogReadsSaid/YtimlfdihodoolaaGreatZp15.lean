import Derived.Test.YtimlfdihodoolaaGreatZp6
import Derived.Test.YtimlfdihodoolaaGreatZp14
import Derived.Deep.RegionHeld3
/-
  The reference's Name. No condition.
-/
namespace Go.Proofs.YtimlfdihodoolaaGreat
set_option linter.unusedVariables false
set_option linter.unusedSimpArgs false
open Go.RowKit
def SameW (w wr : World) : Prop := w = wr
theorem sign_nat (b : UInt8) : isSign b = ((decide (97 ≤ b.toNat) && decide (b.toNat ≤ 122)) || (decide (48 ≤ b.toNat) && decide (b.toNat ≤ 57))) := by
  unfold isSign
  rfl
set_option maxRecDepth 100000 in
set_option maxHeartbeats 2000000 in
theorem rname_ok (w : World) (s : ByteArray) (hsz : s.size ≤ maxLen) : Calls Tryz.prog 76 #[.string s] w fun e w' => e = .returned (.bool (nameB s.data.toList)) ∧ w = w' := by
  unfold maxLen at hsz
  go_enter Tryz.func76, Tryz.ntmps76
  go_wp2_with fail
  go_loopw [3] (fun x wr => ∃ j : Nat, x = .int .i64 j ∧ j ≤ s.size ∧ (∀ i (h : i < s.size), i < j → isSign s[i] = true) ∧ SameW w wr) (fun x _ => s.size - (intOf x).toNat)
  case atStart => exact ⟨0, rfl, by omega, fun i _ h => absurd h (by omega), rfl⟩
  case round =>
    obtain ⟨j, rfl, hj, hall, hw⟩ := hrel
    cases hw
    by_cases hlt : j < s.size
    · obtain ⟨k, hk⟩ : ∃ k, (s[j]'hlt).toNat = k := ⟨_, rfl⟩
      have hk256 : k < 256 := by rw [← hk]; exact UInt8.toNat_lt _
      have hsg := sign_nat (s[j]'hlt)
      rw [hk] at hsg
      have hyes : isSign (s[j]'hlt) = true → ∀ i (h : i < s.size), i < j + 1 → isSign s[i] = true := fun h0 i h h1 => by
        by_cases e : i = j
        · subst e; exact h0
        · exact hall i h (by omega)
      have hno : isSign (s[j]'hlt) = false → nameB s.data.toList = false := name_no s j hlt
      have hcs : k < 48 ∨ (48 ≤ k ∧ k ≤ 57) ∨ (57 < k ∧ k < 97) ∨ (97 ≤ k ∧ k ≤ 122) ∨ 122 < k := by omega
      rcases hcs with h1 | h1 | h1 | h1 | h1
      · have f1 : decide ((97 : Int) ≤ (k : Int)) = false := decide_eq_false (by omega)
        have f2 : decide ((k : Int) ≤ 122) = true := decide_eq_true (by omega)
        have f3 : decide ((48 : Int) ≤ (k : Int)) = false := decide_eq_false (by omega)
        have f4 : decide ((k : Int) ≤ 57) = true := decide_eq_true (by omega)
        rw [show ((decide (97 ≤ k) && decide (k ≤ 122)) || (decide (48 ≤ k) && decide (k ≤ 57))) = false by simp; omega] at hsg
        have hr := hno hsg
        clear hyes hno
        replace hall := Lib.hid hall
        replace hsg := Lib.hid hsg
        replace hr := Lib.hid hr
        go_wp2_with fail
        go_ret
        exact ⟨by rw [hr.out] <;> rfl, rfl⟩
      · have f1 : decide ((97 : Int) ≤ (k : Int)) = false := decide_eq_false (by omega)
        have f2 : decide ((k : Int) ≤ 122) = true := decide_eq_true (by omega)
        have f3 : decide ((48 : Int) ≤ (k : Int)) = true := decide_eq_true (by omega)
        have f4 : decide ((k : Int) ≤ 57) = true := decide_eq_true (by omega)
        rw [show ((decide (97 ≤ k) && decide (k ≤ 122)) || (decide (48 ≤ k) && decide (k ≤ 57))) = true by simp; omega] at hsg
        have hr := hyes hsg
        clear hyes hno
        replace hall := Lib.hid hall
        replace hsg := Lib.hid hsg
        replace hr := Lib.hid hr
        go_wp2_with fail
        go_roundw
        case rel => exact ⟨j + 1, by go_num, by omega, hr.out, rfl⟩
        case measure => simp [intOf]; omega
      · have f1 : decide ((97 : Int) ≤ (k : Int)) = false := decide_eq_false (by omega)
        have f2 : decide ((k : Int) ≤ 122) = true := decide_eq_true (by omega)
        have f3 : decide ((48 : Int) ≤ (k : Int)) = true := decide_eq_true (by omega)
        have f4 : decide ((k : Int) ≤ 57) = false := decide_eq_false (by omega)
        rw [show ((decide (97 ≤ k) && decide (k ≤ 122)) || (decide (48 ≤ k) && decide (k ≤ 57))) = false by simp; omega] at hsg
        have hr := hno hsg
        clear hyes hno
        replace hall := Lib.hid hall
        replace hsg := Lib.hid hsg
        replace hr := Lib.hid hr
        go_wp2_with fail
        go_ret
        exact ⟨by rw [hr.out] <;> rfl, rfl⟩
      · have f1 : decide ((97 : Int) ≤ (k : Int)) = true := decide_eq_true (by omega)
        have f2 : decide ((k : Int) ≤ 122) = true := decide_eq_true (by omega)
        have f3 : decide ((48 : Int) ≤ (k : Int)) = true := decide_eq_true (by omega)
        have f4 : decide ((k : Int) ≤ 57) = false := decide_eq_false (by omega)
        rw [show ((decide (97 ≤ k) && decide (k ≤ 122)) || (decide (48 ≤ k) && decide (k ≤ 57))) = true by simp; omega] at hsg
        have hr := hyes hsg
        clear hyes hno
        replace hall := Lib.hid hall
        replace hsg := Lib.hid hsg
        replace hr := Lib.hid hr
        go_wp2_with fail
        go_roundw
        case rel => exact ⟨j + 1, by go_num, by omega, hr.out, rfl⟩
        case measure => simp [intOf]; omega
      · have f1 : decide ((97 : Int) ≤ (k : Int)) = true := decide_eq_true (by omega)
        have f2 : decide ((k : Int) ≤ 122) = false := decide_eq_false (by omega)
        have f3 : decide ((48 : Int) ≤ (k : Int)) = true := decide_eq_true (by omega)
        have f4 : decide ((k : Int) ≤ 57) = false := decide_eq_false (by omega)
        rw [show ((decide (97 ≤ k) && decide (k ≤ 122)) || (decide (48 ≤ k) && decide (k ≤ 57))) = false by simp; omega] at hsg
        have hr := hno hsg
        clear hyes hno
        replace hall := Lib.hid hall
        replace hsg := Lib.hid hsg
        replace hr := Lib.hid hr
        go_wp2_with fail
        go_ret
        exact ⟨by rw [hr.out] <;> rfl, rfl⟩
    · have hres := name_all s (fun i h => hall i h (by omega))
      by_cases hz : s.size = 0
      · have e1 : decide ((1 : Int) ≤ (s.size : Int)) = false := decide_eq_false (by omega)
        replace hall := Lib.hid hall
        replace hres := Lib.hid hres
        go_wp2_with fail
        go_ret
        exact ⟨by rw [hres.out, hz] <;> rfl, rfl⟩
      · have e1 : decide ((1 : Int) ≤ (s.size : Int)) = true := decide_eq_true (by omega)
        replace hall := Lib.hid hall
        replace hres := Lib.hid hres
        go_wp2_with fail
        go_ret
        refine ⟨?_, rfl⟩
        rw [hres.out, decide_eq_true (show 0 < s.size by omega), Bool.true_and]
        show Ending.returned (.bool (decide ((s.size : Int) ≤ 8))) = _
        congr 2
        exact decide_eq_decide.2 (by omega)
end Go.Proofs.YtimlfdihodoolaaGreat
