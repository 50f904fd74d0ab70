/-
  Contracts of the references' Same, for lists of texts and for texts. No condition.
-/
import Derived.Test.YtameeeblhllemaaWrap
import Derived.BigQuiet
namespace Go.Proofs.Ytameeeblhllemaa
open Go.RowKit

theorem conv_bytes (A : Option Addr) (n c : Nat) (l : List UInt8) (w : World) (h : RdB w A n l) : ∀ k, (convert 22 9 (.slice A n c)).run Try.prog (w.drewN k) = .ok (.string (txt l)) (w.drewN k) :=
  fun k => run_string_of_bytes (P := Try.prog) (w.drewN k) 22 9 5 Try.underlying22 Try.underlying5 Try.underlying9 A n c l (h.drewN k)
theorem conv_bytes0 (A : Option Addr) (n c : Nat) (l : List UInt8) (w : World) (h : RdB w A n l) : (convert 22 9 (.slice A n c)).run Try.prog w = .ok (.string (txt l)) w :=
  run_string_of_bytes (P := Try.prog) w 22 9 5 Try.underlying22 Try.underlying5 Try.underlying9 A n c l h
theorem txt_inj (a b : List UInt8) : txt a = txt b ↔ a = b := by
  constructor
  · intro h; have := congrArg ByteArray.toList h; simpa using this
  · rintro rfl; rfl
theorem same3_ok (w : World) (A B : Option Addr) (n m d1 d2 : Nat) (sa sb : List SV) (la lb : List (List UInt8)) (ha : RdL w A n sa la) (hb : RdL w B m sb lb) (hn : n ≤ 140737488351232) :
    Calls Try.prog 21 #[.slice A n d1, .slice B m d2] w fun e w' => e = .returned (.bool (decide (la = lb))) ∧ Mod none_ w w' := by
  have HA := Lib.hid ha
  have HB := Lib.hid hb
  have la1 := Lib.hid ha.len
  have lb1 := Lib.hid hb.len
  clear ha hb
  generalize hans : decide (la = lb) = ans
  replace hans := Lib.hid hans
  go_enter Try.func21, Try.ntmps21
  by_cases q : n = m
  · subst q
    go_wp2_with fail
    go_loopw [5] (fun i wr => ∃ j k : Nat, i = .int .i64 j ∧ wr = w.drewN k ∧ j ≤ n ∧ la.take j = lb.take j) (fun i _ => n - (intOf i).toNat)
    case atStart => exact ⟨0, 0, rfl, rfl, by omega, by simp⟩
    case round =>
      obtain ⟨j, k, rfl, rfl, hjn, heq⟩ := hrel
      replace heq := Lib.hid heq
      by_cases q1 : j < n
      · obtain ⟨b, o, ⟨Sa, Sn, Sc⟩, l, rfl, hs, hl, hcell, hrb, hsn, hsc⟩ := HA.out.at_ q1
        obtain ⟨b', o', ⟨Sa', Sn', Sc'⟩, l', rfl, hs', hl', hcell', hrb', hsn', hsc'⟩ := HB.out.at_ q1
        simp only at hcell hrb hsn hsc hcell' hrb' hsn' hsc'
        have cv := conv_bytes _ _ Sc _ _ hrb
        have cv' := conv_bytes _ _ Sc' _ _ hrb'
        replace hl := Lib.hid hl
        replace hl' := Lib.hid hl'
        clear hs hs' hrb hrb'
        by_cases hll : l = l'
        · subst hll
          have hnext : la.take (j + 1) = lb.take (j + 1) := by rw [List.take_add_one, List.take_add_one, heq.out, hl.out, hl'.out]
          replace hnext := Lib.hid hnext
          go_wp2_with (go_quiet (fail))
          go_roundw
          case rel => exact ⟨j + 1, _, by go_num, rfl, by omega, hnext.out⟩
          case measure => simp [intOf]; omega
        · have hne : la ≠ lb := by rintro rfl; rw [hl.out] at hl'; exact hll (by have := hl'.out; injection this)
          obtain rfl : ans = false := by have := hans.out; simp [hne] at this; exact this
          have e1 : (!l == l') = true := by simp [hll]
          clear hne
          go_wp2_with (go_quiet (fail))
          go_ret
          exact ⟨rfl, ((Mod.refl _ w).drewN _).drewN _⟩
      · obtain rfl : ans = true := by
          have h2 := hans.out
          have := heq.out
          rw [List.take_of_length_le (by rw [la1.out]; omega), List.take_of_length_le (by rw [lb1.out]; omega)] at this
          simp [this] at h2; exact h2
        go_wp2
        go_ret
        exact ⟨rfl, (Mod.refl _ w).drewN _⟩
  · obtain rfl : ans = false := by
      have h1 : la ≠ lb := by rintro rfl; exact q (by rw [← la1.out, lb1.out])
      have h2 := hans.out
      simp [h1] at h2; exact h2
    have q' : ¬ (n : Int) = m := by omega
    go_wp2
    go_ret
    exact ⟨rfl, Mod.refl _ w⟩

theorem same2_ok (w : World) (A B : Option Addr) (n m d1 d2 : Nat) (la lb : List UInt8) (ha : RdB w A n la) (hb : RdB w B m lb) :
    Calls Try.prog 18 #[.slice A n d1, .slice B m d2] w fun e w' => e = .returned (.bool (decide (la = lb))) ∧ Mod none_ w w' := by
  have cv := conv_bytes _ _ d1 _ _ ha
  have cv' := conv_bytes _ _ d2 _ _ hb
  have cw := conv_bytes0 _ _ d1 _ _ ha
  have cw' := conv_bytes0 _ _ d2 _ _ hb
  clear ha hb
  go_enter Try.func18, Try.ntmps18
  go_wp2_with (go_quiet (fail))
  go_ret
  refine ⟨?_, Mod.refl _ w⟩
  by_cases h : la = lb <;> simp [h]
end Go.Proofs.Ytameeeblhllemaa
