/-
  The reference's comparison of lists of numbers. No condition.
-/
import Derived.Test.YthoedngacopaiaaDoorApp
import Derived.Deep.QuietTactic
import Derived.BigQuiet
namespace Go.Proofs.YthoedngacopaiaaDoor
set_option linter.unusedVariables false
open Go.RowKit
theorem rdi_get {w : World} {A : Option Addr} {n : Nat} {xs : List Int} (h : RdI w A n xs) {j : Nat} (hj : j < n) : ∃ b o, A = some ⟨b, o, none⟩ ∧ ∃ hl : j < xs.length, w.cell? ⟨b, o + j, none⟩ = some (.int .i64 xs[j]) := by
  obtain ⟨b, o, e, hc⟩ := Rd.form h (by omega) (by omega)
  have hl : j < xs.length := by rw [h.len]; exact hj
  exact ⟨b, o, e, hl, hc j _ (ivs_get hl)⟩
set_option maxRecDepth 100000 in
theorem same1_ok (w : World) (A B : Option Addr) (n m d1 d2 : Nat) (la lb : List Int) (ha : RdI w A n la) (hb : RdI w B m lb) (hn : n ≤ 1000000000000000) (hm : m ≤ 1000000000000000) :
    Calls Tryd.prog 20 #[.slice A n d1, .slice B m d2] w fun e w' => e = .returned (.bool (decide (la = lb))) ∧ Mod none_ w w' := by
  have l1 := ha.len
  have l2 := hb.len
  replace ha := Lib.hid ha
  replace hb := Lib.hid hb
  replace l1 := Lib.hid l1
  replace l2 := Lib.hid l2
  by_cases hnm : n = m
  · subst hnm
    go_enter Tryd.func20, Tryd.ntmps20
    go_wp2_with fail
    go_loopw [5] (fun x wr => ∃ j : Nat, x = .int .i64 j ∧ j ≤ n ∧ la.take j = lb.take j ∧ Mod none_ w wr) (fun x _ => n - (intOf x).toNat)
    case atStart => exact ⟨0, rfl, by omega, by simp, Mod.refl _ w⟩
    case round =>
      obtain ⟨j, rfl, hj, he, hmr⟩ := hrel
      replace he := Lib.hid he
      by_cases hlt : j < n
      · obtain ⟨b, o, rfl, hla, hc1⟩ := rdi_get (Rd.mod0 ha.out hmr) hlt
        obtain ⟨b2, o2, rfl, hlb, hc2⟩ := rdi_get (Rd.mod0 hb.out hmr) hlt
        obtain ⟨x, hx⟩ : ∃ x, x = la[j] := ⟨_, rfl⟩
        obtain ⟨y, hy⟩ : ∃ y, y = lb[j] := ⟨_, rfl⟩
        rw [← hx] at hc1
        rw [← hy] at hc2
        by_cases hxy : x = y
        · have hnx : la.take (j + 1) = lb.take (j + 1) := by
            rw [List.take_succ_eq_append_getElem hla, List.take_succ_eq_append_getElem hlb, he.out, ← hx, ← hy, hxy]
          have hd : (x != y) = false := by simp [hxy]
          replace hx := Lib.hid hx
          replace hy := Lib.hid hy
          replace hxy := Lib.hid hxy
          replace hnx := Lib.hid hnx
          replace hmr := Lib.hid hmr
          go_wp2_with (go_quiet (fail))
          go_roundw
          case rel => exact ⟨j + 1, by go_num, by omega, hnx.out, hmr.out.drewN _⟩
          case measure => simp [intOf]; omega
        · have hne : Hid (decide (la = lb) = false) := by
            refine Lib.hid (decide_eq_false ?_)
            rintro rfl
            exact hxy (hx.trans hy.symm)
          have hd : (x != y) = true := by simp [hxy]
          replace hx := Lib.hid hx
          replace hy := Lib.hid hy
          replace hxy := Lib.hid hxy
          replace hmr := Lib.hid hmr
          go_wp2_with (go_quiet (fail))
          go_ret
          exact ⟨by rw [hne.out]; rfl, hmr.out.drewN _⟩
      · have hne : Hid (decide (la = lb) = true) := by
          refine Lib.hid (decide_eq_true ?_)
          have := he.out
          rwa [List.take_of_length_le (by have := l1.out; omega), List.take_of_length_le (by have := l2.out; omega)] at this
        replace hmr := Lib.hid hmr
        go_wp2_with fail
        go_ret
        exact ⟨by rw [hne.out]; rfl, hmr.out⟩
  · have hne : Hid (decide (la = lb) = false) := by
      refine Lib.hid (decide_eq_false ?_)
      rintro rfl
      exact hnm (l1.out.symm.trans l2.out)
    have hd : ((n : Int) != (m : Int)) = true := by simp; omega
    go_enter Tryd.func20, Tryd.ntmps20
    go_wp2_with fail
    go_ret
    exact ⟨by rw [hne.out]; rfl, Mod.refl _ w⟩
end Go.Proofs.YthoedngacopaiaaDoor
