/-
  The contract of ratio.Change, where every sum times the number is a sum, and so are their totals. No condition.
-/
import Derived.Test.YtlikknamliamiaaDoorRat2
import Derived.Test.YtlikknamliamiaaDoorCoinTotal
import Derived.OwnWalk
namespace Go.Proofs.YtlikknamliamiaaDoor
set_option linter.unusedVariables false
open Go.RowKit
def ChRel (w : World) (rs : List Int) (j : Nat) (v : Value) (wr : World) : Prop := ∃ A c, v = .slice A j c ∧ OwI wr A j c (rs.take j) ∧ Fresh w A ∧ Mod none_ w wr
theorem take_snoc {rs : List Int} {j : Nat} (h : j < rs.length) : rs.take j ++ [rs[j]] = rs.take (j+1) := by
  rw [List.take_succ_eq_append_getElem h]
set_option maxRecDepth 100000 in
set_option maxHeartbeats 2000000 in
theorem change_ok (w : World) (A : Option Addr) (n c x : Nat) (xs rs : List Int) (whole : Int) (h : RdI w A n xs) (hn : n ≤ 100) (h0 : 0 < n) (hin : I64s xs) (hrl : rs.length = n) (hrin : I64s rs)
    (ht : ∀ j (h1 : j < xs.length) (h2 : j < rs.length), timesR xs[j] x = some rs[j]) (hi1 : inI (isum xs) = true) (hi2 : inI (isum rs) = true) (hw : timesR (isum xs) x = some whole) (hwi : I64 whole) (hi3 : inI (isum rs - whole) = true) :
    Calls Tryd.prog 21 #[.slice A n c, .float .f64 x] w fun e w' => ∃ A' c', e = .returned (.tuple #[.slice A' n c', .int .i64 (isum rs - whole), .int .i64 0]) ∧ Mod none_ w w' := by
  have hl := h.len
  have c1 := Lib.hid (fun W j (h1 : j < xs.length) (h2 : j < rs.length) => by have := ratTimes_ok W xs[j] x; rw [ht j h1 h2] at this; exact this)
  have c2 := Lib.hid (fun W => by have := ratTimes_ok W (isum xs) x; rw [hw] at this; exact this)
  have c3 := Lib.hid (fun W hr => by have := total_ok W A n c xs hr (by omega) hin; rw [sumR_yes hi1] at this; exact this)
  have c4 := Lib.hid (fun W A' c' hr => by have := total_ok W A' n c' rs hr (by omega) hrin; rw [sumR_yes hi2] at this; exact this)
  have c5 := Lib.hid (fun W => by have := less_ok W (isum rs) whole ⟨(inI_yes.1 hi2).1, (inI_yes.1 hi2).2⟩ hwi; rw [sumR_yes hi3] at this; exact this)
  replace h := Lib.hid h
  replace hl := Lib.hid hl
  replace hin := Lib.hid hin
  replace hrl := Lib.hid hrl
  replace hrin := Lib.hid hrin
  replace ht := Lib.hid ht
  replace hi1 := Lib.hid hi1
  replace hi2 := Lib.hid hi2
  replace hi3 := Lib.hid hi3
  replace hw := Lib.hid hw
  replace hwi := Lib.hid hwi
  go_enter Tryd.func21, Tryd.ntmps21
  go_wp2_with fail
  go_loopw [7, 19] (fun v x wr => ∃ j : Nat, x = .int .i64 j ∧ j ≤ n ∧ ChRel w rs j v wr) (fun _ x _ => n - (intOf x).toNat)
  case atStart => exact ⟨0, rfl, by omega, none, 0, rfl, Ow.nil _ _ _, (fun _ h => by cases h), Mod.refl _ _⟩
  case round =>
    obtain ⟨j, rfl, hj, B, d, rfl, ho, hf, hm⟩ := hrel
    by_cases hlt : j < n
    · obtain ⟨b, o, e, hc⟩ := Rd.form (h.out.mod0 hm) (show 0 < n by omega) (by omega)
      subst e
      have hjl : j < xs.length := by rw [hl.out]; exact hlt
      have hjr : j < rs.length := by rw [hrl.out]; exact hlt
      have hcell := hc j _ (ivs_get hjl)
      clear hc
      have ct := Lib.hid (fun W => c1.out W j hjl hjr)
      have hnx := Lib.hid (take_snoc hjr)
      generalize xs[j] = y at hcell ct
      generalize rs[j] = r at ct hnx
      replace ho := Lib.hid ho
      replace hf := Lib.hid hf
      replace hm := Lib.hid hm
      replace hjl := Lib.hid hjl
      replace hjr := Lib.hid hjr
      go_wp2_with fail
      refine (ct.out _).mono ?_
      rintro e w1 ⟨rfl, hm1⟩
      dsimp only [errR]
      have m1 := Lib.hid (hm.out.then hm1 (fun _ _ h => h))
      have o1 := Lib.hid (ho.out.mod0 hm1)
      clear hm1
      go_wp2_with (at_builtin; go_loud (refine app64 rfl (.tmp 32) (.tmp 34) rfl rfl (o1.out.mod0 ((Mod.refl none_ _).alloc _)) rfl (rdi_one _ _ _) (by omega) ?_; intro A' c' w' ho' hm' hA'; replace ho' := Lib.hid ho'; replace hm' := Lib.hid hm'; replace hA' := Lib.hid hA'))
      go_roundw
      case rel =>
        refine ⟨j + 1, by go_num, by omega, A', c', rfl, ?_, Fresh.app hf.out (m1.out.alloc _).size hA'.out, (m1.out.alloc _).app hf.out hm'.out⟩
        have := ho'.out
        rwa [hnx.out] at this
      case measure => simp [intOf]; omega
    · have hjk : j = n := by omega
      subst hjk
      have hall : rs.take j = rs := List.take_of_length_le (by have := hrl.out; omega)
      rw [hall] at ho
      clear hall
      replace ho := Lib.hid ho
      replace hf := Lib.hid hf
      replace hm := Lib.hid hm
      go_wp2_with fail
      refine (c3.out wr (h.out.mod0 hm.out)).mono ?_
      rintro e w2 ⟨rfl, rfl⟩
      dsimp only
      go_wp2_with fail
      refine (c4.out wr B d ho.out.rd).mono ?_
      rintro e w2 ⟨rfl, rfl⟩
      dsimp only
      go_wp2_with fail
      refine (c2.out wr).mono ?_
      rintro e w2 ⟨rfl, hm1⟩
      dsimp only [errR]
      have m1 := Lib.hid (hm.out.then hm1 (fun _ _ h => h))
      clear hm1 hm
      go_wp2_with fail
      refine (c5.out w2).mono ?_
      rintro e w3 ⟨rfl, rfl⟩
      dsimp only
      go_wp2_with fail
      go_ret3
      exact ⟨_, _, rfl, m1.out⟩
end Go.Proofs.YtlikknamliamiaaDoor
