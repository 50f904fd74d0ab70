/-
  The reference's Open.
-/
import Derived.Test.YtenlpklgpcnfiaaKnRf
import Derived.Test.YtenlpklgpcnfiaaKnO
namespace Go.Proofs.Ytenlpklgpcnfiaa
set_option linter.unusedVariables false
open Go.RowKit
theorem MMem.app {w0 w w' : World} {M n i : Nat} {q : Nat → Nat} {m : Nat → Nat → Bool} {B : Option Addr} {k c : Nat} {l : List Int} (h : MMem w0 w M n i q m) (hf : Fresh w0 B) (ho : OwZ w B k c l) (hm : Mod (fp B) w w') : MMem w0 w' M n i q m :=
  ⟨h.m0.app hf hm, h.fM, h.bM.mod hm (Ow.ne_blk ho h.bM (by decide)), fun a ha => (h.row a ha).mod hm (Ow.ne_blk ho (h.row a ha) (by decide)), h.fq, h.neM, h.inj⟩
open Classical in
noncomputable def openP (g : List (List Int)) (known : List Bool) (i k : Nat) : Bool := isK known i && decide (∀ v, v < k → TC g i v → isK known v = true)
open Classical in
theorem openP_zero {g : List (List Int)} {known : List Bool} {i : Nat} : openP g known i 0 = isK known i := by
  unfold openP
  rw [decide_eq_true (fun v h => absurd h (Nat.not_lt_zero v)), Bool.and_true]
theorem openP_full {g : List (List Int)} {known : List Bool} {i : Nat} : openP g known i g.length = openB g known i := by
  unfold openP openB
  congr 1
  rw [decide_eq_decide]
  exact ⟨fun h v hv => h v hv.lt hv, fun h v _ hv => h v hv⟩
theorem openP_keep {g : List (List Int)} {known : List Bool} {i k : Nat} (h : TC g i k → isK known k = true) : openP g known i (k + 1) = openP g known i k := by
  unfold openP
  congr 1
  rw [decide_eq_decide]
  exact ⟨fun h1 v hv => h1 v (by omega), fun h1 v hv ht => by
    by_cases e : v = k
    · subst e; exact h ht
    · exact h1 v (by omega) ht⟩
open Classical in
theorem openP_no {g : List (List Int)} {known : List Bool} {i k : Nat} (h : TC g i k) (hk : isK known k = false) : openP g known i (k + 1) = false := by
  unfold openP
  rw [decide_eq_false (fun h1 => by rw [h1 k (by omega) h] at hk; cases hk), Bool.and_false]
set_option maxRecDepth 100000 in
set_option maxHeartbeats 8000000 in
theorem ropen_ok (w : World) (A : Option Addr) (n c : Nat) (ss : List SV) (g : List (List Int)) (hg : RdG w A n ss g) (hn : n ≤ 1000000) (KA : Option Addr) (kn kc : Nat) (known : List Bool) (hk : Rd w 1 KA kn (tvs known)) (hkn : kn ≤ 140737488355328) :
    Calls Try.prog 15 #[.slice A n c, .slice KA kn kc] w (ReachPost (openL g known) w) := by
  have hgl := hg.len
  have hkl : known.length = kn := by have := hk.1; simp [tvs] at this; exact this
  have kr := Lib.hid (rreach_ok w A n c ss g hg hn)
  replace hg := Lib.hid hg
  replace hk := Lib.hid hk
  replace hgl := Lib.hid hgl
  go_enter Try.func15, Try.ntmps15
  go_wp2_with fail
  with_reducible refine kr.out.mono ?_
  rintro e w1 ⟨M, q, m, rfl, hM1, hm⟩
  dsimp only
  replace hM1 := Lib.hid hM1
  replace hm := Lib.hid hm
  go_wp2_with fail
  go_loopg [6, 7] n (fun k v6 v wr => ∃ i B c', v = .int .i64 (i : Nat) ∧ i + k = n ∧ v6 = .slice B (pickI (openB g known) i).length c' ∧ OwZ wr B (pickI (openB g known) i).length c' (zs (pickI (openB g known) i)) ∧ Fresh w B ∧ MMem w wr M n n q m)
  case atStart => exact ⟨0, none, 0, rfl, by omega, rfl, Ow.nil _ _ _, fun a ha => (by cases ha), hM1.out⟩
  case round =>
    obtain ⟨i, B, c', rfl, hik, rfl, ho, hf, hM⟩ := hrel
    have hpl := pickI_len (openB g known) i
    have hpx := pickI_succ (openB g known) i
    generalize hpn : (pickI (openB g known) i).length = pn at *
    by_cases hlt : i < n
    · have hkr := Rd.mod0 hk.out hM.m0
      replace ho := Lib.hid ho
      replace hf := Lib.hid hf
      replace hpx := Lib.hid hpx
      replace hpn := Lib.hid hpn
      replace hM := Lib.hid hM
      by_cases hik2 : i < kn
      · have hd0 : (i : Int) < (kn : Int) := by omega
        obtain ⟨b, o, hA, hc⟩ := Rd.form hkr (show 0 < kn by omega) (by omega)
        subst hA
        have xi := hc i _ (tvs_get (show i < known.length by omega))
        rw [← isK_in (show i < known.length by omega)] at xi
        clear hc
        replace hkr := Lib.hid hkr
        go_wp2_with fail
        go_loopg [8, 9] n (fun k2 v8 v wr2 => ∃ k, v = .int .i64 (k : Nat) ∧ k + k2 = n ∧ v8 = .bool (openP g known i k) ∧ wr2 = wr)
        case atStart => exact ⟨0, rfl, by omega, by rw [openP_zero], rfl⟩
        case round =>
          obtain ⟨k, rfl, hkk, rfl, rfl⟩ := hrel
          by_cases hkn2 : k < n
          · obtain ⟨y1, y2, _⟩ := hM.out.cell (a := i) (v := k) hlt (Nat.le_refl _) hkn2
            have hmk := hm.out i k hlt hkn2
            cases hmv : m i k with
            | false =>
              rw [hmv] at y2
              have hP : openP g known i (k + 1) = openP g known i k := openP_keep fun h => by rw [hmk.2 h] at hmv; cases hmv
              generalize openP g known i k = p0 at *
              replace hmk := Lib.hid hmk
              replace hmv := Lib.hid hmv
              replace hP := Lib.hid hP
              go_wp2_with fail
              go_roundg (gk - 1)
              case measure => omega
              case rel => exact ⟨k + 1, by go_num, by omega, by rw [hP.out], rfl⟩
            | true =>
              rw [hmv] at y2
              have htc := hmk.1 hmv
              by_cases hkl2 : k < kn
              · have hd1 : ¬ ((kn : Int) ≤ (k : Int)) := by omega
                obtain ⟨b, o, hA, hc⟩ := Rd.form hkr.out (show 0 < kn by omega) (by omega)
                cases hA
                have xk := hc k _ (tvs_get (show k < known.length by omega))
                rw [← isK_in (show k < known.length by omega)] at xk
                clear hc
                cases hv : isK known k with
                | true =>
                  rw [hv] at xk
                  have hP : openP g known i (k + 1) = openP g known i k := openP_keep fun _ => hv
                  generalize openP g known i k = p0 at *
                  replace hmk := Lib.hid hmk
                  replace hmv := Lib.hid hmv
                  replace hP := Lib.hid hP
                  replace hv := Lib.hid hv
                  replace htc := Lib.hid htc
                  replace hkr := Lib.hid hkr
                  go_wp2_with fail
                  go_roundg (gk - 1)
                  case measure => omega
                  case rel => exact ⟨k + 1, by go_num, by omega, by rw [hP.out], rfl⟩
                | false =>
                  rw [hv] at xk
                  have hP : openP g known i (k + 1) = false := openP_no htc hv
                  generalize openP g known i k = p0 at *
                  replace hmk := Lib.hid hmk
                  replace hmv := Lib.hid hmv
                  replace hP := Lib.hid hP
                  replace hv := Lib.hid hv
                  replace htc := Lib.hid htc
                  replace hkr := Lib.hid hkr
                  go_wp2_with fail
                  go_roundg (gk - 1)
                  case measure => omega
                  case rel => exact ⟨k + 1, by go_num, by omega, by rw [hP.out], rfl⟩
              · have hd1 : (kn : Int) ≤ (k : Int) := by omega
                have hP : openP g known i (k + 1) = false := openP_no htc (isK_out (by omega))
                generalize openP g known i k = p0 at *
                replace hmk := Lib.hid hmk
                replace hmv := Lib.hid hmv
                replace hP := Lib.hid hP
                replace htc := Lib.hid htc
                go_wp2_with fail
                go_roundg (gk - 1)
                case measure => omega
                case rel => exact ⟨k + 1, by go_num, by omega, by rw [hP.out], rfl⟩
          · obtain rfl : k = n := by omega
            have hPf : openP g known i k = openB g known i := by rw [← openP_full, hgl.out]
            rw [hPf]
            cases hob : openB g known i with
            | true =>
              replace hPf := Lib.hid hPf
              replace hob := Lib.hid hob
              go_wp2_with (at_builtin; go_loud (refine appZ rfl (.tmp 55) (.tmp 57) rfl rfl (Ow.mod0 ho.out ((Mod.refl none_ _).alloc _)) rfl (rdi_one _ _ (i : Int)) (by omega) ?_; intro B5 c5 w5 ho5 hm5 hB5; replace ho5 := Lib.hid ho5; replace hm5 := Lib.hid hm5; replace hB5 := Lib.hid hB5))
              go_roundg (k - i - 1)
              case measure => omega
              case rel =>
                have hpx' := hpx.out
                rw [if_pos hob.out] at hpx'
                have hlen : (pickI (openB g known) (i + 1)).length = pn + 1 := by rw [hpx', List.length_append, hpn.out]; rfl
                have hM3 := hM.out.mod0 ((Mod.refl none_ _).alloc (.cells #[.int .i64 (i : Int)] 3))
                refine ⟨i + 1, B5, c5, by go_num, by omega, by rw [hlen], ?_, Fresh.app hf.out hM3.m0.size hB5.out, hM3.app hf.out (Ow.mod0 ho.out ((Mod.refl none_ _).alloc _)) hm5.out⟩
                rw [hlen, hpx', zs_app]
                exact ho5.out
            | false =>
              replace hPf := Lib.hid hPf
              replace hob := Lib.hid hob
              go_wp2_with fail
              go_roundg (k - i - 1)
              case measure => omega
              case rel =>
                have hpx' := hpx.out
                rw [if_neg (by rw [hob.out]; simp)] at hpx'
                exact ⟨i + 1, B, c', by go_num, by omega, by rw [hpx', hpn.out], by rw [hpx', hpn.out]; exact ho.out, hf.out, hM.out⟩
      · have hd0 : ¬ ((i : Int) < (kn : Int)) := by omega
        have hki : isK known i = false := isK_out (by omega)
        replace hkr := Lib.hid hkr
        replace hki := Lib.hid hki
        go_wp2_with fail
        go_loopg [8, 9] n (fun k2 v8 v wr2 => ∃ k, v = .int .i64 (k : Nat) ∧ k + k2 = n ∧ v8 = .bool (openP g known i k) ∧ wr2 = wr)
        case atStart => exact ⟨0, rfl, by omega, by rw [openP_zero]; rw [hki.out], rfl⟩
        case round =>
          obtain ⟨k, rfl, hkk, rfl, rfl⟩ := hrel
          by_cases hkn2 : k < n
          · obtain ⟨y1, y2, _⟩ := hM.out.cell (a := i) (v := k) hlt (Nat.le_refl _) hkn2
            have hmk := hm.out i k hlt hkn2
            cases hmv : m i k with
            | false =>
              rw [hmv] at y2
              have hP : openP g known i (k + 1) = openP g known i k := openP_keep fun h => by rw [hmk.2 h] at hmv; cases hmv
              generalize openP g known i k = p0 at *
              replace hmk := Lib.hid hmk
              replace hmv := Lib.hid hmv
              replace hP := Lib.hid hP
              go_wp2_with fail
              go_roundg (gk - 1)
              case measure => omega
              case rel => exact ⟨k + 1, by go_num, by omega, by rw [hP.out], rfl⟩
            | true =>
              rw [hmv] at y2
              have htc := hmk.1 hmv
              by_cases hkl2 : k < kn
              · have hd1 : ¬ ((kn : Int) ≤ (k : Int)) := by omega
                obtain ⟨b, o, hA, hc⟩ := Rd.form hkr.out (show 0 < kn by omega) (by omega)
                cases hA
                have xk := hc k _ (tvs_get (show k < known.length by omega))
                rw [← isK_in (show k < known.length by omega)] at xk
                clear hc
                cases hv : isK known k with
                | true =>
                  rw [hv] at xk
                  have hP : openP g known i (k + 1) = openP g known i k := openP_keep fun _ => hv
                  generalize openP g known i k = p0 at *
                  replace hmk := Lib.hid hmk
                  replace hmv := Lib.hid hmv
                  replace hP := Lib.hid hP
                  replace hv := Lib.hid hv
                  replace htc := Lib.hid htc
                  replace hkr := Lib.hid hkr
                  go_wp2_with fail
                  go_roundg (gk - 1)
                  case measure => omega
                  case rel => exact ⟨k + 1, by go_num, by omega, by rw [hP.out], rfl⟩
                | false =>
                  rw [hv] at xk
                  have hP : openP g known i (k + 1) = false := openP_no htc hv
                  generalize openP g known i k = p0 at *
                  replace hmk := Lib.hid hmk
                  replace hmv := Lib.hid hmv
                  replace hP := Lib.hid hP
                  replace hv := Lib.hid hv
                  replace htc := Lib.hid htc
                  replace hkr := Lib.hid hkr
                  go_wp2_with fail
                  go_roundg (gk - 1)
                  case measure => omega
                  case rel => exact ⟨k + 1, by go_num, by omega, by rw [hP.out], rfl⟩
              · have hd1 : (kn : Int) ≤ (k : Int) := by omega
                have hP : openP g known i (k + 1) = false := openP_no htc (isK_out (by omega))
                generalize openP g known i k = p0 at *
                replace hmk := Lib.hid hmk
                replace hmv := Lib.hid hmv
                replace hP := Lib.hid hP
                replace htc := Lib.hid htc
                go_wp2_with fail
                go_roundg (gk - 1)
                case measure => omega
                case rel => exact ⟨k + 1, by go_num, by omega, by rw [hP.out], rfl⟩
          · obtain rfl : k = n := by omega
            have hPf : openP g known i k = openB g known i := by rw [← openP_full, hgl.out]
            rw [hPf]
            cases hob : openB g known i with
            | true =>
              replace hPf := Lib.hid hPf
              replace hob := Lib.hid hob
              go_wp2_with (at_builtin; go_loud (refine appZ rfl (.tmp 55) (.tmp 57) rfl rfl (Ow.mod0 ho.out ((Mod.refl none_ _).alloc _)) rfl (rdi_one _ _ (i : Int)) (by omega) ?_; intro B5 c5 w5 ho5 hm5 hB5; replace ho5 := Lib.hid ho5; replace hm5 := Lib.hid hm5; replace hB5 := Lib.hid hB5))
              go_roundg (k - i - 1)
              case measure => omega
              case rel =>
                have hpx' := hpx.out
                rw [if_pos hob.out] at hpx'
                have hlen : (pickI (openB g known) (i + 1)).length = pn + 1 := by rw [hpx', List.length_append, hpn.out]; rfl
                have hM3 := hM.out.mod0 ((Mod.refl none_ _).alloc (.cells #[.int .i64 (i : Int)] 3))
                refine ⟨i + 1, B5, c5, by go_num, by omega, by rw [hlen], ?_, Fresh.app hf.out hM3.m0.size hB5.out, hM3.app hf.out (Ow.mod0 ho.out ((Mod.refl none_ _).alloc _)) hm5.out⟩
                rw [hlen, hpx', zs_app]
                exact ho5.out
            | false =>
              replace hPf := Lib.hid hPf
              replace hob := Lib.hid hob
              go_wp2_with fail
              go_roundg (k - i - 1)
              case measure => omega
              case rel =>
                have hpx' := hpx.out
                rw [if_neg (by rw [hob.out]; simp)] at hpx'
                exact ⟨i + 1, B, c', by go_num, by omega, by rw [hpx', hpn.out], by rw [hpx', hpn.out]; exact ho.out, hf.out, hM.out⟩
    · obtain rfl : i = n := by omega
      have hpe : pickI (openB g known) i = openL g known := by unfold openL; rw [hgl.out]
      rw [hpe] at ho hpn
      subst hpn
      replace ho := Lib.hid ho
      replace hf := Lib.hid hf
      replace hM := Lib.hid hM
      replace hpe := Lib.hid hpe
      go_wp2_with fail
      go_ret
      exact ⟨B, c', rfl, ho.out, hf.out, hM.out.m0⟩
end Go.Proofs.Ytenlpklgpcnfiaa
