/-
  ChartFree: the walk.
-/
import Derived.Test.YtgljnlafjolfpaaChFreeP
import Derived.Test.YtgljnlafjolfpaaChBack
import Derived.Deep.RegionHeld3
import Derived.Deep.CutRange
import Derived.Deep.CutBlock
import Derived.Test.YtgljnlafjolfpaaCls
namespace Go.Proofs.Ytgljnlafjolfpaa
set_option linter.unusedVariables false
open Go.RowKit
theorem wrapEq (x : Int) : IntKind.i64.wrap x = wrap64 x := by rw [IntKind.wrap_i64]; unfold wrap64; omega
theorem small_x (x : Int) : I64 (x.tmod 1099511627776) := by
  have h : (x.tmod 1099511627776).natAbs < 1099511627776 := by rw [Int.natAbs_tmod]; exact Nat.mod_lt _ (by decide)
  unfold I64; omega
set_option maxRecDepth 100000 in
set_option maxHeartbeats 4000000 in
theorem chartFree_walk (w : World) (A : Option Addr) (n c : Nat) (os : List OpV) (hr : Rd w 3 A n (os.flatMap OpV.cells)) (hnc : n ≤ c) (hok : ∀ o ∈ os, o.ok) :
    Calls Try.prog 3 #[.slice A n c] w fun e w' => e = .returned (.bool true) ∧ Below w.heap.size w w' := by
  have k0 := Lib.hid (lives_ok w)
  have k1 := Lib.hid (fun W => new_ok W)
  have ke := Lib.hid (fun W => early_ok W A n c hnc)
  replace hr := Lib.hid hr
  replace hok := Lib.hid hok
  go_enter Try.func3, Try.ntmps3
  go_wp2_with fail
  refine k0.out.mono ?_
  rintro e w0 ⟨rfl, hm0⟩
  dsimp only
  replace hm0 := Lib.hid hm0
  go_wp2_with fail
  refine (k1.out _).mono ?_
  rintro e w1 ⟨p, b, rfl, hc1, hm1, hp, hb⟩
  dsimp only
  have hmw1 := Lib.hid (hm0.out.then hm1 (fun _ _ h => h))
  have hsz0 := hm0.out.size
  replace hc1 := Lib.hid hc1
  replace hm1 := Lib.hid hm1
  go_wp2_with fail
  refine (ke.out _).mono ?_
  rintro e w2 ⟨rfl, rfl⟩
  dsimp only
  go_wp2_with fail
  go_loopw [4] (fun v wr => ∃ j : Nat, v = .int .i64 j ∧ j ≤ min n 150 ∧ Own_ w p b wr) (fun v _ => min n 150 - (intOf v).toNat)
  case atStart => exact ⟨0, rfl, by omega, [], hc1.out, OkC.nil, hmw1.out⟩
  case round =>
    obtain ⟨j, rfl, hj, C, hC, oC, hm⟩ := hrel
    by_cases hlt : j < min n 150
    · have hjn : j < n := by omega
      obtain ⟨ab, ao, op, rfl, hmem, e0, e1, e2⟩ := ops_get (hr.out.mod0 hm) hjn
      have hopk := hok.out op hmem
      obtain ⟨k, s, x0⟩ := op
      obtain ⟨sl, rfl⟩ : ∃ sl, s = txt sl := ⟨s.data.toList, rfl⟩
      dsimp only at e0 e1 e2 hopk
      have hopx := small_x x0
      obtain ⟨x, hx⟩ : ∃ x, x0.tmod 1099511627776 = x := ⟨_, rfl⟩
      rw [hx] at hopx
      have ka := Lib.hid (fun W (h : ChAt W p b C) => all_ok W p b C h (by have := oC.2; omega) oC.nm)
      have kd := Lib.hid (fun W (h : ChAt W p b C) => by have := does_ok W p b C k x (txt sl) h hopk.1 oC hopx; rw [show (txt sl).data.toList = sl from rfl] at this; exact this)
      have oC' := step_okc oC (kindN k) sl x hopx
      have hsame := fun h => step_same (C := C) (k := kindN k) (s := sl) (x := x) h
      have hfree : ∀ a ∈ (stepR C (kindN k) sl x).1, a.n = sl → ((kindN k = 1 ∧ 0 ≤ x) ∨ (kindN k = 2 ∧ 0 < x)) → wrap64 (a.h - a.s) < -a.l → (stepR C (kindN k) sl x).1 = C := fun a ha hn hk hl => free_law hC.sorted oC ha hn hk hl
      generalize stepR C (kindN k) sl x = r at *
      obtain ⟨C', er⟩ := r
      dsimp only at oC' hsame hfree
      have ka' := Lib.hid (fun W (h : ChAt W p b C') => all_ok W p b C' h (by have := oC'.2; omega) oC'.nm)
      have ksame := Lib.hid (fun W A1 d1 A2 d2 (hA : RdA W A1 C'.length C') (hB : RdA W A2 C.length C) => same_ok W A1 A2 C'.length C.length d1 d2 C' C hA hB (by have := oC'.2; omega) (by have := oC.2; omega))
      have kk := Lib.hid (fun W => kind_ok W k x (txt sl))
      have hlC' := oC'.2
      replace hC := Lib.hid hC
      replace oC := Lib.hid oC
      replace hm := Lib.hid hm
      replace hmem := Lib.hid hmem
      replace hopk := Lib.hid hopk
      replace hopx := Lib.hid hopx
      replace hsame := Lib.hid hsame
      replace hfree := Lib.hid hfree
      replace oC' := Lib.hid oC'
      go_wp2_with fail
      refine (ka.out _ ((hC.out.alloc _))).mono ?_
      rintro e w4 ⟨A4, c4, rfl, ho4, hf4, hm4⟩
      dsimp only
      have hq4 := (Blk.new wr 28 #[.int .i64 k, .string (txt sl), .int .i64 x]).mod hm4 (fun h => h)
      have q0 : w4.cell? ⟨wr.heap.size, 0, none⟩ = some (.int .i64 k) := hq4.cell_ rfl
      have q1 : w4.cell? ⟨wr.heap.size, 1, none⟩ = some (.string (txt sl)) := hq4.cell_ rfl
      have q2 : w4.cell? ⟨wr.heap.size, 2, none⟩ = some (.int .i64 x) := hq4.cell_ rfl
      have hC4 := (hC.out.alloc (.cells #[.int .i64 k, .string (txt sl), .int .i64 x] 28)).mod0 hm4
      have hmw4 := Lib.hid ((hm.out.alloc (.cells #[.int .i64 k, .string (txt sl), .int .i64 x] 28)).then hm4 (fun _ _ h => h))
      replace ho4 := Lib.hid ho4
      replace hf4 := Lib.hid hf4
      replace hm4 := Lib.hid hm4
      replace hq4 := Lib.hid hq4
      replace hC4 := Lib.hid hC4
      go_upto_region 11 with fail
      go_cut [40] from 14 to 140 (fun v W => v = .bool false ∧ ChAt W p b C' ∧ Blk W wr.heap.size 28 #[.int .i64 k, .string (txt sl), .int .i64 x] ∧ RdA W A4 C.length C ∧ Mod none_ w W)
      case first =>
        go_wp2_with fail
        refine (kd.out _ hC4.out).mono ?_
        rintro e w5 ⟨rfl, hC5, hm5⟩
        dsimp only at hC5 ⊢
        have hsep1 : wr.heap.size ≠ b := by have := hC.out.2.1.lt; omega
        have hsepA : ∀ i, fp A4 i → i ≠ b := fun i hi => by
          obtain ⟨q, hq, rfl⟩ := hi
          have h1 := hf4.out q hq
          have h2 := hC.out.2.1.lt
          have h3 : (wr.alloc (.cells #[.int .i64 k, .string (txt sl), .int .i64 x] 28)).heap.size = wr.heap.size + 1 := by simp
          omega
        have hq5 := Lib.hid (hq4.out.mod hm5 hsep1)
        have ho5 := Lib.hid (Ow.rd (Ow.mod ho4.out hm5 hsepA))
        have hmw5 := Lib.hid (hmw4.out.then hm5 (fun i hi he => by have : i = b := he; omega))
        clear q0 q1 q2 hsep1 hsepA ho4 hf4 hm4 hq4 hC4 hmw4
        replace hC5 := Lib.hid hC5
        replace hm5 := Lib.hid hm5
        by_cases her : er = 0
        · subst her
          go_wp2_with fail
          go_meet
          exact ⟨rfl, hC5.out, hq5.out, ho5.out, hmw5.out⟩
        · have hz : (er == 0) = false := by simpa using her
          have hCC := Lib.hid (hsame.out her)
          replace her := Lib.hid her
          go_wp2_with fail
          refine (ka'.out _ hC5.out).mono ?_
          rintro e w5b ⟨A5, c5, rfl, ho5b, hf5, hm5b⟩
          dsimp only
          have ks := ksame.out w5b A5 c5 A4 c4 (Ow.rd ho5b) (Rd.mod0 ho5.out hm5b)
          rw [show sameAc C' C = true from decide_eq_true hCC.out] at ks
          have hC6 := hC5.out.mod0 hm5b
          have hq6 := hq5.out.mod hm5b (fun h => h)
          have ho6 := Rd.mod0 ho5.out hm5b
          have hmw6 := hmw5.out.then hm5b (fun _ _ h => h)
          clear hC5 hq5 ho5 hmw5 hm5 ho5b hf5 hm5b
          replace ks := Lib.hid ks
          replace hC6 := Lib.hid hC6
          replace hq6 := Lib.hid hq6
          replace ho6 := Lib.hid ho6
          replace hmw6 := Lib.hid hmw6
          go_wp2_with fail
          refine ks.out.mono ?_
          rintro e w5c ⟨rfl, kx, rfl⟩
          dsimp only
          have hC5 := Lib.hid (hC6.out.mod0 ((Mod.refl none_ _).drewN kx))
          have hq5 := Lib.hid (hq6.out.mod ((Mod.refl none_ _).drewN kx) (fun h => h))
          have ho5 := Lib.hid (Rd.mod0 ho6.out ((Mod.refl none_ _).drewN kx))
          have hmw5 := Lib.hid (hmw6.out.drewN kx)
          clear hC6 hq6 ho6 hmw6 ks
          go_wp2_with fail
          go_meet
          exact ⟨rfl, hC5.out, hq5.out, ho5.out, hmw5.out⟩
      case rest =>
        obtain ⟨rfl, hC5, hq5, ho5, hmw5⟩ := hcut
        clear q0 q1 q2 ho4 hf4 hm4 hq4 hC4 hmw4 hsame
        replace hC5 := Lib.hid hC5
        replace hq5 := Lib.hid hq5
        replace ho5 := Lib.hid ho5
        replace hmw5 := Lib.hid hmw5
        go_wp2_with fail
        refine (ka'.out _ hC5.out).mono ?_
        rintro e w7 ⟨A7, c7, rfl, ho7, hf7, hm7⟩
        dsimp only
        have hC7 := Lib.hid (hC5.out.mod0 hm7)
        have hq7 := Lib.hid (hq5.out.mod hm7 (fun h => h))
        have rA := Lib.hid (Rd.mod0 ho5.out hm7)
        have rB := Lib.hid (Ow.rd ho7)
        have hmw7 := Lib.hid (hmw5.out.then hm7 (fun _ _ h => h))
        clear hC5 hq5 ho5 hmw5 ho7 hf7 hm7 ka ka' kd hC hm
        generalize wr.heap.size = ob at *
        go_wp2_with fail
        go_loopw [8] (fun v wr => ∃ i : Nat, v = .int .i64 i ∧ i ≤ C'.length ∧ Mod none_ w7 wr) (fun v _ => C'.length - (intOf v).toNat)
        case atStart => exact ⟨0, rfl, by omega, Mod.refl _ _⟩
        case round =>
          obtain ⟨i, rfl, hi, hmi⟩ := hrel
          by_cases hil : i < C'.length
          · have hsr := hC7.out.sorted
            obtain ⟨gb, gp, rfl, y1, y2, y3, y4⟩ := rda_get rB.out hil (by omega)
            have hyC := List.getElem_mem hil
            have hyw := oC'.out.wf _ hyC
            unfold WfA at hyw
            have hfr := hfree.out _ hyC
            have hbf : ∀ (q : Nat) (h : q < i), bytesBefore (C'[q]'(by omega)).n C'[i].n = true := fun q h => List.pairwise_iff_getElem.1 hsr q i _ _ h
            generalize C'[i] = ya at *
            obtain ⟨yn, yh, ys, yl⟩ := ya
            dsimp only at y1 y2 y3 y4 hfr hbf hyw
            have s1 : decide (ys < 0) = false := decide_eq_false (by have := hyw.2.2.2.1; omega)
            have s2 : decide (yl < 0) = false := decide_eq_false (by have := hyw.2.2.2.2; omega)
            have hv2n : wrap64 (-yl) = -yl := IntWalk.wrap64_in _ (by have h1 := hyw.2.2.2.2; have h2 := hyw.2.2.1; unfold I64 at *; omega)
            obtain ⟨v1, hv1⟩ : ∃ v, wrap64 (yh - ys) = v := ⟨_, rfl⟩
            have hv1b : IntKind.i64.wrap (yh - ys) = v1 := by rw [← hv1]; exact wrapEq _
            obtain ⟨v2, hv2⟩ : ∃ v, wrap64 (-yl) = v := ⟨_, rfl⟩
            have hv2b : IntKind.i64.wrap (-yl) = v2 := by rw [← hv2]; exact wrapEq _
            rw [hv1, show -yl = v2 by rw [← hv2n]; exact hv2] at hfr
            have hS := Lib.hid (fun W (h : Mod none_ w7 W) => show Mod none_ w7 W ∧ W.cell? ⟨ob, 0, none⟩ = some (.int .i64 k) ∧ W.cell? ⟨ob, 1, none⟩ = some (.string (txt sl)) ∧ W.cell? ⟨ob, 2, none⟩ = some (.int .i64 x) ∧ W.cell? ⟨gb, gp + i*4, none⟩ = some (.string (txt yn)) ∧ W.cell? ⟨gb, gp + i*4 + 1, none⟩ = some (.int .i64 yh) ∧ W.cell? ⟨gb, gp + i*4 + 2, none⟩ = some (.int .i64 ys) ∧ W.cell? ⟨gb, gp + i*4 + 3, none⟩ = some (.int .i64 yl) from
              ⟨h, (hq7.out.mod h (fun h => h)).cell_ rfl, (hq7.out.mod h (fun h => h)).cell_ rfl, (hq7.out.mod h (fun h => h)).cell_ rfl, h.cell_some y1 (fun h => h), h.cell_some y2 (fun h => h), h.cell_some y3 (fun h => h), h.cell_some y4 (fun h => h)⟩)
            clear y1 y2 y3 y4
            replace hyw := Lib.hid hyw
            replace hfr := Lib.hid hfr
            replace hyC := Lib.hid hyC
            replace hsr := Lib.hid hsr
            replace hmi := Lib.hid hmi
            replace hv2n := Lib.hid hv2n
            go_upto_region 17 with fail
            go_cut [80] from 43 to 140 (fun v W => v = .bool false ∧ Mod none_ w7 W)
            case first =>
              obtain ⟨_, _, _, _, y1, y2, y3, y4⟩ := hS.out _ hmi.out
              by_cases hi0 : i = 0
              · have d0 : decide ((0:Int) < (i:Int)) = false := decide_eq_false (by omega)
                have d1 : decide (0 < i) = false := decide_eq_false (by omega)
                have d2 : ¬ 0 < i := by omega
                clear hbf
                replace hi0 := Lib.hid hi0
                go_wp2_with fail
                go_quiet (fail)
                go_wp2_with fail
                go_meet
                exact ⟨rfl, hmi.out.drewN _⟩
              · have d0 : decide ((0:Int) < (i:Int)) = true := decide_eq_true (by omega)
                obtain ⟨pi, hpi⟩ : ∃ pi, i = pi + 1 := ⟨i - 1, by omega⟩
                have hwp : IntKind.i64.wrap ((i:Int) - 1) = (pi:Int) := by rw [(IntKind.wrap_i64 _)]; omega
                have hwp2 : wrap64 ((i:Int) - 1) = (pi:Int) := by unfold wrap64; omega
                have hpl : pi < C'.length := by omega
                obtain ⟨gb', gp', hge, z1, _, _, _⟩ := rda_get (Rd.mod0 rB.out hmi.out) hpl (by omega)
                have hge1 : gb = gb' ∧ gp = gp' := by injection hge with h; injection h with h1 h2; exact ⟨h1, h2⟩
                obtain ⟨rfl, rfl⟩ := hge1
                clear hge
                have hle : Op.bytesLess C'[pi].n yn = true := by rw [less_before]; exact hbf pi (by omega)
                generalize C'[pi].n = pn at z1 hle
                have d1 : decide (0 < i) = true := decide_eq_true (by omega)
                have d2 : 0 < i := by omega
                clear hbf
                replace hi0 := Lib.hid hi0
                replace hpi := Lib.hid hpi
                go_wp2_with fail
                go_quiet (fail)
                go_wp2_with fail
                go_meet
                exact ⟨rfl, hmi.out.drewN _⟩
            case rest =>
              obtain ⟨rfl, hmc⟩ := hcut
              clear hbf
              replace hmc := Lib.hid hmc
              go_upto_region 19 with fail
              clear hmi
              go_cut [140] from 43 to 140 (fun v W => v = .bool false ∧ Mod none_ w7 W)
              case first =>
                by_cases hc1 : v1 < v2
                · have c1 : decide (v1 < v2) = true := decide_eq_true hc1
                  have hne : Nonempty (Cls (Mod none_ w7)) := ⟨⟨w7, Mod.refl _ _⟩⟩
                  have g0 : ∀ s : Cls (Mod none_ w7), s.W.cell? ⟨ob, 0, none⟩ = some (.int .i64 k) := fun s => (hS.out _ s.ok).2.1
                  have g1 : ∀ s : Cls (Mod none_ w7), s.W.cell? ⟨ob, 1, none⟩ = some (.string (txt sl)) := fun s => (hS.out _ s.ok).2.2.1
                  have g2 : ∀ s : Cls (Mod none_ w7), s.W.cell? ⟨ob, 2, none⟩ = some (.int .i64 x) := fun s => (hS.out _ s.ok).2.2.2.1
                  have g3 : ∀ s : Cls (Mod none_ w7), s.W.cell? ⟨gb, gp + i*4, none⟩ = some (.string (txt yn)) := fun s => (hS.out _ s.ok).2.2.2.2.1
                  have g4 : ∀ s : Cls (Mod none_ w7), s.W.cell? ⟨gb, gp + i*4 + 1, none⟩ = some (.int .i64 yh) := fun s => (hS.out _ s.ok).2.2.2.2.2.1
                  have g5 : ∀ s : Cls (Mod none_ w7), s.W.cell? ⟨gb, gp + i*4 + 2, none⟩ = some (.int .i64 ys) := fun s => (hS.out _ s.ok).2.2.2.2.2.2.1
                  have g6 : ∀ s : Cls (Mod none_ w7), s.W.cell? ⟨gb, gp + i*4 + 3, none⟩ = some (.int .i64 yl) := fun s => (hS.out _ s.ok).2.2.2.2.2.2.2
                  have ks := Lib.hid (fun (hCC : C' = C) W (h : Mod none_ w7 W) => show Calls Try.prog 13 #[.slice (some ⟨gb, gp, none⟩) C'.length c7, .slice A4 C.length c4] W (fun e w' => e = .returned (.bool true) ∧ ∃ k, w' = W.drewN k) from by
                    have H := ksame.out W (some ⟨gb, gp, none⟩) c7 A4 c4 (Rd.mod0 rB.out h) (Rd.mod0 rA.out h)
                    rw [show sameAc C' C = true from decide_eq_true hCC] at H
                    exact H)
                  have e1 : ∀ h : yn = sl, (yn == sl) = true := fun h => by rw [h]; exact beq_self_eq_true _
                  have e2 : ∀ h : ¬ yn = sl, (yn == sl) = false := fun h => by rw [beq_eq_false_iff_ne]; exact h
                  by_cases hk1 : kindN k = 1
                  · rw [show ((kindN k : Nat) : Int) = 1 by omega] at kk
                    by_cases hxn : x < 0
                    · have cx : decide (x < 0) = true := decide_eq_true hxn
                      have cx2 : decide (0 ≤ x) = false := decide_eq_false (by omega)
                      have kc := Lib.hid (fun s : Cls (Mod none_ w7) => (kk.out s.W).mono (fun e w' (h : _ ∧ _) => (⟨h.1, s.ok.trans h.2⟩ : _ ∧ Mod none_ w7 w')))
                      replace hk1 := Lib.hid hk1
                      replace hxn := Lib.hid hxn
                      replace e1 := Lib.hid e1
                      replace e2 := Lib.hid e2
                      go_wp2_with fail
                      refine wp_region_cls (Mod none_ w7) (by kernel_rfl) (by kernel_rfl) hmc.out.drew ?_
                      repeat (go_big_quiet_step ((go_at_call 14; exact cls_of (kc.out _))))
                      refine wpQuiet_nil ?_
                      rintro _ ⟨⟨W, hW⟩, rfl⟩
                      go_wp2_with fail
                      go_meet
                      exact ⟨rfl, hW⟩
                    · have cx : decide (x < 0) = false := decide_eq_false hxn
                      have cx2 : decide (0 ≤ x) = true := decide_eq_true (by omega)
                      by_cases hn : yn = sl
                      · have e3 := e1 hn
                        have ks1 := Lib.hid (ks.out (hfr.out hn (Or.inl ⟨hk1, by omega⟩) hc1))
                        have kc := Lib.hid (fun s : Cls (Mod none_ w7) => (kk.out s.W).mono (fun e w' (h : _ ∧ _) => (⟨h.1, s.ok.trans h.2⟩ : _ ∧ Mod none_ w7 w')))
                        have kt := Lib.hid (fun s : Cls (Mod none_ w7) => (ks1.out s.W s.ok).mono (fun e w' (h : _ ∧ _) => (⟨h.1, by obtain ⟨_, m, rfl⟩ := h; exact s.ok.drewN m⟩ : _ ∧ Mod none_ w7 w')))
                        replace hk1 := Lib.hid hk1
                        replace hxn := Lib.hid hxn
                        replace e1 := Lib.hid e1
                        replace e2 := Lib.hid e2
                        replace hn := Lib.hid hn
                        go_wp2_with fail
                        refine wp_region_cls (Mod none_ w7) (by kernel_rfl) (by kernel_rfl) hmc.out.drew ?_
                        repeat (go_big_quiet_step (first | (go_at_call 14; exact cls_of (kc.out _)) | (go_at_call 13; exact cls_of (kt.out _))))
                        refine wpQuiet_nil ?_
                        rintro _ ⟨⟨W, hW⟩, rfl⟩
                        go_wp2_with fail
                        go_meet
                        exact ⟨rfl, hW⟩
                      · have e3 := e2 hn
                        have kc := Lib.hid (fun s : Cls (Mod none_ w7) => (kk.out s.W).mono (fun e w' (h : _ ∧ _) => (⟨h.1, s.ok.trans h.2⟩ : _ ∧ Mod none_ w7 w')))
                        replace hk1 := Lib.hid hk1
                        replace hxn := Lib.hid hxn
                        replace e1 := Lib.hid e1
                        replace e2 := Lib.hid e2
                        replace hn := Lib.hid hn
                        go_wp2_with fail
                        refine wp_region_cls (Mod none_ w7) (by kernel_rfl) (by kernel_rfl) hmc.out.drew ?_
                        repeat (go_big_quiet_step ((go_at_call 14; exact cls_of (kc.out _))))
                        refine wpQuiet_nil ?_
                        rintro _ ⟨⟨W, hW⟩, rfl⟩
                        go_wp2_with fail
                        go_meet
                        exact ⟨rfl, hW⟩
                  · by_cases hn : yn = sl
                    · have e3 := e1 hn
                      by_cases hk2 : kindN k = 2
                      · rw [show ((kindN k : Nat) : Int) = 2 by omega] at kk
                        by_cases hx0 : 0 < x
                        · have cx : decide (0 < x) = true := decide_eq_true hx0
                          have ks1 := Lib.hid (ks.out (hfr.out hn (Or.inr ⟨hk2, hx0⟩) hc1))
                          have kc := Lib.hid (fun s : Cls (Mod none_ w7) => (kk.out s.W).mono (fun e w' (h : _ ∧ _) => (⟨h.1, s.ok.trans h.2⟩ : _ ∧ Mod none_ w7 w')))
                          have kt := Lib.hid (fun s : Cls (Mod none_ w7) => (ks1.out s.W s.ok).mono (fun e w' (h : _ ∧ _) => (⟨h.1, by obtain ⟨_, m, rfl⟩ := h; exact s.ok.drewN m⟩ : _ ∧ Mod none_ w7 w')))
                          replace hk1 := Lib.hid hk1
                          replace hk2 := Lib.hid hk2
                          replace hx0 := Lib.hid hx0
                          replace e1 := Lib.hid e1
                          replace e2 := Lib.hid e2
                          replace hn := Lib.hid hn
                          go_wp2_with fail
                          refine wp_region_cls (Mod none_ w7) (by kernel_rfl) (by kernel_rfl) hmc.out.drew ?_
                          repeat (go_big_quiet_step (first | (go_at_call 14; exact cls_of (kc.out _)) | (go_at_call 13; exact cls_of (kt.out _))))
                          refine wpQuiet_nil ?_
                          rintro _ ⟨⟨W, hW⟩, rfl⟩
                          go_wp2_with fail
                          go_meet
                          exact ⟨rfl, hW⟩
                        · have cx : decide (0 < x) = false := decide_eq_false hx0
                          have kc := Lib.hid (fun s : Cls (Mod none_ w7) => (kk.out s.W).mono (fun e w' (h : _ ∧ _) => (⟨h.1, s.ok.trans h.2⟩ : _ ∧ Mod none_ w7 w')))
                          replace hk1 := Lib.hid hk1
                          replace hk2 := Lib.hid hk2
                          replace hx0 := Lib.hid hx0
                          replace e1 := Lib.hid e1
                          replace e2 := Lib.hid e2
                          replace hn := Lib.hid hn
                          go_wp2_with fail
                          refine wp_region_cls (Mod none_ w7) (by kernel_rfl) (by kernel_rfl) hmc.out.drew ?_
                          repeat (go_big_quiet_step ((go_at_call 14; exact cls_of (kc.out _))))
                          refine wpQuiet_nil ?_
                          rintro _ ⟨⟨W, hW⟩, rfl⟩
                          go_wp2_with fail
                          go_meet
                          exact ⟨rfl, hW⟩
                      · obtain ⟨kn, hkn⟩ : ∃ kn, kindN k = kn := ⟨_, rfl⟩
                        have b1 : ((kn : Int) == 1) = false := by rw [beq_eq_false_iff_ne]; omega
                        have b2 : ((kn : Int) == 2) = false := by rw [beq_eq_false_iff_ne]; omega
                        have b3 : (kn == 1) = false := by rw [beq_eq_false_iff_ne]; omega
                        have b4 : (kn == 2) = false := by rw [beq_eq_false_iff_ne]; omega
                        rw [hkn] at kk
                        have kc := Lib.hid (fun s : Cls (Mod none_ w7) => (kk.out s.W).mono (fun e w' (h : _ ∧ _) => (⟨h.1, s.ok.trans h.2⟩ : _ ∧ Mod none_ w7 w')))
                        replace hk1 := Lib.hid hk1
                        replace hk2 := Lib.hid hk2
                        replace e1 := Lib.hid e1
                        replace e2 := Lib.hid e2
                        replace hn := Lib.hid hn
                        replace hkn := Lib.hid hkn
                        go_wp2_with fail
                        refine wp_region_cls (Mod none_ w7) (by kernel_rfl) (by kernel_rfl) hmc.out.drew ?_
                        repeat (go_big_quiet_step ((go_at_call 14; exact cls_of (kc.out _))))
                        refine wpQuiet_nil ?_
                        rintro _ ⟨⟨W, hW⟩, rfl⟩
                        go_wp2_with fail
                        go_meet
                        exact ⟨rfl, hW⟩
                    · have e3 := e2 hn
                      obtain ⟨kn, hkn⟩ : ∃ kn, kindN k = kn := ⟨_, rfl⟩
                      have b1 : ((kn : Int) == 1) = false := by rw [beq_eq_false_iff_ne]; omega
                      have b3 : (kn == 1) = false := by rw [beq_eq_false_iff_ne]; omega
                      rw [hkn] at kk
                      have kc := Lib.hid (fun s : Cls (Mod none_ w7) => (kk.out s.W).mono (fun e w' (h : _ ∧ _) => (⟨h.1, s.ok.trans h.2⟩ : _ ∧ Mod none_ w7 w')))
                      replace hk1 := Lib.hid hk1
                      replace e1 := Lib.hid e1
                      replace e2 := Lib.hid e2
                      replace hn := Lib.hid hn
                      replace hkn := Lib.hid hkn
                      go_wp2_with fail
                      refine wp_region_cls (Mod none_ w7) (by kernel_rfl) (by kernel_rfl) hmc.out.drew ?_
                      repeat (go_big_quiet_step ((go_at_call 14; exact cls_of (kc.out _))))
                      refine wpQuiet_nil ?_
                      rintro _ ⟨⟨W, hW⟩, rfl⟩
                      go_wp2_with fail
                      go_meet
                      exact ⟨rfl, hW⟩
                · have c1 : decide (v1 < v2) = false := decide_eq_false hc1
                  obtain ⟨_, _, _, _, y1, y2, y3, y4⟩ := hS.out _ hmc.out
                  go_wp2_with fail
                  go_quiet (fail)
                  go_wp2_with fail
                  go_meet
                  exact ⟨rfl, hmc.out.drewN _⟩
              case rest =>
                obtain ⟨rfl, hmd⟩ := hcut
                go_wp2_with fail
                go_roundw
                case rel => exact ⟨i + 1, by go_num, by omega, hmd⟩
                case measure => simp [intOf]; omega
          · go_wp2_with fail
            go_roundw
            case rel => exact ⟨j + 1, by go_num, by omega, C', hC7.out.mod0 hmi, oC'.out, hmw7.out.then hmi (fun _ _ h => h)⟩
            case measure => simp [intOf]; omega
    · have hend : ((min n 150 : Nat) : Int) ≤ (j : Int) := by omega
      have ka := Lib.hid (all_ok wr p b C hC (by have := oC.2; omega) oC.nm)
      have hl12 := oC.2
      clear hlt hj
      replace hC := Lib.hid hC
      replace oC := Lib.hid oC
      replace hm := Lib.hid hm
      go_wp2_with fail
      refine ka.out.mono ?_
      rintro e w4 ⟨A4, c4, rfl, ho4, hf4, hm4⟩
      dsimp only
      have hmw := Lib.hid (hm.out.then hm4 (fun _ _ h => h))
      clear ho4 hf4 hm4
      go_wp2_with fail
      go_ret
      refine ⟨?_, hmw.out.below0⟩
      show Ending.returned (.bool (decide ((C.length : Int) ≤ 12))) = _
      rw [decide_eq_true (by omega)]
end Go.Proofs.Ytgljnlafjolfpaa
