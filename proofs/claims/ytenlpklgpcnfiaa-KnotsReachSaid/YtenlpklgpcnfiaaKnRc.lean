/-
  KnotsReach: the walk.
-/
import Derived.Test.YtenlpklgpcnfiaaKnRo
import Derived.Test.YtenlpklgpcnfiaaKnV
namespace Go.Proofs.Ytenlpklgpcnfiaa
set_option linter.unusedVariables false
open Go.RowKit
set_option maxRecDepth 100000 in
set_option maxHeartbeats 8000000 in
theorem knotsReach_walk (w : World) (A : Option Addr) (n c : Nat) (ss : List SV) (g0 : List (List Int)) (hg0 : RdG w A n ss g0) (KA : Option Addr) (kn kc : Nat) (known : List Bool) (hk0 : Rd w 1 KA kn (tvs known)) (hkn : kn ≤ 140737488355328) (f : Int) :
    Calls Try.prog 3 #[.slice A n c, .slice KA kn kc, .int .i64 f] w fun e w' => e = .returned (.bool true) ∧ Below w.heap.size w w' := by
  have k0 := Lib.hid (lives_ok w)
  have k1 := Lib.hid (fun W (h : Mod none_ w W) => few_ok W A n c ss g0 (hg0.mod0 h) 30 (by omega))
  replace hg0 := Lib.hid hg0
  replace hk0 := Lib.hid hk0
  go_enter Try.func3, Try.ntmps3
  go_wp2_with fail
  with_reducible refine k0.out.mono ?_
  rintro e w1 ⟨rfl, hm1⟩
  dsimp only
  have k2 := Lib.hid (k1.out w1 hm1)
  replace hm1 := Lib.hid hm1
  go_wp2_with fail
  refine k2.out.mono ?_
  rintro e w2 ⟨G, d, ts, rfl, hO, hfG, hm2⟩
  dsimp only
  have hgl0 := fewG_len 30 g0
  generalize fewG 30 g0 = g at *
  obtain ⟨m, hm⟩ : ∃ m, g.length = m := ⟨_, rfl⟩
  have hm30 : m ≤ 30 := by omega
  clear hgl0
  have hgr := Lib.hid hO.rd
  rw [hm] at hO hgr ⊢
  have hmw := hm1.out.trans hm2
  have kRR := Lib.hid (rreach_ok w2 G m d ts g hgr.out (by omega))
  have kRe := Lib.hid (fun W (h : Mod none_ w2 W) f (hf : f < m) => reach_ok W G m d ts g (hgr.out.mod0 h) (by omega) f hf)
  have kO1 := Lib.hid (fun W (h : Mod none_ w2 W) => open_ok W G m d ts g (hgr.out.mod0 h) (by omega) KA kn kc known (Rd.mod0 hk0.out (hmw.trans h)) hkn)
  have kO2 := Lib.hid (fun W (h : Mod none_ w2 W) => ropen_ok W G m d ts g (hgr.out.mod0 h) (by omega) KA kn kc known (Rd.mod0 hk0.out (hmw.trans h)) hkn)
  have hol : (openL g known).length ≤ 30 := by have := pickI_len (openB g known) g.length; unfold openL; omega
  replace hO := Lib.hid hO
  replace hfG := Lib.hid hfG
  replace hm2 := Lib.hid hm2
  replace hmw := Lib.hid hmw
  go_wp2_with fail
  refine kRR.out.mono ?_
  rintro e w3 ⟨M, q, mm, rfl, hM, hmm⟩
  dsimp only
  replace hM := Lib.hid hM
  replace hmm := Lib.hid hmm
  by_cases hin : 0 ≤ f ∧ f < (m : Int)
  · obtain ⟨fn, rfl⟩ : ∃ fn : Nat, f = (fn : Int) := ⟨f.toNat, by omega⟩
    have hfn : fn < m := by omega
    have hd1 : (0 : Int) ≤ (fn : Int) := by omega
    have hd2 : (fn : Int) < (m : Int) := by omega
    have hrl : (reachL g fn).length ≤ 30 := by
      unfold reachL
      have := List.length_filter_le (fun k => @decide (TC g fn k) (Classical.propDecidable _)) (List.range g.length)
      rw [List.length_range] at this
      omega
    clear hin
    go_wp2_with fail
    go_loopg [8, 9] m (fun k v8 v wr => ∃ i B c', v = .int .i64 (i : Nat) ∧ i + k = m ∧ v8 = .slice B (pickI (mm fn) i).length c' ∧ OwZ wr B (pickI (mm fn) i).length c' (zs (pickI (mm fn) i)) ∧ Fresh w2 B ∧ MMem w2 wr M m m q mm)
    case atStart => exact ⟨0, none, 0, rfl, by omega, rfl, Ow.nil _ _ _, fun a ha => (by cases ha), hM.out⟩
    case round =>
      obtain ⟨i, B, c', rfl, hik, rfl, ho, hf, hMr⟩ := hrel
      have hpl := pickI_len (mm fn) i
      have hpx := pickI_succ (mm fn) i
      generalize hpn : (pickI (mm fn) i).length = pn at *
      by_cases hlt : i < m
      · obtain ⟨y1, y2, _⟩ := hMr.cell (a := fn) (v := i) hfn (Nat.le_refl _) hlt
        cases hv : mm fn i with
        | true =>
          rw [hv] at y2
          rw [if_pos hv] at hpx
          replace ho := Lib.hid ho
          replace hf := Lib.hid hf
          replace hMr := Lib.hid hMr
          replace hpx := Lib.hid hpx
          replace hpn := Lib.hid hpn
          replace hv := Lib.hid hv
          go_wp2_with (at_builtin; go_loud (refine appZ rfl (.tmp 39) (.tmp 41) rfl rfl (Ow.mod0 ho.out ((Mod.refl none_ _).alloc _)) rfl (rdi_one _ _ (i : Int)) (by omega) ?_; intro B5 c5 w5 ho5 hm5 hB5; replace ho5 := Lib.hid ho5; replace hm5 := Lib.hid hm5; replace hB5 := Lib.hid hB5))
          go_roundg (gk - 1)
          case measure => omega
          case rel =>
            have hlen : (pickI (mm fn) (i + 1)).length = pn + 1 := by rw [hpx.out, List.length_append, hpn.out]; rfl
            have hM3 := hMr.out.mod0 ((Mod.refl none_ _).alloc (.cells #[.int .i64 (i : Int)] 3))
            refine ⟨i + 1, B5, c5, by go_num, by omega, by rw [hlen], ?_, Fresh.app hf.out hM3.m0.size hB5.out, hM3.app hf.out (Ow.mod0 ho.out ((Mod.refl none_ _).alloc _)) hm5.out⟩
            rw [hlen, hpx.out, zs_app]
            exact ho5.out
        | false =>
          rw [hv] at y2
          rw [if_neg (by rw [hv]; simp)] at hpx
          replace ho := Lib.hid ho
          replace hf := Lib.hid hf
          replace hMr := Lib.hid hMr
          replace hpx := Lib.hid hpx
          replace hpn := Lib.hid hpn
          replace hv := Lib.hid hv
          go_wp2_with fail
          go_roundg (gk - 1)
          case measure => omega
          case rel => exact ⟨i + 1, B, c', by go_num, by omega, by rw [hpx.out, hpn.out], by rw [hpx.out, hpn.out]; exact ho.out, hf.out, hMr.out⟩
      · obtain rfl : i = m := by omega
        have hpe : pickI (mm fn) i = reachL g fn := by
          classical
          unfold pickI reachL
          rw [hm]
          refine List.filter_congr fun k hk => ?_
          rw [List.mem_range] at hk
          rw [Bool.eq_iff_iff, hmm.out fn k hfn hk, decide_eq_true_iff]
        rw [hpe] at ho hpn
        subst hpn
        have kA := Lib.hid (kRe.out wr hMr.m0 fn hfn)
        replace ho := Lib.hid ho
        replace hf := Lib.hid hf
        replace hpe := Lib.hid hpe
        go_wp2_with fail
        refine kA.out.mono ?_
        rintro e w4 ⟨B4, c4, rfl, ho4, _, hm4⟩
        dsimp only
        have hwm := hMr.m0.trans hm4
        have kB := Lib.hid (sameZ_ok w4 B4 B _ _ c4 c' _ _ (Ow.rd ho4) (Ow.rd (Ow.mod0 ho.out hm4)) (by omega) (by omega))
        rw [show decide (zs (reachL g fn) = zs (reachL g fn)) = true from decide_eq_true rfl] at kB
        replace hMr := Lib.hid hMr
        replace hm4 := Lib.hid hm4
        replace ho4 := Lib.hid ho4
        replace hwm := Lib.hid hwm
        go_wp2_with fail
        refine kB.out.mono ?_
        rintro e w5 ⟨rfl, q5, hq5⟩
        dsimp only
        have hwm5 : Mod none_ w2 w5 := by rw [hq5]; exact hwm.out.drewN _
        have kC := Lib.hid (kO1.out w5 hwm5)
        replace hq5 := Lib.hid hq5
        replace hwm5 := Lib.hid hwm5
        go_wp2_with fail
        refine kC.out.mono ?_
        rintro e w6 ⟨B6, c6, rfl, ho6, _, hm6⟩
        dsimp only
        have kD := Lib.hid (kO2.out w6 (hwm5.out.trans hm6))
        replace hm6 := Lib.hid hm6
        replace ho6 := Lib.hid ho6
        go_wp2_with fail
        refine kD.out.mono ?_
        rintro e w7 ⟨B7, c7, rfl, ho7, _, hm7⟩
        dsimp only
        have kE := Lib.hid (sameZ_ok w7 B6 B7 _ _ c6 c7 _ _ (Ow.rd (Ow.mod0 ho6.out hm7)) (Ow.rd ho7) (by omega) (by omega))
        rw [show decide (zs (openL g known) = zs (openL g known)) = true from decide_eq_true rfl] at kE
        replace hm7 := Lib.hid hm7
        replace ho7 := Lib.hid ho7
        go_wp2_with fail
        refine kE.out.mono ?_
        rintro e w8 ⟨rfl, q8, hq8⟩
        dsimp only
        have hb : Below w.heap.size w w8 := by rw [hq8]; exact ((hmw.out.trans ((hwm5.out.trans hm6.out).trans hm7.out)).drewN _).below0
        replace hb := Lib.hid hb
        replace hq8 := Lib.hid hq8
        go_wp2_with fail
        go_ret
        exact ⟨rfl, hb.out⟩
  · have hd0 : ¬ (0 ≤ f) ∨ ¬ (f < (m : Int)) := by omega
    clear hin
    have hwm := hM.out.m0
    have kA0 := Lib.hid (reach_out w3 G m d f (by omega))
    replace hwm := Lib.hid hwm
    rcases (show m = 0 ∨ (0 < m ∧ f < 0) ∨ (0 < m ∧ (m : Int) ≤ f) by omega) with rfl | ⟨hm0, hf0⟩ | ⟨hm0, hf0⟩
    · clear hd0
      go_wp2_with fail
      go_loopg [8, 9] 0 (fun k v8 v wr2 => v8 = .slice none 0 0 ∧ v = .int .i64 0 ∧ wr2 = w3)
      case atStart => exact ⟨rfl, rfl, rfl⟩
      case round =>
        obtain ⟨rfl, rfl, rfl⟩ := hrel
        go_wp2_with fail
        refine kA0.out.mono ?_
        rintro e w4 ⟨B4, c4, rfl, ho4, _, hm4⟩
        dsimp only
        have hwm := hwm.out.trans hm4
        have kB := Lib.hid (sameZ_ok w4 B4 none _ 0 c4 0 _ [] (Ow.rd ho4) (Ow.nil w4 3 1).rd (by simp) (by simp))
        rw [show decide (zs [] = []) = true from decide_eq_true rfl] at kB
        replace hm4 := Lib.hid hm4
        replace ho4 := Lib.hid ho4
        replace hwm := Lib.hid hwm
        go_wp2_with fail
        refine kB.out.mono ?_
        rintro e w5 ⟨rfl, q5, hq5⟩
        dsimp only
        have hwm5 : Mod none_ w2 w5 := by rw [hq5]; exact hwm.out.drewN _
        have kC := Lib.hid (kO1.out w5 hwm5)
        replace hq5 := Lib.hid hq5
        replace hwm5 := Lib.hid hwm5
        go_wp2_with fail
        refine kC.out.mono ?_
        rintro e w6 ⟨B6, c6, rfl, ho6, _, hm6⟩
        dsimp only
        have kD := Lib.hid (kO2.out w6 (hwm5.out.trans hm6))
        replace hm6 := Lib.hid hm6
        replace ho6 := Lib.hid ho6
        go_wp2_with fail
        refine kD.out.mono ?_
        rintro e w7 ⟨B7, c7, rfl, ho7, _, hm7⟩
        dsimp only
        have kE := Lib.hid (sameZ_ok w7 B6 B7 _ _ c6 c7 _ _ (Ow.rd (Ow.mod0 ho6.out hm7)) (Ow.rd ho7) (by omega) (by omega))
        rw [show decide (zs (openL g known) = zs (openL g known)) = true from decide_eq_true rfl] at kE
        replace hm7 := Lib.hid hm7
        replace ho7 := Lib.hid ho7
        go_wp2_with fail
        refine kE.out.mono ?_
        rintro e w8 ⟨rfl, q8, hq8⟩
        dsimp only
        have hb : Below w.heap.size w w8 := by rw [hq8]; exact ((hmw.out.trans ((hwm5.out.trans hm6.out).trans hm7.out)).drewN _).below0
        replace hb := Lib.hid hb
        replace hq8 := Lib.hid hq8
        go_wp2_with fail
        go_ret
        exact ⟨rfl, hb.out⟩
    · have hx1 : ¬ (0 ≤ f) := by omega
      have hx2 : (0 : Int) < (m : Int) := by omega
      clear hd0
      go_wp2_with fail
      go_loopg [8, 9] 0 (fun k v8 v wr2 => v8 = .slice none 0 0 ∧ v = .int .i64 0 ∧ wr2 = w3)
      case atStart => exact ⟨rfl, rfl, rfl⟩
      case round =>
        obtain ⟨rfl, rfl, rfl⟩ := hrel
        go_wp2_with fail
        refine kA0.out.mono ?_
        rintro e w4 ⟨B4, c4, rfl, ho4, _, hm4⟩
        dsimp only
        have hwm := hwm.out.trans hm4
        have kB := Lib.hid (sameZ_ok w4 B4 none _ 0 c4 0 _ [] (Ow.rd ho4) (Ow.nil w4 3 1).rd (by simp) (by simp))
        rw [show decide (zs [] = []) = true from decide_eq_true rfl] at kB
        replace hm4 := Lib.hid hm4
        replace ho4 := Lib.hid ho4
        replace hwm := Lib.hid hwm
        go_wp2_with fail
        refine kB.out.mono ?_
        rintro e w5 ⟨rfl, q5, hq5⟩
        dsimp only
        have hwm5 : Mod none_ w2 w5 := by rw [hq5]; exact hwm.out.drewN _
        have kC := Lib.hid (kO1.out w5 hwm5)
        replace hq5 := Lib.hid hq5
        replace hwm5 := Lib.hid hwm5
        go_wp2_with fail
        refine kC.out.mono ?_
        rintro e w6 ⟨B6, c6, rfl, ho6, _, hm6⟩
        dsimp only
        have kD := Lib.hid (kO2.out w6 (hwm5.out.trans hm6))
        replace hm6 := Lib.hid hm6
        replace ho6 := Lib.hid ho6
        go_wp2_with fail
        refine kD.out.mono ?_
        rintro e w7 ⟨B7, c7, rfl, ho7, _, hm7⟩
        dsimp only
        have kE := Lib.hid (sameZ_ok w7 B6 B7 _ _ c6 c7 _ _ (Ow.rd (Ow.mod0 ho6.out hm7)) (Ow.rd ho7) (by omega) (by omega))
        rw [show decide (zs (openL g known) = zs (openL g known)) = true from decide_eq_true rfl] at kE
        replace hm7 := Lib.hid hm7
        replace ho7 := Lib.hid ho7
        go_wp2_with fail
        refine kE.out.mono ?_
        rintro e w8 ⟨rfl, q8, hq8⟩
        dsimp only
        have hb : Below w.heap.size w w8 := by rw [hq8]; exact ((hmw.out.trans ((hwm5.out.trans hm6.out).trans hm7.out)).drewN _).below0
        replace hb := Lib.hid hb
        replace hq8 := Lib.hid hq8
        go_wp2_with fail
        go_ret
        exact ⟨rfl, hb.out⟩
    · have hx1 : 0 ≤ f := by omega
      have hx2 : (0 : Int) < (m : Int) := by omega
      have hx3 : ¬ (f < (m : Int)) := by omega
      clear hd0
      go_wp2_with fail
      go_loopg [8, 9] 0 (fun k v8 v wr2 => v8 = .slice none 0 0 ∧ v = .int .i64 0 ∧ wr2 = w3)
      case atStart => exact ⟨rfl, rfl, rfl⟩
      case round =>
        obtain ⟨rfl, rfl, rfl⟩ := hrel
        go_wp2_with fail
        refine kA0.out.mono ?_
        rintro e w4 ⟨B4, c4, rfl, ho4, _, hm4⟩
        dsimp only
        have hwm := hwm.out.trans hm4
        have kB := Lib.hid (sameZ_ok w4 B4 none _ 0 c4 0 _ [] (Ow.rd ho4) (Ow.nil w4 3 1).rd (by simp) (by simp))
        rw [show decide (zs [] = []) = true from decide_eq_true rfl] at kB
        replace hm4 := Lib.hid hm4
        replace ho4 := Lib.hid ho4
        replace hwm := Lib.hid hwm
        go_wp2_with fail
        refine kB.out.mono ?_
        rintro e w5 ⟨rfl, q5, hq5⟩
        dsimp only
        have hwm5 : Mod none_ w2 w5 := by rw [hq5]; exact hwm.out.drewN _
        have kC := Lib.hid (kO1.out w5 hwm5)
        replace hq5 := Lib.hid hq5
        replace hwm5 := Lib.hid hwm5
        go_wp2_with fail
        refine kC.out.mono ?_
        rintro e w6 ⟨B6, c6, rfl, ho6, _, hm6⟩
        dsimp only
        have kD := Lib.hid (kO2.out w6 (hwm5.out.trans hm6))
        replace hm6 := Lib.hid hm6
        replace ho6 := Lib.hid ho6
        go_wp2_with fail
        refine kD.out.mono ?_
        rintro e w7 ⟨B7, c7, rfl, ho7, _, hm7⟩
        dsimp only
        have kE := Lib.hid (sameZ_ok w7 B6 B7 _ _ c6 c7 _ _ (Ow.rd (Ow.mod0 ho6.out hm7)) (Ow.rd ho7) (by omega) (by omega))
        rw [show decide (zs (openL g known) = zs (openL g known)) = true from decide_eq_true rfl] at kE
        replace hm7 := Lib.hid hm7
        replace ho7 := Lib.hid ho7
        go_wp2_with fail
        refine kE.out.mono ?_
        rintro e w8 ⟨rfl, q8, hq8⟩
        dsimp only
        have hb : Below w.heap.size w w8 := by rw [hq8]; exact ((hmw.out.trans ((hwm5.out.trans hm6.out).trans hm7.out)).drewN _).below0
        replace hb := Lib.hid hb
        replace hq8 := Lib.hid hq8
        go_wp2_with fail
        go_ret
        exact ⟨rfl, hb.out⟩
end Go.Proofs.Ytenlpklgpcnfiaa
