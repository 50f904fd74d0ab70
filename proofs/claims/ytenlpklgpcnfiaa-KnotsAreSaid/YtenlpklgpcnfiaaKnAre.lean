/-
  KnotsAre: the walk.
-/
import Derived.Test.YtenlpklgpcnfiaaKnRk
import Derived.Test.YtenlpklgpcnfiaaKnCat
import Derived.Test.YtenlpklgpcnfiaaKnV
namespace Go.Proofs.Ytenlpklgpcnfiaa
set_option linter.unusedVariables false
open Go.RowKit
set_option maxRecDepth 100000 in
set_option maxHeartbeats 8000000 in
theorem knotsAre_walk (w : World) (A : Option Addr) (n c : Nat) (ss : List SV) (g0 : List (List Int)) (hg0 : RdG w A n ss g0) :
    Calls Try.prog 8 #[.slice A n c] w fun e w' => e = .returned (.bool true) ∧ Below w.heap.size w w' := by
  have k0 := Lib.hid (lives_ok w)
  have k1 := Lib.hid (fun W (h : Mod none_ w W) => few_ok W A n c ss g0 (hg0.mod0 h) 30 (by omega))
  replace hg0 := Lib.hid hg0
  go_enter Try.func8, Try.ntmps8
  go_wp2_with fail
  with_reducible refine k0.out.mono ?_
  rintro e w1 ⟨rfl, hm1⟩
  dsimp only
  have k2 := Lib.hid (k1.out w1 hm1)
  replace hm1 := Lib.hid hm1
  go_wp2_with fail
  refine k2.out.mono ?_
  rintro e w2 ⟨G, d, ts, rfl, hO, hfG, hm2⟩
  dsimp only
  have hgl0 := fewG_len 30 g0
  generalize fewG 30 g0 = g at *
  obtain ⟨m, hm⟩ : ∃ m, g.length = m := ⟨_, rfl⟩
  have hm30 : m ≤ 30 := by omega
  clear hgl0
  have hgr := Lib.hid hO.rd
  rw [hm] at hO hgr ⊢
  have hmw := hm1.out.trans hm2
  have kK := Lib.hid (knots_ok w2 G m d ts g hgr.out (by omega))
  have kO := Lib.hid (fun W (h : Mod none_ w2 W) => order_ok W G m d ts g (hgr.out.mod0 h) (by omega))
  replace hO := Lib.hid hO
  replace hfG := Lib.hid hfG
  replace hm2 := Lib.hid hm2
  replace hmw := Lib.hid hmw
  replace hm := Lib.hid hm
  go_wp2_with fail
  refine kK.out.mono ?_
  rintro e w3 ⟨ks, hseq, H, ch, s3, rfl, hOk, hfH, hm3⟩
  dsimp only
  obtain ⟨hl1, hl2⟩ := knot_le hseq
  rw [hm.out] at hl1 hl2
  have kR := Lib.hid (rknots_ok w3 G m d ts g (hgr.out.mod0 hm3) (by omega) ks hseq (by omega))
  obtain ⟨r, hr⟩ : ∃ r, ks.length = r := ⟨_, rfl⟩
  rw [hr] at hl1 hOk ⊢
  replace hOk := Lib.hid hOk
  replace hfH := Lib.hid hfH
  replace hm3 := Lib.hid hm3
  replace hl2 := Lib.hid hl2
  replace hr := Lib.hid hr
  go_wp2_with fail
  refine kR.out.mono ?_
  rintro e w4 ⟨R, cr, s4, rfl, hOr, hfR, hm4⟩
  dsimp only
  rw [hr.out] at hOr ⊢
  have hOk4 := hOk.out.mod0 hm4
  have hm24 := hm3.out.trans hm4
  replace hOr := Lib.hid hOr
  replace hfR := Lib.hid hfR
  replace hm4 := Lib.hid hm4
  replace hOk4 := Lib.hid hOk4
  replace hm24 := Lib.hid hm24
  go_wp2_with fail
  go_loopg [5, 6] r (fun k v5 v wr => ∃ i B c', v = .int .i64 (i : Nat) ∧ i + k = r ∧ v5 = .slice B (ks.take i).flatten.length c' ∧ OwZ wr B (ks.take i).flatten.length c' (zs (ks.take i).flatten) ∧ Fresh w4 B ∧ Mod none_ w4 wr)
  case atStart => exact ⟨0, none, 0, rfl, by omega, rfl, Ow.nil _ _ _, fun a ha => (by cases ha), Mod.refl _ _⟩
  case round =>
    obtain ⟨i, B, c', rfl, hik, rfl, ho, hf, hmr⟩ := hrel
    have hfle : (ks.take i).flatten.length ≤ ks.flatten.length := take_flat_le ks i
    have hfll : ks.flatten.length = m := by rw [flat_len (knots_facts hseq), hm.out]
    have hpm : (ks.take i).flatten.length ≤ m := by omega
    have hfm : ks.flatten.length ≤ m := by omega
    clear hfll
    generalize hpn : (ks.take i).flatten.length = pn at *
    by_cases hi : i < r
    · obtain ⟨b, o, B1, c1, K, hH, hc1, hK, hrK⟩ := ow_knot hOk4.out hi
      obtain ⟨b2, o2, B2, c2, K2, hR, hc2, hK2, hrK2⟩ := ow_knot hOr.out hi
      rw [hK] at hK2
      cases hK2
      subst hH hR
      have htk := take_flat hK
      have hKl := hl2.out K (List.mem_of_getElem? hK)
      have y1 := hmr.cell_some hc1 (fun h => h)
      have y2 := hmr.cell_some hc2 (fun h => h)
      have kS := Lib.hid (fun j => sameZ_ok (wr.drewN j) B1 B2 _ _ c1 c2 _ _ (Rd.mod0 hrK (hmr.drewN j)) (Rd.mod0 hrK2 (hmr.drewN j)) (by omega) (by omega))
      rw [show decide (zs K = zs K) = true from decide_eq_true rfl] at kS
      generalize hkn : K.length = kn at *
      replace ho := Lib.hid ho
      replace hf := Lib.hid hf
      replace hmr := Lib.hid hmr
      replace hpn := Lib.hid hpn
      replace hfle := Lib.hid hfle
      replace htk := Lib.hid htk
      replace hc1 := Lib.hid hc1
      replace hc2 := Lib.hid hc2
      replace hrK := Lib.hid hrK
      replace hrK2 := Lib.hid hrK2
      replace hK := Lib.hid hK
      replace hkn := Lib.hid hkn
      go_wp2_with (first | (go_quiet ((go_at_call 12; exact Calls.quiet_of (kS.out _)))) | (at_builtin; go_loud (refine appZ rfl (.tmp 36) (.tmp 40) rfl rfl (Ow.mod0 ho.out ((Mod.refl none_ wr).drewN _)) rfl (Rd.mod0 hrK2.out (hmr.out.drewN _)) (by omega) ?_; intro B5 c5 w5 ho5 hm5 hB5; replace ho5 := Lib.hid ho5; replace hm5 := Lib.hid hm5; replace hB5 := Lib.hid hB5)))
      go_roundg (gk - 1)
      case measure => omega
      case rel =>
        have hlen : (ks.take (i + 1)).flatten.length = pn + kn := by rw [htk.out, List.length_append, hpn.out, hkn.out]
        refine ⟨i + 1, B5, c5, by go_num, by omega, by rw [hlen], ?_, Fresh.app hf.out (hmr.out.drewN _).size hB5.out, (hmr.out.drewN _).app hf.out hm5.out⟩
        rw [hlen, htk.out, zs_app]
        exact ho5.out
    · obtain rfl : i = r := by omega
      have hfull : ks.take i = ks := List.take_of_length_le (by rw [hr.out]; exact Nat.le_refl _)
      rw [hfull] at ho hpn
      replace hpn := Lib.hid hpn
      have kF := Lib.hid (kO.out wr (hm24.out.trans hmr))
      replace ho := Lib.hid ho
      replace hf := Lib.hid hf
      replace hmr := Lib.hid hmr
      replace hfle := Lib.hid hfle
      replace hfull := Lib.hid hfull
      go_wp2_with fail
      refine kF.out.mono ?_
      rintro e w5 ⟨ks', hseq', B5, c5, rfl, ho5, _, hm5⟩
      dsimp only at ho5 ⊢
      obtain rfl := kseq_one hseq hseq'
      rw [hpn.out] at ho5 ⊢
      have kE := Lib.hid (sameZ_ok w5 B5 B _ _ c5 c' _ _ (Ow.rd ho5) (Ow.rd (Ow.mod0 ho.out hm5)) (by omega) (by omega))
      rw [show decide (zs ks.flatten = zs ks.flatten) = true from decide_eq_true rfl] at kE
      replace ho5 := Lib.hid ho5
      replace hm5 := Lib.hid hm5
      go_wp2_with fail
      with_reducible refine kE.out.mono ?_
      rintro e w6 ⟨rfl, q6, hq6⟩
      dsimp only
      have hb : Below w.heap.size w w6 := by rw [hq6]; exact ((hmw.out.trans ((hm24.out.trans hmr.out).trans hm5.out)).drewN _).below0
      replace hb := Lib.hid hb
      replace hq6 := Lib.hid hq6
      go_wp2_with fail
      go_ret
      exact ⟨rfl, hb.out⟩
end Go.Proofs.Ytenlpklgpcnfiaa
