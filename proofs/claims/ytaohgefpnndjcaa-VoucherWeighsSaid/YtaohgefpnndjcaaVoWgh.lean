/-
  VoucherWeighs: the walk.
-/
import Derived.Test.YtaohgefpnndjcaaVoWghP
import Derived.Test.YtaohgefpnndjcaaVoRow
namespace Go.Proofs.Ytaohgefpnndjcaa
set_option linter.unusedVariables false
open Go.RowKit
set_option maxRecDepth 100000 in
set_option maxHeartbeats 2000000 in
theorem voucherWeighs_walk (w : World) (A : Option Addr) (n c : Nat) (os : List Ac) (hr : RdA w A n os) (hok : ∀ o ∈ os, AcOk o) (L : Option Addr) (m d : Nat) (ls : List Lg) (hl : RdL w L m ls) (hmd : m ≤ d) (hlk : ∀ l ∈ ls, LgOk l) :
    Calls Try.prog 5 #[.slice A n c, .slice L m d] w fun e w' => e = .returned (.bool true) ∧ Below w.heap.size w w' := by
  have k0 := Lib.hid (lives_ok w)
  have k1 := Lib.hid (fun W (h : RdA W A n os) => accts_ok W A n c os h hok)
  have k2 := Lib.hid (fun W => few_ok W L m d hmd)
  have hm8 : min m 8 ≤ m := by omega
  have hL8 := rdl_take hl hm8
  have hk8 : ∀ l ∈ ls.take (min m 8), LgOk l := fun l h => hlk l (List.mem_of_mem_take h)
  have hlt : 0 < min m 8 → ∀ k, fp L k → k < w.heap.size := fun h0 k hk => rdl_lt hl (by omega) k hk
  replace hr := Lib.hid hr
  replace hok := Lib.hid hok
  replace hl := Lib.hid hl
  replace hlk := Lib.hid hlk
  go_enter Try.func5, Try.ntmps5
  go_wp2_with fail
  refine k0.out.mono ?_
  rintro e w0 ⟨rfl, hm0⟩
  dsimp only
  replace hm0 := Lib.hid hm0
  go_wp2_with fail
  refine (k1.out _ (Rd.mod0 hr.out hm0.out)).mono ?_
  rintro e w1 ⟨p, b, q, C, rfl, hC, hR, oC, hm1, hp, hb, hpq, hbq, hq1⟩
  dsimp only
  have hmw1 := Lib.hid (hm0.out.trans hm1)
  have hs0 := hm0.out.size
  have hs1 := hm1.size
  clear hm1
  clear hR
  replace hC := Lib.hid hC
  replace oC := Lib.hid oC
  go_wp2_with fail
  refine (k2.out _).mono ?_
  rintro e w2 ⟨rfl, rfl⟩
  dsimp only
  have hml : min m 8 ≤ 8 := by omega
  have hmd8 : min m 8 ≤ d := by omega
  generalize min m 8 = k8 at *
  have hlen8 := hL8.len
  generalize ls.take k8 = l8 at *
  have hlaw := make_law (ls := l8) hC.out.sorted
  have oC1 := make_okc oC.out l8
  have kmk := fun W (hc : ChAt W p b C) (h : RdL W L k8 l8) (hA : 0 < k8 → ∀ k, fp L k → ¬ k = b) => make_ok W p b C L k8 d l8 hc oC.out h (by omega) hk8 hA
  generalize makeR C l8 = r at *
  obtain ⟨C1, e1⟩ := r
  dsimp only at hlaw oC1
  have ka := Lib.hid (fun W (h : ChAt W p b C) => all_ok W p b C h (by have := oC.out.2; omega) oC.out.nm)
  have kt := Lib.hid (fun W (h : ChAt W p b C) => tot_ok W p b C h (by have := oC.out.2; omega) oC.out.wf)
  have ka1 := Lib.hid (fun W (h : ChAt W p b C1) => all_ok W p b C1 h (by have := oC1.2; omega) oC1.nm)
  have kt1 := Lib.hid (fun W (h : ChAt W p b C1) => tot_ok W p b C1 h (by have := oC1.2; omega) oC1.wf)
  have ksm := Lib.hid (fun (hCC : C1 = C) W A1 d1 A2 d2 (hA : RdA W A1 C.length C) (hB : RdA W A2 C1.length C1) => show Calls Try.prog 14 #[.slice A1 C.length d1, .slice A2 C1.length d2] W (fun e w' => e = .returned (.bool true) ∧ ∃ k, w' = W.drewN k) from by
    have := same_ok W A1 A2 C.length C1.length d1 d2 C C1 hA hB (by have := oC.out.2; omega) (by have := oC1.2; omega)
    rw [show sameAc C C1 = true from decide_eq_true hCC.symm] at this; exact this)
  unfold TotPost at kt kt1
  change _ ∨ _ at hlaw
  unfold hsum at hlaw
  have hlC : C.length ≤ 12 := oC.out.2
  have hlC1 : C1.length ≤ 12 := oC1.2
  generalize sumR (isum (C.map fun a => a.h)) = tt at kt hlaw
  generalize sumR (isum (C1.map fun a => a.h)) = tt1 at kt1 hlaw
  have hbl := hC.out.2.1.lt
  have hpl := hC.out.1.lt
  replace kmk := Lib.hid kmk
  replace oC1 := Lib.hid oC1
  replace hlaw := Lib.hid hlaw
  replace hL8 := Lib.hid hL8
  replace hk8 := Lib.hid hk8
  replace hlt := Lib.hid hlt
  go_wp2_with fail
  refine (ka.out _ hC.out).mono ?_
  rintro e w3 ⟨A3, c3, rfl, ho3, hf3, hm3⟩
  dsimp only
  have hC3 := Lib.hid (hC.out.mod0 hm3)
  have hL3 := Lib.hid ((hL8.out.mod0 hmw1.out).mod0 hm3)
  have hmw3 := Lib.hid (hmw1.out.trans hm3)
  have hs3 := hm3.size
  clear hm3
  replace ho3 := Lib.hid ho3
  replace hf3 := Lib.hid hf3
  go_wp2_with fail
  refine (kt.out _ hC3.out).mono ?_
  rintro e w4 ⟨rfl, hm4⟩
  dsimp only
  have hC4 := Lib.hid (hC3.out.mod0 hm4)
  have hL4 := Lib.hid (hL3.out.mod0 hm4)
  have ho4 := Lib.hid (show OwA w4 A3 C.length c3 C from Ow.mod0 ho3.out hm4)
  have hmw4 := Lib.hid (hmw3.out.trans hm4)
  have hs4 := hm4.size
  clear hm4 ho3 hC3 hL3
  go_wp2_with fail
  refine (kmk.out _ hC4.out hL4.out (fun h0 k hk he => by have := hlt.out h0 k hk; omega)).mono ?_
  rintro e w5 ⟨rfl, hC5, hm5⟩
  dsimp only at hC5 ⊢
  have ho5 := Lib.hid (show OwA w5 A3 C.length c3 C from Ow.mod ho4.out hm5 (fun i hi he => by obtain ⟨a, ha, rfl⟩ := hi; have h1 := hf3.out a ha; have h2 : a.block = b := he; omega))
  have hL5 := Lib.hid (hL4.out.mod' hm5 (fun h0 i hi he => by have h1 := hlt.out h0 i hi; have h2 : i = b := he; omega))
  have hmw5 := Lib.hid (hmw4.out.then hm5 (fun i hi he => by have : i = b := he; omega))
  clear hm5 ho4 hC4 hL4
  replace hC5 := Lib.hid hC5
  go_wp2_with fail
  refine (kt1.out _ hC5.out).mono ?_
  rintro e w6 ⟨rfl, hm6⟩
  dsimp only
  have hC6 := Lib.hid (hC5.out.mod0 hm6)
  have ho6 := Lib.hid (show OwA w6 A3 C.length c3 C from Ow.mod0 ho5.out hm6)
  have hL6 := Lib.hid (hL5.out.mod0 hm6)
  have hmw6 := Lib.hid (hmw5.out.trans hm6)
  clear hm6 hC5 ho5 hL5
  go_wp2_with fail
  refine (ka1.out _ hC6.out).mono ?_
  rintro e w7 ⟨A7, c7, rfl, ho7, hf7, hm7⟩
  dsimp only
  have hr3 := Lib.hid (show RdA w7 A3 C.length C from Ow.rd (Ow.mod0 ho6.out hm7))
  have hr7 := Lib.hid (show RdA w7 A7 C1.length C1 from Ow.rd ho7)
  have hL7 := Lib.hid (hL6.out.mod0 hm7)
  have hmw7 := Lib.hid (hmw6.out.trans hm7)
  clear hm7 ho6 hL6 ho7 hf7 hC6
  go_upto_region 12 with fail
  rcases hlaw.out with ⟨h0, htt, hap, hnd⟩ | ⟨h0, hCC⟩
  · subst h0
    subst htt
    have hlen : C1.length = C.length := by rw [hap]; unfold applyL; rw [List.length_map]
    clear hlaw ksm
    have hel : ∀ i (h : i < C1.length), C1[i].n = (C[i]'(by omega)).n ∧ C1[i].h = (C[i]'(by omega)).h + byF l8 (C[i]'(by omega)).n ∧ C1[i].s = (C[i]'(by omega)).s ∧ C1[i].l = (C[i]'(by omega)).l := fun i h => by
      have : C1[i] = addL l8 (C[i]'(by omega)) := by
        have h2 : C1[i]? = (applyL C l8)[i]? := by rw [hap]
        unfold applyL at h2
        rw [List.getElem?_map, List.getElem?_eq_getElem h, List.getElem?_eq_getElem (by omega)] at h2
        simpa using h2
      rw [this, add_is]
      exact ⟨rfl, rfl, rfl, rfl⟩
    have hi64 : ∀ i (h : i < C1.length), I64 C1[i].h := fun i h => (oC1.out.wf _ (List.getElem_mem h)).1
    replace hap := Lib.hid hap
    replace hnd := Lib.hid hnd
    replace hel := Lib.hid hel
    replace hi64 := Lib.hid hi64
    go_wp2_with fail
    go_loopw [14] (fun x wr => ∃ i : Nat, x = .int .i64 i ∧ i ≤ C1.length ∧ Mod none_ w7 wr) (fun x _ => C1.length - (intOf x).toNat)
    case atStart => exact ⟨0, rfl, by omega, Mod.refl _ _⟩
    case round =>
      obtain ⟨i, rfl, hi, hmi⟩ := hrel
      by_cases hil : i < C1.length
      · have hilC : i < C.length := by omega
        obtain ⟨g7, o7, rfl, y1, y2, y3, y4⟩ := rda_get hr7.out hil (by omega)
        obtain ⟨g3, o3, rfl, z1, z2, z3, z4⟩ := rda_get hr3.out hilC (by omega)
        obtain ⟨f1, f2, f3, f4⟩ := hel.out i hil
        have f5 := hi64.out i hil
        rw [f1] at y1
        rw [f2] at y2 f5
        rw [f3] at y3
        rw [f4] at y4
        generalize C[i] = a at *
        obtain ⟨s, xh, xs, xl⟩ := a
        dsimp only at y1 y2 y3 y4 z1 z2 z3 z4 f5
        clear f1 f2 f3 f4
        have hbi := by_i64 hk8.out s
        go_wp2_with fail
        go_loopw [15, 16] (fun v x wr2 => ∃ k : Nat, x = .int .i64 k ∧ k ≤ k8 ∧ v = .int .i64 (byF (l8.take k) s) ∧ Mod none_ w7 wr2) (fun _ x _ => k8 - (intOf x).toNat)
        case atStart => exact ⟨0, rfl, by omega, rfl, hmi⟩
        case round =>
          obtain ⟨k, rfl, hk, rfl, hmk⟩ := hrel
          by_cases hkl : k < k8
          · obtain ⟨gl, ol, l, rfl, hmem, hjl, x1, x2⟩ := rdl_get (hL7.out.mod0 hmk) hkl
            have q1 := hmk.cell_some y1 (fun h => h)
            have hlI := (hk8.out l hmem).2
            have hkl2 : k < l8.length := by omega
            have htk : l8.take (k + 1) = l8.take k ++ [l] := by
              rw [List.getElem?_eq_getElem hkl2] at hjl
              injection hjl with hjl
              rw [List.take_succ_eq_append_getElem hkl2, hjl]
            have hst := by_snoc (s := s) (show ((l8.take k ++ [l]).map fun l => l.n).Nodup by rw [← htk]; exact List.Sublist.nodup (List.Sublist.map _ (List.take_sublist _ _)) hnd.out)
            rw [← htk] at hst
            obtain ⟨st1, st2⟩ := hst
            by_cases hn : l.n = s
            · rw [if_pos hn] at st1
              have st3 := st2 hn
              have e3 : (l.n == s) = true := by simpa using hn
              have ewr : wrap64 (0 + l.x) = l.x := by rw [Int.zero_add]; exact IntWalk.wrap64_in _ hlI
              have ewr2 : wrap64 l.x = l.x := IntWalk.wrap64_in _ hlI
              obtain ⟨lx, hlx⟩ : ∃ v, l.x = v := ⟨_, rfl⟩
              rw [hlx] at x2 st1 ewr ewr2 hlI
              rw [hn] at x1
              rw [st3]
              replace hmk := Lib.hid hmk
              replace hmem := Lib.hid hmem
              replace hjl := Lib.hid hjl
              replace htk := Lib.hid htk
              replace st1 := Lib.hid st1
              replace st2 := Lib.hid st2
              replace st3 := Lib.hid st3
              replace hn := Lib.hid hn
              replace hlx := Lib.hid hlx
              replace hmi := Lib.hid hmi
              replace hlI := Lib.hid hlI
              replace f5 := Lib.hid f5
              replace hbi := Lib.hid hbi
              go_wp2_with fail
              go_quiet (fail)
              go_wp2_with fail
              go_roundw
              case rel => exact ⟨k + 1, by go_num, by omega, by rw [st1.out, ewr2], hmk.out.drewN _⟩
              case measure => simp [intOf]; omega
            · rw [if_neg hn] at st1
              have e3 : (l.n == s) = false := by simpa using hn
              obtain ⟨bb, hbb⟩ : ∃ v, byF (l8.take k) s = v := ⟨_, rfl⟩
              rw [hbb] at st1 ⊢
              obtain ⟨ln, hln⟩ : ∃ v, l.n = v := ⟨_, rfl⟩
              rw [hln] at x1 e3
              replace hmk := Lib.hid hmk
              replace hmem := Lib.hid hmem
              replace hjl := Lib.hid hjl
              replace htk := Lib.hid htk
              replace st1 := Lib.hid st1
              replace st2 := Lib.hid st2
              replace hn := Lib.hid hn
              replace hmi := Lib.hid hmi
              replace f5 := Lib.hid f5
              replace hbi := Lib.hid hbi
              replace hbb := Lib.hid hbb
              replace hln := Lib.hid hln
              go_wp2_with fail
              go_quiet (fail)
              go_wp2_with fail
              go_roundw
              case rel => exact ⟨k + 1, by go_num, by omega, by rw [st1.out], hmk.out.drewN _⟩
              case measure => simp [intOf]; omega
          · have hfull : l8.take k = l8 := List.take_of_length_le (by omega)
            rw [hfull]
            generalize byF l8 s = bv at *
            have y1' := hmk.cell_some y1 (fun h => h)
            have y2' := hmk.cell_some y2 (fun h => h)
            have y3' := hmk.cell_some y3 (fun h => h)
            have y4' := hmk.cell_some y4 (fun h => h)
            have z1' := hmk.cell_some z1 (fun h => h)
            have z2' := hmk.cell_some z2 (fun h => h)
            have z3' := hmk.cell_some z3 (fun h => h)
            have z4' := hmk.cell_some z4 (fun h => h)
            clear y1 y2 y3 y4 z1 z2 z3 z4 hfull
            have ew : wrap64 (xh + bv) = xh + bv := IntWalk.wrap64_in _ f5
            have ew2 : IntKind.i64.wrap (xh + bv) = xh + bv := IntWalk.i64_in _ f5
            replace hmk := Lib.hid hmk
            replace hmi := Lib.hid hmi
            replace hbi := Lib.hid hbi
            replace f5 := Lib.hid f5
            go_wp2_with fail
            go_quiet (fail)
            go_wp2_with fail
            go_roundw
            case rel => exact ⟨i + 1, by go_num, by omega, hmk.out.drewN _⟩
            case measure => simp [intOf]; omega
      · replace hmi := Lib.hid hmi
        go_wp2_with fail
        go_ret
        exact ⟨rfl, (hmw7.out.trans hmi.out).below0⟩
  · have ks := Lib.hid (ksm.out hCC w7 A3 c3 A7 c7 hr3.out hr7.out)
    clear hlaw ksm
    replace hCC := Lib.hid hCC
    go_wp2_with fail
    refine ks.out.mono ?_
    rintro e w8 ⟨rfl, kx, rfl⟩
    dsimp only
    go_wp2_with fail
    go_ret
    exact ⟨rfl, (hmw7.out.drewN kx).below0⟩
end Go.Proofs.Ytaohgefpnndjcaa
