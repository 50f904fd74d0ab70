import Derived.Test.YtaohgefpnndjcaaBq15
import Derived.Test.YtaohgefpnndjcaaBq13
import Derived.ShutString
/-
  VoucherBack: the walk.
-/
namespace Go.Proofs.Ytaohgefpnndjcaa
set_option linter.unusedVariables false
open Go.RowKit
theorem make_posts {C : List Ac} {ls : List Lg} (hs : SortedC C) (h : (makeR C ls).2 = 0) : ∀ l ∈ ls, (actR (0 - l.x)).2 = 0 := by
  cases hr : rightB ls with
  | false => rw [make_no1 hr] at h; dsimp only at h; omega
  | true =>
    cases hw : weighB ls with
    | false => rw [make_no2 hr hw] at h; dsimp only at h; omega
    | true =>
      rw [make_yes hr hw] at h
      obtain ⟨_, hn, _⟩ := (right_iff ls).1 hr
      obtain ⟨a1, _⟩ := all_eff ls hs hn
      have h0 : (allR C ls).2 = 0 := by
        by_cases h0 : (allR C ls).2 = 0
        · exact h0
        · rw [if_pos h0] at h; exact absurd h h0
      intro l hl
      have := a1.1 h0 l hl
      unfold postR at this
      by_cases h2 : (actR (0 - l.x)).2 = 0
      · exact h2
      · cases hg : getC C l.n with
        | none => rw [hg] at this; dsimp only at this; omega
        | some a => rw [hg] at this; dsimp only at this; rw [if_pos h2] at this; exact absurd this h2
theorem neg_ok {ls : List Lg} (hk : ∀ l ∈ ls, LgOk l) (hn : ∀ l ∈ ls, (actR (0 - l.x)).2 = 0) : ∀ l ∈ ls.map negL, LgOk l := by
  intro m hm
  obtain ⟨l, hl, rfl⟩ := List.mem_map.1 hm
  refine ⟨(hk l hl).1, ?_⟩
  have := inI_yes.1 (actR_zero (hn l hl)).1
  show I64 (-l.x)
  unfold I64
  omega
theorem negneg_ok {ls : List Lg} (hk : ∀ l ∈ ls, LgOk l) : ∀ l ∈ ls.map negL, (actR (0 - l.x)).2 = 0 := by
  intro m hm
  obtain ⟨l, hl, rfl⟩ := List.mem_map.1 hm
  have := (hk l hl).2
  unfold I64 at this
  have e : 0 - (negL l).x = l.x := by show 0 - -l.x = l.x; omega
  rw [e, act_yes (inI_yes.2 ⟨this.1, this.2⟩)]
/-- Mirror of legs that may be turned -/
theorem mir_ok (ls : List Lg) (k : Nat) (hk : k ≤ 1000) (hz : ∀ l ∈ ls, LgOk l) (hn : ∀ l ∈ ls, (actR (0 - l.x)).2 = 0) (W : World) (A : Option Addr) (c : Nat) (h : RdL W A k ls) :
    Calls Try.prog 22 #[.slice A k c] W (fun e w' => ∃ A' c', e = .returned (.tuple #[.slice A' k c', .int .i64 0]) ∧ OwL w' A' k c' (ls.map negL) ∧ Fresh W A' ∧ Mod none_ W w') := by
  have hl := h.len
  refine (mirror_ok W A k c ls h hk hz).mono ?_
  rintro e w' (⟨A', c', rfl, h1, h2, _, h3⟩ | ⟨_, ⟨l, hm, hne⟩, _⟩)
  · rw [hl] at h1 ⊢; exact ⟨A', c', rfl, h1, h2, h3⟩
  · exact absurd (hn l hm) hne
/-- Net of legs and their mirror -/
theorem net_none (ls : List Lg) (k : Nat) (hk : k ≤ 100) (hz : ∀ l ∈ ls, LgOk l) (hz2 : ∀ l ∈ ls.map negL, LgOk l) (W : World) (L B : Option Addr) (c d g : Nat) (G : Option Addr) (hG : Rd W 1 G 2 [.slice L k c, .slice B k d]) (hL : RdL W L k ls) (hB : RdL W B k (ls.map negL)) :
    Calls Try.prog 20 #[.slice G 2 g] W (fun e w' => ∃ A' c', e = .returned (.tuple #[.slice A' 0 c', .int .i64 0]) ∧ Mod none_ W w') := by
  have hl := hL.len
  have hf : [ls, ls.map negL].flatten = ls ++ ls.map negL := by simp
  have hat : LegsAt W G 2 [⟨L, k, c⟩, ⟨B, k, d⟩] [ls, ls.map negL] := by
    refine ⟨hG, rfl, ?_⟩
    intro i s l hs hl2
    rcases i with _ | _ | i
    · simp at hs hl2; subst hs; subst hl2; exact ⟨hL, by dsimp only; omega⟩
    · simp at hs hl2; subst hs; subst hl2; exact ⟨hB, by dsimp only; omega⟩
    · simp at hs
  refine (net_ok W G 2 g _ _ hat (by omega) (by rw [hf]; intro l h; exact (List.mem_append.1 h).elim (hz l) (hz2 l)) (by rw [hf, List.length_append, List.length_map]; omega)).mono ?_
  rw [hf]
  rintro e w' ⟨N, _, _, hm, ⟨_, A', c', rfl, _, _⟩ | ⟨⟨s, _, hs⟩, _⟩⟩
  · rw [out_none]; exact ⟨A', c', rfl, hm⟩
  · rw [mirror_zero] at hs; exact absurd hs (by decide)
set_option maxRecDepth 100000 in
set_option maxHeartbeats 2000000 in
theorem voucherBack_walk (w : World) (A : Option Addr) (n c : Nat) (os : List Ac) (hr : RdA w A n os) (hok : ∀ o ∈ os, AcOk o) (L : Option Addr) (m d : Nat) (ls : List Lg) (hl : RdL w L m ls) (hmd : m ≤ d) (hlk : ∀ l ∈ ls, LgOk l) :
    Calls Try.prog 8 #[.slice A n c, .slice L m d] w fun e w' => e = .returned (.bool true) ∧ Below w.heap.size w w' := by
  have k0 := Lib.hid (lives_ok w)
  have k1 := Lib.hid (fun W (h : RdA W A n os) => accts_ok W A n c os h hok)
  have k2 := Lib.hid (fun W => few_ok W L m d hmd)
  have hm8 : min m 8 ≤ m := by omega
  have hL8 := rdl_take hl hm8
  have hk8 : ∀ l ∈ ls.take (min m 8), LgOk l := fun l h => hlk l (List.mem_of_mem_take h)
  have hlt : 0 < min m 8 → ∀ k, fp L k → k < w.heap.size := fun h0 k hk => rdl_lt hl (by omega) k hk
  replace hr := Lib.hid hr
  replace hok := Lib.hid hok
  replace hl := Lib.hid hl
  replace hlk := Lib.hid hlk
  go_enter Try.func8, Try.ntmps8
  go_wp2_with fail
  refine k0.out.mono ?_
  rintro e w0 ⟨rfl, hm0⟩
  dsimp only
  replace hm0 := Lib.hid hm0
  go_wp2_with fail
  refine (k1.out _ (Rd.mod0 hr.out hm0.out)).mono ?_
  rintro e w1 ⟨p, b, q, C, rfl, hC, hR, oC, hm1, hp, hb, hpq, hbq, hq1⟩
  dsimp only
  have hmw1 := Lib.hid (hm0.out.trans hm1)
  have hs0 := hm0.out.size
  have hs1 := hm1.size
  clear hm1
  clear hR
  replace hC := Lib.hid hC
  replace oC := Lib.hid oC
  go_wp2_with fail
  refine (k2.out _).mono ?_
  rintro e w2 ⟨rfl, rfl⟩
  dsimp only
  have hml : min m 8 ≤ 8 := by omega
  have hmd8 : min m 8 ≤ d := by omega
  generalize min m 8 = k8 at *
  have hlen8 := hL8.len
  generalize ls.take k8 = l8 at *
  have oC1 := make_okc oC.out l8
  have kmk := fun W (hc : ChAt W p b C) (h : RdL W L k8 l8) (hA : 0 < k8 → ∀ k, fp L k → ¬ k = b) => make_ok W p b C L k8 d l8 hc oC.out h (by omega) hk8 hA
  have hbk := back_make (ls := l8) hC.out.sorted oC.out hk8
  have hneg := make_posts (ls := l8) hC.out.sorted
  generalize makeR C l8 = r at *
  obtain ⟨C1, e1⟩ := r
  dsimp only at oC1 hbk hneg
  have hok2 := fun h0 => neg_ok hk8 (hneg h0)
  have kmi := Lib.hid (fun h0 => mir_ok l8 k8 (by omega) hk8 (hneg h0))
  have kmi2 := Lib.hid (fun h0 => mir_ok (l8.map negL) k8 (by omega) (hok2 h0) (negneg_ok hk8))
  rw [neg_neg] at kmi2
  have knet := Lib.hid (fun h0 => net_none l8 k8 (by omega) hk8 (hok2 h0))
  have oC2 := make_okc oC1 (l8.map negL)
  have kmk2 := Lib.hid (fun h0 W B d2 (hc : ChAt W p b C1) (h : RdL W B k8 (l8.map negL)) (hA : 0 < k8 → ∀ k, fp B k → ¬ k = b) => make_ok W p b C1 B k8 d2 (l8.map negL) hc oC1 h (by omega) (hok2 h0) hA)
  generalize makeR C1 (l8.map negL) = r2 at *
  obtain ⟨C2, e2⟩ := r2
  dsimp only at hbk oC2
  clear hneg hok2
  replace hbk := Lib.hid hbk
  have ka2 := Lib.hid (fun W (h : ChAt W p b C2) => all_ok W p b C2 h (by have := oC2.2; omega) oC2.nm)
  have ksm2 := Lib.hid (fun (hCC : C2 = C) W A1 d1 A2 d2 (hA : RdA W A1 C2.length C2) (hB : RdA W A2 C.length C) => show Calls Try.prog 14 #[.slice A1 C2.length d1, .slice A2 C.length d2] W (fun e w' => e = .returned (.bool true) ∧ ∃ k, w' = W.drewN k) from by
    have := same_ok W A1 A2 C2.length C.length d1 d2 C2 C hA hB (by have := oC2.2; omega) (by have := oC.out.2; omega)
    rw [show sameAc C2 C = true from decide_eq_true hCC] at this; exact this)
  have ka := Lib.hid (fun W (h : ChAt W p b C) => all_ok W p b C h (by have := oC.out.2; omega) oC.out.nm)
  have hbl := hC.out.2.1.lt
  have hpl := hC.out.1.lt
  replace kmk := Lib.hid kmk
  replace oC1 := Lib.hid oC1
  replace hL8 := Lib.hid hL8
  replace hk8 := Lib.hid hk8
  replace hlt := Lib.hid hlt
  go_wp2_with fail
  refine (ka.out _ hC.out).mono ?_
  rintro e w3 ⟨A3, c3, rfl, ho3, hf3, hm3⟩
  dsimp only
  have hC3 := Lib.hid (hC.out.mod0 hm3)
  have hL3 := Lib.hid ((hL8.out.mod0 hmw1.out).mod0 hm3)
  have hmw3 := Lib.hid (hmw1.out.trans hm3)
  have hs3 := hm3.size
  clear hm3
  replace ho3 := Lib.hid ho3
  replace hf3 := Lib.hid hf3
  go_wp2_with fail
  refine (kmk.out _ hC3.out hL3.out (fun h0 k hk he => by have := hlt.out h0 k hk; omega)).mono ?_
  rintro e w5 ⟨rfl, hC5, hm5⟩
  dsimp only at hC5 ⊢
  have ho5 := Lib.hid (show OwA w5 A3 C.length c3 C from Ow.mod ho3.out hm5 (fun i hi he => by obtain ⟨a, ha, rfl⟩ := hi; have h1 := hf3.out a ha; have h2 : a.block = b := he; omega))
  have hL5 := Lib.hid (hL3.out.mod' hm5 (fun h0 i hi he => by have h1 := hlt.out h0 i hi; have h2 : i = b := he; omega))
  have hmw5 := Lib.hid (hmw3.out.then hm5 (fun i hi he => by have : i = b := he; omega))
  have hs5 := hm5.size
  clear hm5 ho3 hC3 hL3
  replace hC5 := Lib.hid hC5
  by_cases he1 : e1 = 0
  · subst he1
    have hb2 := Lib.hid (hbk.out rfl)
    have kmi' := Lib.hid (kmi.out rfl)
    have kmi2' := Lib.hid (kmi2.out rfl)
    have knet' := Lib.hid (knet.out rfl)
    have kmk2' := Lib.hid (kmk2.out rfl)
    clear hbk kmi kmi2 knet kmk2 kmk
    go_wp2_with fail
    refine (kmi'.out _ _ _ hL5.out).mono ?_
    rintro e w6 ⟨A6, c6, rfl, ho6, hf6, hm6⟩
    dsimp only
    have hC6 := Lib.hid (hC5.out.mod0 hm6)
    have hL6 := Lib.hid (hL5.out.mod0 hm6)
    have ho36 := Lib.hid (Ow.mod0 ho5.out hm6)
    have hB6 := Lib.hid (show RdL w6 A6 k8 (l8.map negL) from Ow.rd ho6)
    have hAb : 0 < k8 → ∀ k, fp A6 k → ¬ k = b := fun _ k hk he => by
      obtain ⟨a, ha, rfl⟩ := hk; have h1 := hf6 a ha; have h2 : a.block = b := he; omega
    replace hAb := Lib.hid hAb
    have hmw6 := Lib.hid (hmw5.out.trans hm6)
    have hs6 := hm6.size
    clear hm6 ho6 hf6 hC5 hL5 ho5
    go_wp2_with fail
    refine (knet'.out _ _ _ _ _ _ _ (rds_two w6 _ rfl _ _ _ _ _ _ _) (hL6.out.mod0 ((Mod.refl _ _).alloc _)) (hB6.out.mod0 ((Mod.refl _ _).alloc _))).mono ?_
    rintro e w7 ⟨A7, c7, rfl, hm7⟩
    dsimp only
    replace hm7 := ((Mod.refl none_ w6).alloc _).trans hm7
    have hC7 := Lib.hid (hC6.out.mod0 hm7)
    have hL7 := Lib.hid (hL6.out.mod0 hm7)
    have hB7 := Lib.hid (hB6.out.mod0 hm7)
    have ho7 := Lib.hid (Ow.mod0 ho36.out hm7)
    have hmw7 := Lib.hid (hmw6.out.trans hm7)
    have hs7 := hm7.size
    clear hm7 hC6 hL6 hB6 ho36
    go_wp2_with fail
    refine (kmi2'.out _ _ _ hB7.out).mono ?_
    rintro e w8 ⟨A8, c8, rfl, ho8, hf8, hm8⟩
    dsimp only
    have hC8 := Lib.hid (hC7.out.mod0 hm8)
    have hL8' := Lib.hid (hL7.out.mod0 hm8)
    have hB8 := Lib.hid (hB7.out.mod0 hm8)
    have ho38 := Lib.hid (Ow.mod0 ho7.out hm8)
    have hmw8 := Lib.hid (hmw7.out.trans hm8)
    have hs8 := hm8.size
    clear hm8 hC7 hL7 hB7 ho7
    replace ho8 := Lib.hid ho8
    replace hf8 := Lib.hid hf8
    go_wp2_with fail
    refine (kmk2'.out _ _ _ hC8.out hB8.out hAb.out).mono ?_
    rintro e w9 ⟨rfl, hC9, hm9⟩
    dsimp only at hC9 ⊢
    have hR9 := Lib.hid (show RdL w9 A8 k8 l8 from Ow.rd (Ow.mod ho8.out hm9 (fun i hi he => by obtain ⟨a, ha, rfl⟩ := hi; have h1 := hf8.out a ha; have h2 : a.block = b := he; omega)))
    have hL9 := Lib.hid (hL8'.out.mod' hm9 (fun h0 i hi he => by have h1 := hlt.out h0 i hi; have h2 : i = b := he; omega))
    have ho9 := Lib.hid (show RdA w9 A3 C.length C from Ow.rd (Ow.mod ho38.out hm9 (fun i hi he => by obtain ⟨a, ha, rfl⟩ := hi; have h1 := hf3.out a ha; have h2 : a.block = b := he; omega)))
    have hmw9 := Lib.hid (hmw8.out.then hm9 (fun i hi he => by have : i = b := he; omega))
    have hs9 := hm9.size
    clear hm9 hC8 hL8' hB8 ho38 ho8 hf8
    have ksl := Lib.hid (samel_ok w9 A8 L k8 k8 c8 d l8 l8 hR9.out hL9.out (by omega) (by omega))
    rw [show sameLg l8 l8 = true from decide_eq_true rfl] at ksl
    replace hC9 := Lib.hid hC9
    rcases hb2.out with ⟨rfl, hCC⟩ | rfl
    · replace hCC := Lib.hid hCC
      go_wp2_with fail
      refine ksl.out.mono ?_
      rintro e w10 ⟨rfl, kk, rfl⟩
      dsimp only
      have hC10 := Lib.hid (hC9.out.mod0 ((Mod.refl none_ w9).drewN kk))
      have ho10 := Lib.hid (Rd.mod0 ho9.out ((Mod.refl none_ w9).drewN kk))
      have hmw10 := Lib.hid (hmw9.out.drewN kk)
      generalize w9.drewN kk = w10 at *
      go_wp2_with fail
      refine (ka2.out _ hC10.out).mono ?_
      rintro e w11 ⟨A11, c11, rfl, ho11, hf11, hm11⟩
      dsimp only
      have hr11 := Lib.hid (Ow.rd ho11)
      have hr3 := Lib.hid (Rd.mod0 ho10.out hm11)
      have hmw11 := Lib.hid (hmw10.out.trans hm11)
      clear hm11 ho11 hf11
      go_wp2_with fail
      refine (ksm2.out hCC.out _ _ _ _ _ hr11.out hr3.out).mono ?_
      rintro e w12 ⟨rfl, k2, rfl⟩
      dsimp only
      go_wp2_with fail
      go_ret
      exact ⟨rfl, (hmw11.out.drewN k2).below0⟩
    · go_wp2_with fail
      refine ksl.out.mono ?_
      rintro e w10 ⟨rfl, kk, rfl⟩
      dsimp only
      go_wp2_with fail
      go_ret
      exact ⟨rfl, (hmw9.out.drewN kk).below0⟩
  · have e1n : (e1 == 0) = false := by simpa using he1
    go_wp2_with fail
    go_ret
    exact ⟨rfl, hmw5.out.below0⟩
end Go.Proofs.Ytaohgefpnndjcaa
/-
  VoucherBack: for every input the law returns true, and each argument reads as it did. No condition.
-/
namespace Go.Proofs.Ytaohgefpnndjcaa.lawBack
open Go.ChangeShapes Go.WideShapes Go.ChangeAt Go.RowKit Go.Deep
open Go.ChangeMaps (open_string shut_string)
set_option linter.unusedVariables false

set_option maxRecDepth 100000 in
theorem lifted (os : Os) (started : os.Started) (H : Type) (enc : TypeId × Value → H) :
    ReturnsInHanded {} Try.checked os 8 .any (Rows.voucherBackSpec.pre6 enc Try.prog Try.f8 Rows.voucherBackRow.domain false) (Rows.voucherBackSpec.post enc Try.prog Try.f8 false true false false) := by
  refine returnsInHanded_of_change_sized (C := Try.checked) (by kernel_rfl) started (by kernel_rfl) Try.func8
    (ChangeSpec.witness6 (enc := enc) (C := Try.checked) false ⟨#[], #[.slice none 0 0, .slice none 0 0], []⟩ 8 (by kernel_rfl) (by kernel_rfl) (by kernel_rfl) (by kernel_rfl)) ?_
  intro W base args ds gs before hval0 hW hcnd hsz _
  have hval : ∀ (j : Nat) t v, Try.f8.params[j]? = some t → args[j]? = some v → Value.okWide Try.prog W .any base t v := hval0
  have hW' := hW
  obtain ⟨p, q, hA0, hV, rfl, hfz, hnd⟩ := hW
  have hA : DataW.TrodAll enc Try.prog W 0 (fun _ => true) true Try.f8.params.toList args.toList ds p := hA0
  rw [Try.params8] at hA hval
  have laidOut : laidOutB Try.prog = true := by kernel_rfl
  obtain ⟨v0, vs0, d0, ds0, p0, q0, hargs, rfl, rfl, h0, r0⟩ := trodAll_cons hA
  obtain ⟨v1, vs1, d1, ds1, p1, q1, rfl, rfl, rfl, h1, r1⟩ := trodAll_cons r0
  obtain ⟨rfl, rfl, rfl⟩ := trodAll_nil r1
  obtain rfl : args = #[v0, v1] := by cases args; simp_all
  obtain ⟨rfl, rfl⟩ := trodVars_none hV
  have k0 := h0
  have lt0 : ∀ x ∈ p0, x.block < W.heap.size := by obtain ⟨m, hm⟩ := k0; exact DataW.trod_lt m _ _ _ hm
  have w0 : Wd Try.prog 22 d0 := wd_arg hsz (j := 0) rfl rfl
  have k1 := h1
  have lt1 : ∀ x ∈ p1, x.block < W.heap.size := by obtain ⟨m, hm⟩ := k1; exact DataW.trod_lt m _ _ _ hm
  have w1 : Wd Try.prog 23 d1 := wd_arg hsz (j := 1) rfl rfl
  obtain ⟨fuel0, f0⟩ := h0
  obtain ⟨A0, n0, c0, os0, hcs0, rd0, nc0, ok0⟩ := open_accts f0 w0
  obtain ⟨a_, n_, c_, rfl⟩ := okWide_slice Try.underlying22 (hval 0 22 v0 rfl rfl)
  simp only [Value.cells, List.cons.injEq, and_true] at hcs0
  obtain ⟨rfl, rfl, rfl⟩ : A0 = a_ ∧ n0 = n_ ∧ c0 = c_ := by injection hcs0 with x1 x2 x3; exact ⟨x1.symm, x2.symm, x3.symm⟩
  obtain ⟨fuel1, f1⟩ := h1
  obtain ⟨A1, n1, c1, os1, hcs1, rd1, nc1, ok1⟩ := open_legs f1 w1
  obtain ⟨a_, n_, c_, rfl⟩ := okWide_slice Try.underlying23 (hval 1 23 v1 rfl rfl)
  simp only [Value.cells, List.cons.injEq, and_true] at hcs1
  obtain ⟨rfl, rfl, rfl⟩ : A1 = a_ ∧ n1 = n_ ∧ c1 = c_ := by injection hcs1 with x1 x2 x3; exact ⟨x1.symm, x2.symm, x3.symm⟩
  clear hA0 hval0
  refine (voucherBack_walk W A0 n0 c0 os0 rd0 ok0 A1 n1 c1 os1 rd1 nc1 ok1).mono fun e W' ⟨he, bel⟩ => ?_
  subst he
  exact ⟨_, rfl, _, _, _, [], _, [], hW', trodAll_mk1 (shut_bool Try.underlying4 _), (trodAll_cons_mk (Below.trod laidOut (by kernel_rfl) (of_decide_eq_true (by kernel_rfl)) k0 bel lt0) (trodAll_cons_mk (Below.trod laidOut (by kernel_rfl) (of_decide_eq_true (by kernel_rfl)) k1 bel lt1) trodAll_mk0)), rfl, bel.frame _, fun h => by cases h⟩

theorem over : Rows.voucherBackRow.holds Try.pinned (OpenSpec.ofChange Rows.voucherBackSpec) :=
  OpenClaim.holds_of_wide 8 Try.f8 rfl rfl rfl rfl rfl rfl rfl ⟨rfl, rfl, rfl, rfl, rfl⟩ rfl rfl rfl rfl rfl (by kernel_rfl) Try.func8 (by kernel_rfl)
    (of_decide_eq_true (by kernel_rfl)) (by unfold Func.isWrapper; first | (rw [if_pos (by decide +kernel)]; kernel_rfl) | (rw [if_neg (by decide +kernel)]; exact ⟨rfl, rfl⟩))
    (fun os started H enc _ => lifted os started H enc)

theorem proved : Rows.VoucherBackSaid := over
end Go.Proofs.Ytaohgefpnndjcaa.lawBack
