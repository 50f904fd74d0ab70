/-
  VoucherMakes: the walk.
-/
import Derived.Test.YtaohgefpnndjcaaVoRef3
import Derived.Test.YtaohgefpnndjcaaVoRow
import Derived.Deep.RegionWith
namespace Go.Proofs.Ytaohgefpnndjcaa
set_option linter.unusedVariables false
open Go.RowKit
set_option maxRecDepth 100000 in
set_option maxHeartbeats 4000000 in
theorem voucherMakes_walk (w : World) (A : Option Addr) (n c : Nat) (os : List Ac) (hr : RdA w A n os) (hok : ∀ o ∈ os, AcOk o) (L : Option Addr) (m d : Nat) (ls : List Lg) (hl : RdL w L m ls) (hmd : m ≤ d) (hlk : ∀ l ∈ ls, LgOk l) :
    Calls Try.prog 3 #[.slice A n c, .slice L m d] w fun e w' => e = .returned (.bool true) ∧ Below w.heap.size w w' := by
  have k0 := Lib.hid (lives_ok w)
  have k1 := Lib.hid (fun W (h : RdA W A n os) => accts_ok W A n c os h hok)
  have k2 := Lib.hid (fun W => few_ok W L m d hmd)
  have hm8 : min m 8 ≤ m := by omega
  have hL8 := rdl_take hl hm8
  have hk8 : ∀ l ∈ ls.take (min m 8), LgOk l := fun l h => hlk l (List.mem_of_mem_take h)
  have hlt : 0 < min m 8 → ∀ k, fp L k → k < w.heap.size := fun h0 k hk => rdl_lt hl (by omega) k hk
  replace hr := Lib.hid hr
  replace hok := Lib.hid hok
  replace hl := Lib.hid hl
  replace hlk := Lib.hid hlk
  go_enter Try.func3, Try.ntmps3
  go_wp2_with fail
  refine k0.out.mono ?_
  rintro e w0 ⟨rfl, hm0⟩
  dsimp only
  replace hm0 := Lib.hid hm0
  go_wp2_with fail
  refine (k1.out _ (Rd.mod0 hr.out hm0.out)).mono ?_
  rintro e w1 ⟨p, b, q, C, rfl, hC, hR, oC, hm1, hp, hb, hpq, hbq, hq1⟩
  dsimp only
  have hmw1 := Lib.hid (hm0.out.trans hm1)
  have hs0 := hm0.out.size
  have hs1 := hm1.size
  clear hm1
  replace hC := Lib.hid hC
  replace hR := Lib.hid hR
  replace oC := Lib.hid oC
  go_wp2_with fail
  refine (k2.out _).mono ?_
  rintro e w2 ⟨rfl, rfl⟩
  dsimp only
  have hml : min m 8 ≤ 8 := by omega
  have hmd8 : min m 8 ≤ d := by omega
  generalize min m 8 = k8 at *
  have hlen8 := hL8.len
  generalize ls.take k8 = l8 at *
  have sC := hC.out.sorted
  have oC1 := make_okc oC.out l8
  have kck := Lib.hid (fun W (hc : ChAt W p b C) (h : RdL W L k8 l8) => check_ok W p b C L k8 d l8 hc oC.out h (by omega) hk8)
  have krc := Lib.hid (fun W (hR : RefAt W q (q+1) C) (h : RdL W L k8 l8) => rcheck_ok W q (q+1) C L k8 d l8 hR oC.out sC h (by omega) hk8)
  have kmk := fun W (hc : ChAt W p b C) (h : RdL W L k8 l8) (hA : 0 < k8 → ∀ k, fp L k → ¬ k = b) => make_ok W p b C L k8 d l8 hc oC.out h (by omega) hk8 hA
  have krm := fun W (hR : RefAt W q (q+1) C) (h : RdL W L k8 l8) (hB : q + 1 ≤ W.heap.size) (hA : 0 < k8 → ∀ k, fp L k → ¬ k = q) => rmake_ok W q (q+1) C L k8 d l8 hR oC.out sC h (by omega) hk8 hB hA
  generalize makeR C l8 = r at *
  generalize checkR C l8 = er at *
  obtain ⟨C1, e1⟩ := r
  dsimp only at oC1
  have ka := Lib.hid (fun W (h : ChAt W p b C) => all_ok W p b C h (by have := oC.out.2; omega) oC.out.nm)
  have ka1 := Lib.hid (fun W (h : ChAt W p b C1) => all_ok W p b C1 h (by have := oC1.2; omega) oC1.nm)
  have sm : ∀ D : List Ac, OkC D → ∀ W A1 d1 A2 d2, OwA W A1 D.length d1 D → RdA W A2 D.length D → Calls Try.prog 14 #[.slice A1 D.length d1, .slice A2 D.length d2] W (fun e w' => e = .returned (.bool true) ∧ ∃ k, w' = W.drewN k) := fun D oD W A1 d1 A2 d2 hA hB => by
    have := same_ok W A1 A2 D.length D.length d1 d2 D D (Ow.rd hA) hB (by have := oD.2; omega) (by have := oD.2; omega)
    rw [show sameAc D D = true from decide_eq_true rfl] at this; exact this
  have ks := Lib.hid (sm C oC.out)
  have ks1 := Lib.hid (sm C1 oC1)
  clear sm
  have hqb : q ≠ b := by omega
  have hqp : q ≠ p := by omega
  let St : World → Nat → Nat → Prop := fun W i j => ChAt W p b (if i = 0 then C else C1) ∧ RefAt W q (q+1) (if j = 0 then C else C1) ∧ Mod none_ w W ∧ q + 1 ≤ W.heap.size ∧ RdL W L k8 l8
  have hLb : 0 < k8 → ∀ k, fp L k → ¬ k = b := fun h0 k hk he => by have := hlt h0 k hk; omega
  have hLq : 0 < k8 → ∀ k, fp L k → ¬ k = q := fun h0 k hk he => by have := hlt h0 k hk; omega
  have kM := Lib.hid (fun W j (h : Hid (St W 0 j)) => (kmk W h.out.1 h.out.2.2.2.2 hLb).mono (fun e w' (hp : ChPost W p b (C1, e1) e w') => (⟨hp.1, Lib.hid ⟨hp.2.1, h.out.2.1.mod hp.2.2 hqb (fun i hi _ he => by have : i = b := he; omega), h.out.2.2.1.then hp.2.2 (fun i hi he => by have : i = b := he; omega), Nat.le_trans h.out.2.2.2.1 hp.2.2.size, h.out.2.2.2.2.mod' hp.2.2 hLb⟩⟩ : e = .returned (.int .i64 e1) ∧ Hid (St w' 1 j))))
  have kR := Lib.hid (fun W i (h : Hid (St W i 0)) => (krm W h.out.2.1 h.out.2.2.2.2 h.out.2.2.2.1 hLq).mono (fun e w' (hp : RfPost W q (q+1) (C1, e1) e w') => (⟨hp.1, Lib.hid ⟨h.out.1.mod hp.2.2 (fun he => hqp he.symm) (fun he => hqb he.symm), hp.2.1, h.out.2.2.1.then hp.2.2 (fun i hi he => by have : i = q := he; omega), Nat.le_trans h.out.2.2.2.1 hp.2.2.size, h.out.2.2.2.2.mod' hp.2.2 hLq⟩⟩ : e = .returned (.int .i64 e1) ∧ Hid (St w' i 1))))
  have kst := Lib.hid (fun W (hc : ChAt W p b C) (hr : RefAt W q (q+1) C) (hm : Mod none_ w W) (hq : q + 1 ≤ W.heap.size) (h : RdL W L k8 l8) => (Lib.hid ⟨hc, hr, hm, hq, h⟩ : Hid (St W 0 0)))
  have kz := Lib.hid (fun W (h : Hid (St W 1 1)) => show ChAt W p b C1 ∧ RefAt W q (q+1) C1 ∧ Mod none_ w W from ⟨h.out.1, h.out.2.1, h.out.2.2.1⟩)
  clear_value St
  clear kmk krm
  replace oC1 := Lib.hid oC1
  replace hL8 := Lib.hid hL8
  replace hk8 := Lib.hid hk8
  replace hlt := Lib.hid hlt
  replace hLb := Lib.hid hLb
  replace hLq := Lib.hid hLq
  replace sC := Lib.hid sC
  go_wp2_with fail
  refine (kck.out _ hC.out (hL8.out.mod0 hmw1.out)).mono ?_
  rintro e w3 ⟨rfl, hm3⟩
  dsimp only
  have hC3 := Lib.hid (hC.out.mod0 hm3)
  have hR3 := Lib.hid (hR.out.mod0 hm3)
  have hL3 := Lib.hid ((hL8.out.mod0 hmw1.out).mod0 hm3)
  have hmw3 := Lib.hid (hmw1.out.trans hm3)
  have hs3 := hm3.size
  clear hm3
  go_wp2_with fail
  refine (krc.out _ hR3.out hL3.out).mono ?_
  rintro e w4 ⟨rfl, hm4⟩
  dsimp only
  have hC4 := Lib.hid (hC3.out.mod0 hm4)
  have hR4 := Lib.hid (hR3.out.mod0 hm4)
  have hL4 := Lib.hid (hL3.out.mod0 hm4)
  have hmw4 := Lib.hid (hmw3.out.trans hm4)
  have hs4 := hm4.size
  clear hm4 hC3 hR3 hL3
  obtain ⟨A5, c5, hce, hrd5, hcn5⟩ := hR4.out.cell
  have kS := Lib.hid (fun W (h : Mod none_ w4 W) => show Mod none_ w4 W ∧ W.cell? ⟨q, 0, none⟩ = some (.slice A5 C.length c5) from ⟨h, h.cell_some hce (fun h => h)⟩)
  have hrdW := Lib.hid (fun W (h : Mod none_ w4 W) => show RdA W A5 C.length C from Rd.mod0 hrd5 h)
  clear hce hrd5
  go_upto_region 8 with fail
  go_region_held3 (fun W => Mod none_ w4 W ∧ W.cell? ⟨q, 0, none⟩ = some (.slice A5 C.length c5)) (first | exact kS.out _ (Mod.refl _ _).drew | assumption | exact kS.out _ (Mod.trans (And.left (by assumption)) hm6) | exact kS.out _ (Mod.drewN (And.left (by assumption)) _)) (first
    | (go_at_call 15; (with_reducible refine (ka.out _ (hC4.out.mod0 (And.left (by assumption)))).mono ?_); rintro e6 x6 ⟨A6, c6, rfl, ho6, hf6, hm6⟩; dsimp only)
    | (go_at_call 14; (with_reducible refine (ks.out _ A6 c6 A5 c5 ho6 (hrdW.out _ (And.left (by assumption)))).mono ?_); rintro e8 x8 ⟨rfl, kx, rfl⟩; dsimp only))
  all_goals
    have hm7 : Mod none_ w4 (x6.drewN kx) := And.left (by assumption)
    generalize x6.drewN kx = w7 at *
    have hst0 := kst.out w7.drew (hC4.out.mod0 hm7.drew) (hR4.out.mod0 hm7.drew) (hmw4.out.trans hm7.drew) (by have := hm7.size; show q + 1 ≤ w7.heap.size; omega) (hL4.out.mod0 hm7.drew)
    clear ka ks kS hrdW kst kck krc
    replace hm7 := Lib.hid hm7
    go_upto_region 10 with fail
    go_region_with (first
      | (go_at_call 16; (with_reducible refine (kM.out _ 0 (by assumption)).mono ?_); rintro e11 x11 ⟨rfl, h10⟩; dsimp only)
      | (go_at_call 16; (with_reducible refine (kM.out _ 1 (by assumption)).mono ?_); rintro e11 x12 ⟨rfl, h11⟩; dsimp only; obtain ⟨hC9, hR9, hm9⟩ := kz.out _ h11; obtain ⟨A9, c9, hce9, hrd9, hcn9⟩ := hR9.cell; replace hC9 := Lib.hid hC9; replace hR9 := Lib.hid hR9; replace hm9 := Lib.hid hm9; replace hrd9 := Lib.hid hrd9)
      | (go_at_call 17; (with_reducible refine (kR.out _ 0 (by assumption)).mono ?_); rintro e11 x13 ⟨rfl, h01⟩; dsimp only)
      | (go_at_call 17; (with_reducible refine (kR.out _ 1 (by assumption)).mono ?_); rintro e11 x14 ⟨rfl, h11⟩; dsimp only; obtain ⟨hC9, hR9, hm9⟩ := kz.out _ h11; obtain ⟨A9, c9, hce9, hrd9, hcn9⟩ := hR9.cell; replace hC9 := Lib.hid hC9; replace hR9 := Lib.hid hR9; replace hm9 := Lib.hid hm9; replace hrd9 := Lib.hid hrd9)
      | (go_at_call 15; (with_reducible refine (ka1.out _ hC9.out).mono ?_); rintro e15 x15 ⟨A10, c10, rfl, ho10, hf10, hm10⟩; dsimp only; have hce10 := hm10.cell_some hce9 (fun h => h); have hrd10 : RdA x15 A9 C1.length C1 := Rd.mod0 hrd9.out hm10; have hmm10 := Lib.hid (hm9.out.trans hm10); clear hm10 hf10; replace ho10 := Lib.hid ho10; replace hrd10 := Lib.hid hrd10)
      | (go_at_call 14; (with_reducible refine (ks1.out _ A10 c10 A9 c9 ho10.out hrd10.out).mono ?_); rintro e16 x16 ⟨rfl, kx2, rfl⟩; dsimp only))
    all_goals
      go_wp2_with fail
      go_ret
      exact ⟨rfl, (hmm10.out.drewN kx2).below0⟩
end Go.Proofs.Ytaohgefpnndjcaa
