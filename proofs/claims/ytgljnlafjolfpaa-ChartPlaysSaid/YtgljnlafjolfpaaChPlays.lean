/-
  ChartPlays: the walk.
-/
import Derived.Test.YtgljnlafjolfpaaChRef5
import Derived.Test.YtgljnlafjolfpaaChBack
import Derived.Test.YtgljnlafjolfpaaChApartP
import Derived.Test.YtgljnlafjolfpaaChFreeP
import Derived.Deep.RegionHeld3
namespace Go.Proofs.Ytgljnlafjolfpaa
set_option linter.unusedVariables false
open Go.RowKit
/-- both charts: the same accounts -/
def Both (w : World) (p b q B : Nat) (W : World) : Prop := ∃ C, ChAt W p b C ∧ RefAt W q B C ∧ OkC C ∧ Mod none_ w W
set_option maxRecDepth 100000 in
set_option maxHeartbeats 4000000 in
theorem chartPlays_walk (w : World) (A : Option Addr) (n c : Nat) (os : List OpV) (hr : Rd w 3 A n (os.flatMap OpV.cells)) (hnc : n ≤ c) (hok : ∀ o ∈ os, o.ok) :
    Calls Try.prog 6 #[.slice A n c] w fun e w' => e = .returned (.bool true) ∧ Below w.heap.size w w' := by
  have k0 := Lib.hid (lives_ok w)
  have k1 := Lib.hid (fun W => new_ok W)
  have ke := Lib.hid (fun W => early_ok W A n c hnc)
  replace hr := Lib.hid hr
  replace hok := Lib.hid hok
  go_enter Try.func6, Try.ntmps6
  go_wp2_with fail
  refine k0.out.mono ?_
  rintro e w0 ⟨rfl, hm0⟩
  dsimp only
  replace hm0 := Lib.hid hm0
  go_wp2_with fail
  refine (k1.out _).mono ?_
  rintro e w1 ⟨p, b, rfl, hc1, hm1, hp, hb⟩
  dsimp only
  have hmw1 := Lib.hid (hm0.out.then hm1 (fun _ _ h => h))
  have hsz0 := hm0.out.size
  have hbl := hc1.2.1.lt
  have hpl := hc1.1.lt
  replace hc1 := Lib.hid hc1
  replace hm1 := Lib.hid hm1
  go_wp2_with fail
  refine (ke.out _).mono ?_
  rintro e w2 ⟨rfl, rfl⟩
  dsimp only
  have hB0 : Hid (Both w p b w1.heap.size (w1.heap.size + 1) (w1.alloc (.cells #[.slice none 0 0] 44))) :=
    Lib.hid ⟨[], hc1.out.alloc _, ⟨none, 0, Blk.new _ _ _, Ow.nil _ _ _, (fun k ⟨a, ha, _⟩ => by cases ha)⟩, OkC.nil, hmw1.out.alloc _⟩
  have hb1 : b < w1.heap.size + 1 := by omega
  have hqb : w1.heap.size ≠ b := by omega
  have hqp : w1.heap.size ≠ p := by omega
  have hp1 : p < w1.heap.size + 1 := by omega
  have hw1s : w.heap.size ≤ w1.heap.size := hmw1.out.size
  have hpw : w.heap.size ≤ p := by omega
  have hbw : w.heap.size ≤ b := by omega
  go_wp2_with fail
  have hsz1 : (w1.alloc (.cells #[.slice none 0 0] 44)).heap.size = w1.heap.size + 1 := by simp
  generalize w1.heap.size = q at *
  go_loopw [5] (fun v wr => ∃ j : Nat, v = .int .i64 j ∧ j ≤ min n 150 ∧ (q + 1 ≤ wr.heap.size) ∧ Both w p b q (q + 1) wr) (fun v _ => min n 150 - (intOf v).toNat)
  case atStart => exact ⟨0, rfl, by omega, by omega, hB0.out⟩
  case round =>
    obtain ⟨j, rfl, hj, hqs, C, hC, hR, oC, hm⟩ := hrel
    clear hB0
    by_cases hlt : j < min n 150
    · have hjn : j < n := by omega
      obtain ⟨ab, ao, op, rfl, hmem, e0, e1, e2⟩ := ops_get hr.out hjn
      have hopk := hok.out op hmem
      have habl := World.block_lt_of_cell? w _ e0
      obtain ⟨k, s, x⟩ := op
      obtain ⟨sl, rfl⟩ : ∃ sl, s = txt sl := ⟨s.data.toList, rfl⟩
      dsimp only at e0 e1 e2 hopk habl
      have hx : I64 x := i64_of' hopk.2
      have oC' := step_okc oC (kindN k) sl x hx
      have hsrt := hC.sorted
      have kd := fun W (h : ChAt W p b C) => does_ok W p b C k x (txt sl) h hopk.1 oC hx
      rw [show (txt sl).data.toList = sl from rfl] at kd
      have kr := fun W (h : RefAt W q (q+1) C) (hB : q + 1 ≤ W.heap.size) => doesref_ok W q (q+1) C k x sl h hopk.1 hsrt oC hx hB
      have kn := Lib.hid (fun W => name_ok W (txt sl))
      have km := Lib.hid (fun W => rname_ok W (txt sl) hopk.1)
      generalize stepR C (kindN k) sl x = r at *
      obtain ⟨C', er⟩ := r
      dsimp only at oC' kd kr
      generalize nameB (txt sl).data.toList = nb at kn km
      have kt := Lib.hid (fun W (h : ChAt W p b C') => tot_ok W p b C' h (by have := oC'.2; omega) oC'.wf)
      have ku := Lib.hid (fun W (h : RefAt W q (q+1) C') => rtot_ok W q (q+1) C' h oC')
      have ka := Lib.hid (fun W (h : ChAt W p b C') => all_ok W p b C' h (by have := oC'.2; omega) oC'.nm)
      have ks := Lib.hid (fun W A1 d1 A2 d2 (hA : OwA W A1 C'.length d1 C') (hB : RdA W A2 C'.length C') => by
        have := same_ok W A1 A2 C'.length C'.length d1 d2 C' C' (Ow.rd hA) hB (by have := oC'.2; omega) (by have := oC'.2; omega)
        rw [show sameAc C' C' = true from decide_eq_true rfl] at this; exact this)
      unfold TotPost at kt ku
      generalize sumR (isum (C'.map fun a => a.h)) = tt at kt ku
      have hsb : ab ≠ b := by omega
      have hsq : ab ≠ q := by omega
      let cells : World → Prop := fun W => W.cell? ⟨ab, ao + j*3, none⟩ = some (.int .i64 k) ∧ W.cell? ⟨ab, ao + j*3 + 1, none⟩ = some (.string (txt sl)) ∧ W.cell? ⟨ab, ao + j*3 + 2, none⟩ = some (.int .i64 x)
      have cm : ∀ (F : Nat → Prop) (W W' : World), cells W → Mod F W W' → ¬ F ab → cells W' := fun F W W' h hmm hf => ⟨hmm.cell_some h.1 hf, hmm.cell_some h.2.1 hf, hmm.cell_some h.2.2 hf⟩
      let St : World → Bool → Bool → Prop := fun W i m => cells W ∧ ChAt W p b (if i then C' else C) ∧ RefAt W q (q+1) (if m then C' else C) ∧ Mod none_ w W ∧ q + 1 ≤ W.heap.size
      have hst0 : Hid (St wr.drew false false) := Lib.hid ⟨cm none_ w wr.drew ⟨e0, e1, e2⟩ hm.drew (fun h => h), hC.mod0 (Mod.refl _ _).drew, hR.mod0 (Mod.refl _ _).drew, hm.drew, hqs⟩
      have kD := Lib.hid (fun W m (h : Hid (St W false m)) => (kd W h.out.2.1).mono (fun e w' (hp : ChPost W p b (C', er) e w') => (⟨hp.1, Lib.hid ⟨cm _ _ _ h.out.1 hp.2.2 hsb, hp.2.1, h.out.2.2.1.mod hp.2.2 hqb (fun i hi _ he => by have : i = b := he; omega), h.out.2.2.2.1.then hp.2.2 (fun i hi he => by have : i = b := he; omega), Nat.le_trans h.out.2.2.2.2 hp.2.2.size⟩⟩ : e = .returned (.int .i64 er) ∧ Hid (St w' true m))))
      have kR := Lib.hid (fun W i (h : Hid (St W i false)) => (kr W h.out.2.2.1 h.out.2.2.2.2).mono (fun e w' (hp : RfPost W q (q+1) (C', er) e w') => (⟨hp.1, Lib.hid ⟨cm _ _ _ h.out.1 hp.2.2 hsq, h.out.2.1.mod hp.2.2 (fun he => hqp he.symm) (fun he => hqb he.symm), hp.2.1, h.out.2.2.2.1.then hp.2.2 (fun i hi he => by have : i = q := he; omega), Nat.le_trans h.out.2.2.2.2 hp.2.2.size⟩⟩ : e = .returned (.int .i64 er) ∧ Hid (St w' i true))))
      have kc := Lib.hid (fun W i m (h : Hid (St W i m)) => show W.cell? ⟨ab, ao + j*3, none⟩ = some (.int .i64 k) ∧ W.cell? ⟨ab, ao + j*3 + 1, none⟩ = some (.string (txt sl)) ∧ W.cell? ⟨ab, ao + j*3 + 2, none⟩ = some (.int .i64 x) from h.out.1)
      have kz := Lib.hid (fun W (h : Hid (St W true true)) => show ChAt W p b C' ∧ RefAt W q (q+1) C' ∧ Mod none_ w W ∧ q + 1 ≤ W.heap.size from h.out.2)
      clear_value St
      have he1 := Lib.hid e1
      clear cm kd kr e0 e1 e2
      clear_value cells
      clear cells
      replace hC := Lib.hid hC
      replace hR := Lib.hid hR
      replace oC := Lib.hid oC
      replace hm := Lib.hid hm
      replace hmem := Lib.hid hmem
      replace hopk := Lib.hid hopk
      replace hx := Lib.hid hx
      replace oC' := Lib.hid oC'
      replace hsrt := Lib.hid hsrt
      go_upto_region 8 with fail
      go_region_held3 (fun W => W.cell? ⟨ab, ao + j*3, none⟩ = some (.int .i64 k) ∧ W.cell? ⟨ab, ao + j*3 + 1, none⟩ = some (.string (txt sl)) ∧ W.cell? ⟨ab, ao + j*3 + 2, none⟩ = some (.int .i64 x)) (first | exact kc.out _ _ _ hst0 | exact kc.out _ _ _ (by assumption)) (first
        | (go_at_call 12; (with_reducible refine (kD.out _ _ (by assumption)).mono ?_); rintro e1 x1 ⟨rfl, h1⟩; dsimp only)
        | (go_at_call 20; (with_reducible refine (kR.out _ _ (by assumption)).mono ?_); rintro e2 x2 ⟨rfl, h2⟩; dsimp only))
      all_goals
        obtain ⟨hC3, hR3, hm3, hq3⟩ := kz.out _ (by assumption)
        clear kc kz kD kR hst0
        try clear h1 h2 St
        replace hC3 := Lib.hid hC3
        replace hR3 := Lib.hid hR3
        replace hm3 := Lib.hid hm3
        go_wp2_with fail
        refine (kt.out _ hC3.out).mono ?_
        rintro e3 w4 ⟨rfl, hm4⟩
        dsimp only
        have hC4 := Lib.hid (hC3.out.mod0 hm4)
        have hR4 := Lib.hid (hR3.out.mod0 hm4)
        have hmw4 := Lib.hid (hm3.out.then hm4 (fun _ _ h => h))
        have hq4 := Nat.le_trans hq3 hm4.size
        clear hC3 hR3 hm3 hm4 hq3
        go_wp2_with fail
        refine (ku.out _ hR4.out).mono ?_
        rintro e4 w5 ⟨rfl, hm5⟩
        dsimp only
        have hC5 := Lib.hid (hC4.out.mod0 hm5)
        have hR5 := Lib.hid (hR4.out.mod0 hm5)
        have hmw5 := Lib.hid (hmw4.out.then hm5 (fun _ _ h => h))
        have hq5 := Nat.le_trans hq4 hm5.size
        clear hC4 hR4 hmw4 hm5 hq4
        obtain ⟨A5, c5, hce, hrd5, hcn5⟩ := hR5.out.cell
        have f1 : w5.cell? ⟨ab, ao + j*3 + 1, none⟩ = some (.string (txt sl)) := hmw5.out.cell_some he1.out (fun h => h)
        have kS := Lib.hid (fun W (h : Mod none_ w5 W) => show Mod none_ w5 W ∧ W.cell? ⟨q, 0, none⟩ = some (.slice A5 C'.length c5) ∧ W.cell? ⟨ab, ao + j*3 + 1, none⟩ = some (.string (txt sl)) from ⟨h, h.cell_some hce (fun h => h), h.cell_some f1 (fun h => h)⟩)
        have hrdW := Lib.hid (fun W (h : Mod none_ w5 W) => show RdA W A5 C'.length C' from Rd.mod0 hrd5 h)
        clear he1 hce f1 hrd5
        go_upto_region 11 with fail
        go_region_held3 (fun W => Mod none_ w5 W ∧ W.cell? ⟨q, 0, none⟩ = some (.slice A5 C'.length c5) ∧ W.cell? ⟨ab, ao + j*3 + 1, none⟩ = some (.string (txt sl))) (first | exact kS.out _ (Mod.refl _ _).drew | assumption | exact kS.out _ (Mod.trans (And.left (by assumption)) hm6) | exact kS.out _ (Mod.trans (And.left (by assumption)) hm7) | exact kS.out _ (Mod.drewN (And.left (by assumption)) _)) (first
          | (go_at_call 11; (with_reducible refine (ka.out _ (hC5.out.mod0 (And.left (by assumption)))).mono ?_); rintro e6 x6 ⟨A6, c6, rfl, ho6, hf6, hm6⟩; dsimp only)
          | (go_at_call 13; (with_reducible refine (ks.out _ A6 c6 A5 c5 ho6 (hrdW.out _ (And.left (by assumption)))).mono ?_); rintro e8 x8 ⟨rfl, kx, rfl⟩; dsimp only)
          | (go_at_call 23; (with_reducible refine (kn.out _).mono ?_); rintro e7 x7 ⟨rfl, hm7⟩; dsimp only)
          | (go_at_call 24; (with_reducible refine (km.out _).mono ?_); rintro e9 x9 ⟨rfl, rfl⟩; dsimp only))
        all_goals
          go_wp2_with fail
          go_roundw
          case rel => exact ⟨j + 1, by go_num, by omega, Nat.le_trans hq5 (Mod.size (F := none_) (And.left (by assumption))), C', hC5.out.mod0 (And.left (by assumption)), hR5.out.mod0 (And.left (by assumption)), oC'.out, hmw5.out.then (And.left (by assumption)) (fun _ _ h => h)⟩
          case measure => simp [intOf]; omega
    · go_wp2_with fail
      go_ret
      exact ⟨rfl, hm.below0⟩
end Go.Proofs.Ytgljnlafjolfpaa
