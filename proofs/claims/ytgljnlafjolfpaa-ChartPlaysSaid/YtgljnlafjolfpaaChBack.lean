/-
  ChartBack: the walk.
-/
import Derived.Test.YtgljnlafjolfpaaChBackP
import Derived.Test.YtgljnlafjolfpaaChArg
namespace Go.Proofs.Ytgljnlafjolfpaa
set_option linter.unusedVariables false
open Go.RowKit
set_option maxRecDepth 100000 in
theorem early_ok (w : World) (A : Option Addr) (n c : Nat) (hnc : n ≤ c) : Calls Try.prog 10 #[.slice A n c] w fun e w' => e = .returned (.slice A (min n 150) c) ∧ w = w' := by
  have e1 : (min (n : Int) 150).toNat = min n 150 := by omega
  go_enter Try.func10, Try.ntmps10
  go_wp2_with fail
  go_ret
  exact ⟨rfl, rfl⟩
theorem i64_of' {x : Int} (h : (Lit.int .i64 x).wf = true) : I64 x := by
  unfold I64
  simpa [Lit.wf, IntKind.min, IntKind.max, IntKind.signed, IntKind.bits] using h
theorem ops_get {w : World} {A : Option Addr} {n : Nat} {os : List OpV} (h : Rd w 3 A n (os.flatMap OpV.cells)) {j : Nat} (hj : j < n) : ∃ (b o : Nat) (op : OpV), A = some ⟨b, o, none⟩ ∧ op ∈ os ∧
    w.cell? ⟨b, o + j*3, none⟩ = some (.int .i64 op.k) ∧ w.cell? ⟨b, o + j*3 + 1, none⟩ = some (.string op.s) ∧ w.cell? ⟨b, o + j*3 + 2, none⟩ = some (.int .i64 op.x) := by
  obtain ⟨b, o, e, hc⟩ := Rd.form h (by omega) (by omega)
  have hl : os.length = n := by
    have := h.1
    rw [flat_length _ 3 (fun _ => rfl)] at this; omega
  have hjl : j < os.length := by omega
  have hg := flat_get OpV.cells 3 (fun _ => rfl) os j os[j] (List.getElem?_eq_getElem hjl)
  refine ⟨b, o, os[j], e, List.getElem_mem hjl, ?_, ?_, ?_⟩
  · exact hc (j*3) _ (hg 0 (by omega))
  · rw [Nat.add_assoc]; exact hc (j*3+1) _ (hg 1 (by omega))
  · rw [Nat.add_assoc]; exact hc (j*3+2) _ (hg 2 (by omega))
/-- a chart C, its copy's accounts D, the list of C's accounts that was taken -/
def St (w : World) (p b pd bd : Nat) (C D : List Ac) (Aw : Option Addr) (W : World) : Prop := ChAt W p b C ∧ ChAt W pd bd D ∧ RdA W Aw C.length C ∧ Mod none_ w W
structure Sep (w : World) (p b bd : Nat) (Aw : Option Addr) : Prop where
  h1 : b ≠ bd
  h2 : p ≠ bd
  h3 : ∀ k, fp Aw k → k ≠ bd
  h4 : w.heap.size ≤ bd
theorem St.step {w W W' : World} {p b pd bd : Nat} {C D D' : List Ac} {Aw : Option Addr} (h : St w p b pd bd C D Aw W) (s : Sep w p b bd Aw) (hd : ChAt W' pd bd D') (hm : Mod (· = bd) W W') : St w p b pd bd C D' Aw W' :=
  ⟨h.1.mod hm s.h2 s.h1, hd, Rd.mod h.2.2.1 hm (fun k hk he => s.h3 k hk he), h.2.2.2.then hm (fun i hi he => by have : i = bd := he; have := s.h4; omega)⟩
theorem St.mod0 {w W W' : World} {p b pd bd : Nat} {C D : List Ac} {Aw : Option Addr} (h : St w p b pd bd C D Aw W) (hm : Mod none_ W W') : St w p b pd bd C D Aw W' :=
  ⟨h.1.mod0 hm, h.2.1.mod0 hm, Rd.mod0 h.2.2.1 hm, h.2.2.2.then hm (fun _ _ h => h)⟩
theorem I64.neg {x : Int} (h : I64 x) (h0 : 0 ≤ x) : I64 (-x) ∧ wrap64 (-x) = -x := by
  unfold I64 at *
  exact ⟨by omega, IntWalk.wrap64_in _ ⟨by omega, by omega⟩⟩
/-- a chart of the run's own -/
def Own_ (w : World) (p b : Nat) (wr : World) : Prop := ∃ C, ChAt wr p b C ∧ OkC C ∧ Mod none_ w wr
theorem get_code (C : List Ac) (s : List UInt8) : getV C s = match getC C s with | some a => (acV a, 0) | none => (zeroA, 6) := rfl
set_option maxRecDepth 100000 in
set_option maxHeartbeats 4000000 in
theorem chartBack_walk (w : World) (A : Option Addr) (n c : Nat) (os : List OpV) (hr : Rd w 3 A n (os.flatMap OpV.cells)) (hnc : n ≤ c) (hok : ∀ o ∈ os, o.ok) (name : ByteArray) (hns : name.size ≤ maxLen) (x : Int) (hx : I64 x) :
    Calls Try.prog 5 #[.slice A n c, .string name, .int .i64 x] w fun e w' => e = .returned (.bool true) ∧ Below w.heap.size w w' := by
  have k0 := Lib.hid (lives_ok w)
  have k1 := Lib.hid (fun W => new_ok W)
  have ke := Lib.hid (fun W => early_ok W A n c hnc)
  replace hr := Lib.hid hr
  replace hok := Lib.hid hok
  replace hns := Lib.hid hns
  replace hx := Lib.hid hx
  go_enter Try.func5, Try.ntmps5
  go_wp2_with fail
  refine k0.out.mono ?_
  rintro e w0 ⟨rfl, hm0⟩
  dsimp only
  replace hm0 := Lib.hid hm0
  go_wp2_with fail
  refine (k1.out _).mono ?_
  rintro e w1 ⟨p, b, rfl, hc1, hm1, hp, hb⟩
  dsimp only
  have hmw1 := Lib.hid (hm0.out.then hm1 (fun _ _ h => h))
  have hsz0 := hm0.out.size
  replace hc1 := Lib.hid hc1
  replace hm1 := Lib.hid hm1
  go_wp2_with fail
  refine (ke.out _).mono ?_
  rintro e w2 ⟨rfl, rfl⟩
  dsimp only
  go_wp2_with fail
  go_loopw [8] (fun v wr => ∃ j : Nat, v = .int .i64 j ∧ j ≤ min n 150 ∧ Own_ w p b wr) (fun v _ => min n 150 - (intOf v).toNat)
  case atStart => exact ⟨0, rfl, by omega, [], hc1.out, OkC.nil, hmw1.out⟩
  case round =>
    obtain ⟨j, rfl, hj, C, hc, ho, hm⟩ := hrel
    by_cases hlt : j < min n 150
    · have hjn : j < n := by omega
      obtain ⟨ab, ao, op, rfl, hmem, e0, e1, e2⟩ := ops_get (hr.out.mod0 hm) hjn
      have hopk := hok.out op hmem
      have hopx := i64_of' hopk.2
      have kd := Lib.hid (does_ok wr p b C op.k op.x op.s hc hopk.1 ho hopx)
      have hokn := Lib.hid (step_okc ho (kindN op.k) op.s.data.toList op.x hopx)
      generalize stepR C (kindN op.k) op.s.data.toList op.x = r at *
      obtain ⟨C', er⟩ := r
      generalize op.k = ok1 at *
      generalize op.s = os1 at *
      generalize op.x = ox1 at *
      replace hc := Lib.hid hc
      replace ho := Lib.hid ho
      replace hm := Lib.hid hm
      replace hmem := Lib.hid hmem
      replace hopk := Lib.hid hopk
      replace hopx := Lib.hid hopx
      go_wp2_with fail
      refine kd.out.mono ?_
      rintro e w3 ⟨rfl, hc3, hm3⟩
      dsimp only at hc3 ⊢
      replace hc3 := Lib.hid hc3
      replace hm3 := Lib.hid hm3
      go_wp2_with fail
      go_roundw
      case rel => exact ⟨j + 1, by go_num, by omega, C', hc3.out, hokn.out, hm.out.then hm3.out (fun i hi he => by have : i = b := he; omega)⟩
      case measure => simp [intOf]; omega
    · have hjn : j = min n 150 := by omega
      have hend : ((min n 150 : Nat) : Int) ≤ (j : Int) := by omega
      have ka := Lib.hid (all_ok wr p b C hc (by have := ho.2; omega) ho.nm)
      have hpl := hc.1.lt
      have hbl := hc.2.1.lt
      have hsrt := Lib.hid hc.sorted
      have hy : ∃ y, 0 ≤ y ∧ I64 y ∧ ((x < 0 ∧ wrap64 (-1 - x) = y) ∨ (¬ x < 0 ∧ x = y)) := by
        have hx := hx.out
        unfold I64 at hx
        by_cases h : x < 0
        · exact ⟨-1 - x, by omega, by unfold I64; omega, .inl ⟨h, IntWalk.wrap64_in _ ⟨by omega, by omega⟩⟩⟩
        · exact ⟨x, by omega, hx, .inr ⟨h, rfl⟩⟩
      obtain ⟨y, hy0, hyI, hyc⟩ := hy
      have hng := hyI.neg hy0
      have hny := hng.2
      have hC12 := ho.2
      replace hc := Lib.hid hc
      replace ho := Lib.hid ho
      replace hm := Lib.hid hm
      replace hyI := Lib.hid hyI
      replace hng := Lib.hid hng
      replace hC12 := Lib.hid hC12
      clear hlt hj hjn
      go_wp2_with fail
      refine ka.out.mono ?_
      rintro e w2 ⟨Aw, cw, rfl, hoA, hfA, hm2⟩
      dsimp only
      have hm2s := hm2.size
      replace hoA := Lib.hid hoA
      replace hfA := Lib.hid hfA
      replace hm2 := Lib.hid hm2
      have hc2 := hc.out.mod0 hm2.out
      have kc := Lib.hid (copy_ok w2 p b C hc2)
      replace hc2 := Lib.hid hc2
      go_wp2_with fail
      refine kc.out.mono ?_
      rintro e w3 ⟨pd, bd, rfl, hcd, hm3, hpd, hbd⟩
      dsimp only
      have hsep : Sep w p b bd Aw := ⟨by have := hc2.out.2.1.lt; omega, by have := hc2.out.1.lt; omega, fun k hk => by have := Ow.lt hoA.out k hk; omega, by have := hm.out.size; omega⟩
      have st := Lib.hid (show St w p b pd bd C C Aw w3 from ⟨hc2.out.mod0 hm3, hcd, Rd.mod0 (Ow.rd hoA.out) hm3, (hm.out.then hm2.out (fun _ _ h => h)).then hm3 (fun _ _ h => h)⟩)
      clear hcd hm3
      replace hsep := Lib.hid hsep
      obtain ⟨⟨D1, er1⟩, hr1⟩ : ∃ r, turnR C name.data.toList y (giveA y) = r := ⟨_, rfl⟩
      obtain ⟨⟨D2, er2⟩, hr2⟩ : ∃ r, turnR C name.data.toList y (asideA y) = r := ⟨_, rfl⟩
      have kg := Lib.hid (fun W (h : ChAt W pd bd C) => by have := give_ok W pd bd C name y h hns.out ho.out.wf hyI.out (room_of ho.out); rw [hr1] at this; exact this)
      have kas := Lib.hid (fun W (h : ChAt W pd bd C) => by have := aside_ok W pd bd C name y h hns.out ho.out.wf hyI.out (room_of ho.out); rw [hr2] at this; exact this)
      have f1 : er1 ≠ 0 → D1 = C := fun h => by have := turn_same (C := C) (s := name.data.toList) (x := y) (act := giveA y); rw [hr1] at this; exact this h
      have f2 : er2 ≠ 0 → D2 = C := fun h => by have := turn_same (C := C) (s := name.data.toList) (x := y) (act := asideA y); rw [hr2] at this; exact this h
      have g1 : er1 = 0 → ∃ a, getC C name.data.toList = some a ∧ I64 (a.h - y) ∧ getC D1 name.data.toList = some { a with h := a.h - y } ∧ turnR D1 name.data.toList (-y) (giveA (-y)) = (C, 0) := fun h => by
        have := give_back (s := name.data.toList) hsrt.out ho.out hy0; rw [hr1] at this; exact this h
      have g2 : er2 = 0 → turnR D2 name.data.toList (-y) (asideA (-y)) = (C, 0) := fun h => by
        have := aside_back (s := name.data.toList) hsrt.out ho.out hy0; rw [hr2] at this; exact this h
      have o1 : OkC D1 := by have := give_okc ho.out name.data.toList y; rw [hr1] at this; exact this
      have o2 : OkC D2 := by have := aside_okc ho.out name.data.toList y; rw [hr2] at this; exact this
      have kg2 := Lib.hid (fun W (h : ChAt W pd bd D1) => give_ok W pd bd D1 name (-y) h hns.out o1.wf hng.out.1 (room_of o1))
      have kas2 := Lib.hid (fun W (h : ChAt W pd bd D2) => aside_ok W pd bd D2 name (-y) h hns.out o2.wf hng.out.1 (room_of o2))
      have kgc := Lib.hid (fun W (h : ChAt W p b C) => get_ok W p b C name h hns.out)
      have kgd := Lib.hid (fun W (h : ChAt W pd bd D1) => get_ok W pd bd D1 name h hns.out)
      have kall := Lib.hid (fun W (h : ChAt W pd bd C) => all_ok W pd bd C h (by have := hC12.out; omega) ho.out.nm)
      have kallc := Lib.hid (fun W (h : ChAt W p b C) => all_ok W p b C h (by have := hC12.out; omega) ho.out.nm)
      have ksame := Lib.hid (fun W A' d (hA : RdA W A' C.length C) (hB : RdA W Aw C.length C) => by have := same_ok W A' Aw C.length C.length d cw C C hA hB (by have := hC12.out; omega) (by have := hC12.out; omega); rw [show sameAc C C = true from decide_eq_true rfl] at this; exact this)
      have kop := Lib.hid (fun W (h : ChAt W pd bd C) => open_ok W pd bd C ⟨#[122, 122]⟩ 7 h (by decide) ho.out)
      have o3 : OkC (openR C (⟨#[122, 122]⟩ : ByteArray).data.toList 7).1 := open_okc ho.out _ 7 (by unfold I64; omega)
      generalize openR C (⟨#[122, 122]⟩ : ByteArray).data.toList 7 = r3 at *
      obtain ⟨D3, er3⟩ := r3
      have kz := Lib.hid (fun W (h : ChAt W pd bd D3) => give_ok W pd bd D3 ⟨#[122, 122]⟩ 1 h (by decide) o3.wf (by unfold I64; omega) (room_of o3))
      clear k0 k1 ke hr1 hr2
      replace f1 := Lib.hid f1
      replace f2 := Lib.hid f2
      replace g1 := Lib.hid g1
      replace g2 := Lib.hid g2
      replace o1 := Lib.hid o1
      replace o2 := Lib.hid o2
      replace o3 := Lib.hid o3
      replace hsrt := Lib.hid hsrt
      rcases hyc with ⟨hlt0, hyw⟩ | ⟨hlt0, hyx⟩
      all_goals
        try (replace hyx := hyx.symm; subst hyx)
        go_wp2_with fail
        refine (kg.out _ st.out.2.1).mono ?_
        rintro e w4 ⟨rfl, hc4, hm4⟩
        dsimp only at hc4 ⊢
        try rw [hyw]
        have st4 := Lib.hid (st.out.step hsep.out hc4 hm4)
        clear hc4 hm4 st
        by_cases her : er1 = 0
        · subst her
          obtain ⟨a, ga, gI, gd, gt⟩ := g1.out rfl
          have ha := ho.out.wf a (getC_mem ga)
          have wr1 : wrap64 a.h = a.h := IntWalk.wrap64_in _ ⟨ha.1.1, ha.1.2⟩
          have kc1 := Lib.hid (fun W (h : ChAt W p b C) => by have := kgc.out W h; unfold getV at this; rw [ga] at this; exact this)
          have kd1 := Lib.hid (fun W (h : ChAt W pd bd D1) => by have := kgd.out W h; unfold getV at this; rw [gd] at this; exact this)
          have kb1 := Lib.hid (fun W (h : ChAt W pd bd D1) => by have := kg2.out W h; rw [gt] at this; exact this)
          unfold acV at kc1 kd1
          clear kgc kgd kg2 g1 f1 o1
          obtain ⟨an, ah, sa, al⟩ := a
          dsimp only at kc1 kd1 gI wr1
          have wr2 : wrap64 (ah - y + y) = ah := by rw [show ah - y + y = ah by omega]; exact wr1
          replace ga := Lib.hid ga
          replace gI := Lib.hid gI
          replace gd := Lib.hid gd
          replace gt := Lib.hid gt
          replace ha := Lib.hid ha
          go_wp2_with fail
          refine (kc1.out _ st4.out.1).mono ?_
          rintro e w5 ⟨rfl, hm5⟩
          dsimp only
          have st5 := Lib.hid (st4.out.mod0 hm5)
          clear hm5 st4
          go_wp2_with fail
          refine (kd1.out _ ((st5.out.mod0 ((Mod.refl none_ _).alloc _)).2.1)).mono ?_
          rintro e w6 ⟨rfl, hm6⟩
          dsimp only
          have hba := (Blk.new w5 35 #[.string (txt an), .int .i64 ah, .int .i64 sa, .int .i64 al]).mod hm6 (fun h => h)
          have hcl : w6.cell? ⟨w5.heap.size, 1, none⟩ = some (.int .i64 ah) := hba.cell_ rfl
          have hlt5 := hba.lt
          have st6 := Lib.hid ((st5.out.mod0 ((Mod.refl none_ _).alloc (.cells #[.string (txt an), .int .i64 ah, .int .i64 sa, .int .i64 al] 35))).mod0 hm6)
          clear hm6 hba st5
          go_wp2_with fail
          refine (kb1.out _ ((st6.out.mod0 ((Mod.refl none_ _).alloc _)).2.1)).mono ?_
          rintro e w7 ⟨rfl, hc7, hm7⟩
          dsimp only at hc7 ⊢
          have st4 := Lib.hid ((st6.out.mod0 ((Mod.refl none_ _).alloc _)).step hsep.out hc7 hm7)
          clear hc7 hm7 st6 hcl
          go_wp2_with fail
          refine (kas.out _ st4.out.2.1).mono ?_
          rintro e w5 ⟨rfl, hc5, hm5⟩
          dsimp only at hc5 ⊢
          have st5 := Lib.hid (st4.out.step hsep.out hc5 hm5)
          clear hc5 hm5 st4
          by_cases her2 : er2 = 0
          · -- aside, and back
            have hz2 := her2
            subst hz2
            have g2' := g2.out rfl
            have kx := Lib.hid (fun W (h : ChAt W pd bd D2) => by have := kas2.out W h; rw [g2'] at this; exact this)
            clear kas2 g2 f2 o2 her2 g2'
            go_wp2_with fail
            refine (kx.out _ st5.out.2.1).mono ?_
            rintro e w5b ⟨rfl, hc5, hm5⟩
            dsimp only at hc5 ⊢
            have st5b := Lib.hid (st5.out.step hsep.out hc5 hm5)
            clear hc5 hm5 st5
            have st5 := st5b
            clear st5b
            go_wp2_with fail
            refine (kall.out _ st5.out.2.1).mono ?_
            rintro e w6 ⟨A6, c6, rfl, ho6, hf6, hm6⟩
            dsimp only
            have st6 := Lib.hid (st5.out.mod0 hm6)
            clear hf6 hm6 st5
            replace ho6 := Lib.hid ho6
            go_wp2_with fail
            refine (ksame.out _ A6 c6 (Ow.rd ho6.out) st6.out.2.2.1).mono ?_
            rintro e w7 ⟨rfl, kk, rfl⟩
            dsimp only
            have st7 := Lib.hid (st6.out.mod0 ((Mod.refl none_ _).drewN kk))
            clear st6 ho6
            go_wp2_with fail
            refine (kop.out _ st7.out.2.1).mono ?_
            rintro e w8 ⟨rfl, hc8, hm8⟩
            dsimp only at hc8 ⊢
            have st8 := Lib.hid (st7.out.step hsep.out hc8 hm8)
            clear hc8 hm8 st7
            go_wp2_with fail
            refine (kz.out _ st8.out.2.1).mono ?_
            rintro e w9 ⟨rfl, hc9, hm9⟩
            dsimp only at hc9 ⊢
            have st9 := Lib.hid (st8.out.step hsep.out hc9 hm9)
            clear hc9 hm9 st8
            go_wp2_with fail
            refine (kallc.out _ st9.out.1).mono ?_
            rintro e w10 ⟨A10, c10, rfl, ho10, hf10, hm10⟩
            dsimp only
            have st10 := Lib.hid (st9.out.mod0 hm10)
            clear hf10 hm10 st9
            replace ho10 := Lib.hid ho10
            go_wp2_with fail
            refine (ksame.out _ A10 c10 (Ow.rd ho10.out) st10.out.2.2.1).mono ?_
            rintro e w11 ⟨rfl, kk2, rfl⟩
            dsimp only
            have st11 := Lib.hid (st10.out.mod0 ((Mod.refl none_ _).drewN kk2))
            clear st10 ho10
            go_wp2_with fail
            go_ret
            exact ⟨rfl, st11.out.2.2.2.below0⟩
          · have hz2 : (er2 == 0) = false := by simpa using her2
            rw [f2.out her2] at st5
            clear kas2 g2 f2 o2
            replace her2 := Lib.hid her2
            go_wp2_with fail
            refine (kall.out _ st5.out.2.1).mono ?_
            rintro e w6 ⟨A6, c6, rfl, ho6, hf6, hm6⟩
            dsimp only
            have st6 := Lib.hid (st5.out.mod0 hm6)
            clear hf6 hm6 st5
            replace ho6 := Lib.hid ho6
            go_wp2_with fail
            refine (ksame.out _ A6 c6 (Ow.rd ho6.out) st6.out.2.2.1).mono ?_
            rintro e w7 ⟨rfl, kk, rfl⟩
            dsimp only
            have st7 := Lib.hid (st6.out.mod0 ((Mod.refl none_ _).drewN kk))
            clear st6 ho6
            go_wp2_with fail
            refine (kop.out _ st7.out.2.1).mono ?_
            rintro e w8 ⟨rfl, hc8, hm8⟩
            dsimp only at hc8 ⊢
            have st8 := Lib.hid (st7.out.step hsep.out hc8 hm8)
            clear hc8 hm8 st7
            go_wp2_with fail
            refine (kz.out _ st8.out.2.1).mono ?_
            rintro e w9 ⟨rfl, hc9, hm9⟩
            dsimp only at hc9 ⊢
            have st9 := Lib.hid (st8.out.step hsep.out hc9 hm9)
            clear hc9 hm9 st8
            go_wp2_with fail
            refine (kallc.out _ st9.out.1).mono ?_
            rintro e w10 ⟨A10, c10, rfl, ho10, hf10, hm10⟩
            dsimp only
            have st10 := Lib.hid (st9.out.mod0 hm10)
            clear hf10 hm10 st9
            replace ho10 := Lib.hid ho10
            go_wp2_with fail
            refine (ksame.out _ A10 c10 (Ow.rd ho10.out) st10.out.2.2.1).mono ?_
            rintro e w11 ⟨rfl, kk2, rfl⟩
            dsimp only
            have st11 := Lib.hid (st10.out.mod0 ((Mod.refl none_ _).drewN kk2))
            clear st10 ho10
            go_wp2_with fail
            go_ret
            exact ⟨rfl, st11.out.2.2.2.below0⟩
        · have hz : (er1 == 0) = false := by simpa using her
          rw [f1.out her] at st4
          clear kg2 kgd g1 f1 o1
          replace her := Lib.hid her
          go_wp2_with fail
          refine (kas.out _ st4.out.2.1).mono ?_
          rintro e w5 ⟨rfl, hc5, hm5⟩
          dsimp only at hc5 ⊢
          have st5 := Lib.hid (st4.out.step hsep.out hc5 hm5)
          clear hc5 hm5 st4
          by_cases her2 : er2 = 0
          · -- aside, and back
            have hz2 := her2
            subst hz2
            have g2' := g2.out rfl
            have kx := Lib.hid (fun W (h : ChAt W pd bd D2) => by have := kas2.out W h; rw [g2'] at this; exact this)
            clear kas2 g2 f2 o2 her2 g2'
            go_wp2_with fail
            refine (kx.out _ st5.out.2.1).mono ?_
            rintro e w5b ⟨rfl, hc5, hm5⟩
            dsimp only at hc5 ⊢
            have st5b := Lib.hid (st5.out.step hsep.out hc5 hm5)
            clear hc5 hm5 st5
            have st5 := st5b
            clear st5b
            go_wp2_with fail
            refine (kall.out _ st5.out.2.1).mono ?_
            rintro e w6 ⟨A6, c6, rfl, ho6, hf6, hm6⟩
            dsimp only
            have st6 := Lib.hid (st5.out.mod0 hm6)
            clear hf6 hm6 st5
            replace ho6 := Lib.hid ho6
            go_wp2_with fail
            refine (ksame.out _ A6 c6 (Ow.rd ho6.out) st6.out.2.2.1).mono ?_
            rintro e w7 ⟨rfl, kk, rfl⟩
            dsimp only
            have st7 := Lib.hid (st6.out.mod0 ((Mod.refl none_ _).drewN kk))
            clear st6 ho6
            go_wp2_with fail
            refine (kop.out _ st7.out.2.1).mono ?_
            rintro e w8 ⟨rfl, hc8, hm8⟩
            dsimp only at hc8 ⊢
            have st8 := Lib.hid (st7.out.step hsep.out hc8 hm8)
            clear hc8 hm8 st7
            go_wp2_with fail
            refine (kz.out _ st8.out.2.1).mono ?_
            rintro e w9 ⟨rfl, hc9, hm9⟩
            dsimp only at hc9 ⊢
            have st9 := Lib.hid (st8.out.step hsep.out hc9 hm9)
            clear hc9 hm9 st8
            go_wp2_with fail
            refine (kallc.out _ st9.out.1).mono ?_
            rintro e w10 ⟨A10, c10, rfl, ho10, hf10, hm10⟩
            dsimp only
            have st10 := Lib.hid (st9.out.mod0 hm10)
            clear hf10 hm10 st9
            replace ho10 := Lib.hid ho10
            go_wp2_with fail
            refine (ksame.out _ A10 c10 (Ow.rd ho10.out) st10.out.2.2.1).mono ?_
            rintro e w11 ⟨rfl, kk2, rfl⟩
            dsimp only
            have st11 := Lib.hid (st10.out.mod0 ((Mod.refl none_ _).drewN kk2))
            clear st10 ho10
            go_wp2_with fail
            go_ret
            exact ⟨rfl, st11.out.2.2.2.below0⟩
          · have hz2 : (er2 == 0) = false := by simpa using her2
            rw [f2.out her2] at st5
            clear kas2 g2 f2 o2
            replace her2 := Lib.hid her2
            go_wp2_with fail
            refine (kall.out _ st5.out.2.1).mono ?_
            rintro e w6 ⟨A6, c6, rfl, ho6, hf6, hm6⟩
            dsimp only
            have st6 := Lib.hid (st5.out.mod0 hm6)
            clear hf6 hm6 st5
            replace ho6 := Lib.hid ho6
            go_wp2_with fail
            refine (ksame.out _ A6 c6 (Ow.rd ho6.out) st6.out.2.2.1).mono ?_
            rintro e w7 ⟨rfl, kk, rfl⟩
            dsimp only
            have st7 := Lib.hid (st6.out.mod0 ((Mod.refl none_ _).drewN kk))
            clear st6 ho6
            go_wp2_with fail
            refine (kop.out _ st7.out.2.1).mono ?_
            rintro e w8 ⟨rfl, hc8, hm8⟩
            dsimp only at hc8 ⊢
            have st8 := Lib.hid (st7.out.step hsep.out hc8 hm8)
            clear hc8 hm8 st7
            go_wp2_with fail
            refine (kz.out _ st8.out.2.1).mono ?_
            rintro e w9 ⟨rfl, hc9, hm9⟩
            dsimp only at hc9 ⊢
            have st9 := Lib.hid (st8.out.step hsep.out hc9 hm9)
            clear hc9 hm9 st8
            go_wp2_with fail
            refine (kallc.out _ st9.out.1).mono ?_
            rintro e w10 ⟨A10, c10, rfl, ho10, hf10, hm10⟩
            dsimp only
            have st10 := Lib.hid (st9.out.mod0 hm10)
            clear hf10 hm10 st9
            replace ho10 := Lib.hid ho10
            go_wp2_with fail
            refine (ksame.out _ A10 c10 (Ow.rd ho10.out) st10.out.2.2.1).mono ?_
            rintro e w11 ⟨rfl, kk2, rfl⟩
            dsimp only
            have st11 := Lib.hid (st10.out.mod0 ((Mod.refl none_ _).drewN kk2))
            clear st10 ho10
            go_wp2_with fail
            go_ret
            exact ⟨rfl, st11.out.2.2.2.below0⟩
end Go.Proofs.Ytgljnlafjolfpaa
