/-
  ChartApart: the walk.
-/
import Derived.Test.YtgljnlafjolfpaaChApartP
import Derived.Test.YtgljnlafjolfpaaChBack
namespace Go.Proofs.Ytgljnlafjolfpaa
set_option linter.unusedVariables false
open Go.RowKit
theorem eql_txt (W : World) (t : TypeId) (l m : List UInt8) (b : Bool) (h : decide (l = m) = b) : (binOp .eql t (.string (txt l)) (.string (txt m))).run Try.prog W = .ok (.bool b) W := by
  have : (l == m) = b := by rw [← h]; by_cases e : l = m <;> simp [e]
  simp [binOp, Op.stringOp, this]
theorem neq_txt (W : World) (t : TypeId) (l m : List UInt8) (b : Bool) (h : decide (l = m) = b) : (binOp .neq t (.string (txt l)) (.string (txt m))).run Try.prog W = .ok (.bool (!b)) W := by
  have : (l == m) = b := by rw [← h]; by_cases e : l = m <;> simp [e]
  simp [binOp, Op.stringOp, this]
/-- two charts of the run's own -/
def Two (w : World) (p1 b1 p2 b2 : Nat) (W : World) : Prop := ∃ C D, ChAt W p1 b1 C ∧ ChAt W p2 b2 D ∧ OkC C ∧ OkC D ∧ (∀ d ∈ D, d.n = [97]) ∧ getC C [97] = getC D [97] ∧ Mod none_ w W
set_option maxRecDepth 100000 in
set_option maxHeartbeats 4000000 in
theorem chartApart_walk (w : World) (A : Option Addr) (n c : Nat) (os : List OpV) (hr : Rd w 3 A n (os.flatMap OpV.cells)) (hnc : n ≤ c) (hok : ∀ o ∈ os, o.ok) :
    Calls Try.prog 4 #[.slice A n c] w fun e w' => e = .returned (.bool true) ∧ Below w.heap.size w w' := by
  have k0 := Lib.hid (lives_ok w)
  have k1 := Lib.hid (fun W => new_ok W)
  have ke := Lib.hid (fun W => early_ok W A n c hnc)
  replace hr := Lib.hid hr
  replace hok := Lib.hid hok
  go_enter Try.func4, Try.ntmps4
  go_wp2_with fail
  refine k0.out.mono ?_
  rintro e w0 ⟨rfl, hm0⟩
  dsimp only
  replace hm0 := Lib.hid hm0
  go_wp2_with fail
  refine (k1.out _).mono ?_
  rintro e w1 ⟨p1, b1, rfl, hc1, hm1, hp1, hb1⟩
  dsimp only
  have hmw1 := Lib.hid (hm0.out.then hm1 (fun _ _ h => h))
  have hsz0 := hm0.out.size
  have hl1 := hc1.1.lt
  have hl2 := hc1.2.1.lt
  replace hc1 := Lib.hid hc1
  replace hm1 := Lib.hid hm1
  go_wp2_with fail
  refine (k1.out _).mono ?_
  rintro e w2 ⟨p2, b2, rfl, hc2, hm2, hp2, hb2⟩
  dsimp only
  have two := Lib.hid (show Two w p1 b1 p2 b2 w2 from ⟨[], [], hc1.out.mod0 hm2, hc2, OkC.nil, OkC.nil, (fun d hd => by cases hd), rfl, hmw1.out.then hm2 (fun _ _ h => h)⟩)
  clear hc1 hc2 hm1 hm2 hmw1
  go_wp2_with fail
  refine (ke.out _).mono ?_
  rintro e w3 ⟨rfl, rfl⟩
  dsimp only
  go_wp2_with fail
  go_loopw [5] (fun v wr => ∃ j : Nat, v = .int .i64 j ∧ j ≤ min n 150 ∧ Two w p1 b1 p2 b2 wr) (fun v _ => min n 150 - (intOf v).toNat)
  case atStart => exact ⟨0, rfl, by omega, two.out⟩
  case round =>
    obtain ⟨j, rfl, hj, C, D, hC, hD, oC, oD, nD, hCD, hm⟩ := hrel
    by_cases hlt : j < min n 150
    · have hjn : j < n := by omega
      obtain ⟨ab, ao, op, rfl, hmem, e0, e1, e2⟩ := ops_get (hr.out.mod0 hm) hjn
      have hopk := hok.out op hmem
      have hopx := i64_of' hopk.2
      obtain ⟨k, s, x⟩ := op
      obtain ⟨sl, rfl⟩ : ∃ sl, s = txt sl := ⟨s.data.toList, rfl⟩
      dsimp only at e0 e1 e2 hopk hopx
      have ka := Lib.hid (fun W (h : ChAt W p1 b1 C) => all_ok W p1 b1 C h (by have := oC.2; omega) oC.nm)
      have kd := Lib.hid (fun W (h : ChAt W p1 b1 C) => by have := does_ok W p1 b1 C k x (txt sl) h hopk.1 oC hopx; rw [show (txt sl).data.toList = sl from rfl] at this; exact this)
      have kd2 := Lib.hid (fun W (h : ChAt W p2 b2 D) => by have := does_ok W p2 b2 D k x (txt sl) h hopk.1 oD hopx; rw [show (txt sl).data.toList = sl from rfl] at this; exact this)
      have oC' := step_okc oC (kindN k) sl x hopx
      have oD' := step_okc oD (kindN k) sl x hopx
      have hoth : ∀ m, sl ≠ m → getC (stepR C (kindN k) sl x).1 m = getC C m := fun m h => step_other h
      have hagr : sl = [97] → (stepR C (kindN k) sl x).2 ≠ 5 → (stepR C (kindN k) sl x).2 = (stepR D (kindN k) sl x).2 ∧ getC (stepR C (kindN k) sl x).1 [97] = getC (stepR D (kindN k) sl x).1 [97] ∧ (∀ d ∈ (stepR D (kindN k) sl x).1, d.n = [97]) := by
        intro h h5
        subst h
        have := step_agree hCD h5 (names_one hD.sorted nD)
        exact ⟨this.1, this.2, step_names nD⟩
      have hap : SortedC (stepR C (kindN k) sl x).1 → ∀ a ∈ C, ∀ b ∈ (stepR C (kindN k) sl x).1, a.n = b.n → b.n ≠ sl → a = b := fun hs' a ha b hb hn hne => apart_same hC.sorted hs' ha hb hn hne
      generalize stepR C (kindN k) sl x = r at *
      generalize stepR D (kindN k) sl x = r' at *
      obtain ⟨C', er⟩ := r
      obtain ⟨D', er'⟩ := r'
      dsimp only at hoth hagr oC' oD' hap
      have ka' := Lib.hid (fun W (h : ChAt W p1 b1 C') => all_ok W p1 b1 C' h (by have := oC'.2; omega) oC'.nm)
      replace hC := Lib.hid hC
      replace hD := Lib.hid hD
      replace oC := Lib.hid oC
      replace oD := Lib.hid oD
      replace nD := Lib.hid nD
      replace hCD := Lib.hid hCD
      replace hm := Lib.hid hm
      replace hmem := Lib.hid hmem
      replace hopk := Lib.hid hopk
      replace hopx := Lib.hid hopx
      replace hoth := Lib.hid hoth
      replace hagr := Lib.hid hagr
      replace hap := Lib.hid hap
      replace oC' := Lib.hid oC'
      replace oD' := Lib.hid oD'
      go_wp2_with fail
      refine (ka.out _ (hC.out.alloc _)).mono ?_
      rintro e w4 ⟨A4, c4, rfl, ho4, hf4, hm4⟩
      dsimp only
      have hmod0 := (Mod.refl none_ wr).alloc (.cells #[.int .i64 k, .string (txt sl), .int .i64 x] 28)
      have hq4 := (Blk.new wr 28 #[.int .i64 k, .string (txt sl), .int .i64 x]).mod hm4 (fun h => h)
      have q0 : w4.cell? ⟨wr.heap.size, 0, none⟩ = some (.int .i64 k) := hq4.cell_ rfl
      have q1 : w4.cell? ⟨wr.heap.size, 1, none⟩ = some (.string (txt sl)) := hq4.cell_ rfl
      have q2 : w4.cell? ⟨wr.heap.size, 2, none⟩ = some (.int .i64 x) := hq4.cell_ rfl
      have hC4 := (hC.out.alloc _).mod0 hm4
      have hD4 := (hD.out.alloc _).mod0 hm4
      have hmw4 := Lib.hid ((hm.out.alloc _).then hm4 (fun _ _ h => h))
      clear hmod0
      replace ho4 := Lib.hid ho4
      replace hf4 := Lib.hid hf4
      replace hm4 := Lib.hid hm4
      replace hq4 := Lib.hid hq4
      replace hC4 := Lib.hid hC4
      replace hD4 := Lib.hid hD4
      go_wp2_with fail
      refine (kd.out _ hC4.out).mono ?_
      rintro e w5 ⟨rfl, hC5, hm5⟩
      dsimp only at hC5 ⊢
      have hbb : b1 < w4.heap.size := hC4.out.2.1.lt
      have hb2l := hD4.out.2.1.lt
      have hsep1 : wr.heap.size ≠ b1 := by have := hC.out.2.1.lt; omega
      have hsepA : ∀ i, fp A4 i → i ≠ b1 := fun i hi => by
        obtain ⟨q, hq, rfl⟩ := hi
        have h1 := hf4.out q hq
        have h2 := hC.out.2.1.lt
        have h3 : (wr.alloc (.cells #[.int .i64 k, .string (txt sl), .int .i64 x] 28)).heap.size = wr.heap.size + 1 := by simp
        omega
      have hq5 := hq4.out.mod hm5 hsep1
      have hD5 := hD4.out.mod hm5 (by omega) (by omega)
      have ho5 := Ow.mod ho4.out hm5 hsepA
      have hmw5 := Lib.hid (hmw4.out.then hm5 (fun i hi he => by have : i = b1 := he; omega))
      clear q0 q1 q2 hsep1 hsepA hb2l
      replace hC5 := Lib.hid hC5
      replace hm5 := Lib.hid hm5
      replace hq5 := Lib.hid hq5
      replace hD5 := Lib.hid hD5
      replace ho5 := Lib.hid ho5
      go_wp2_with fail
      refine (ka'.out _ hC5.out).mono ?_
      rintro e w6 ⟨A6, c6, rfl, ho6, hf6, hm6⟩
      dsimp only
      have hC6 := Lib.hid (hC5.out.mod0 hm6)
      have hD6 := Lib.hid (hD5.out.mod0 hm6)
      have hq6 := Lib.hid (hq5.out.mod hm6 (fun h => h))
      have rA := Lib.hid (Rd.mod0 (Ow.rd ho5.out) hm6)
      have rB := Lib.hid (Ow.rd ho6)
      have hmw6 := Lib.hid (hmw5.out.then hm6 (fun _ _ h => h))
      have hlC := oC.out.2
      have hlC' := oC'.out.2
      clear hC4 hC5 hD4 hD5 hq4 hq5 ho4 ho5 ho6 hf4 hf6 hm4 hm5 hm6 hmw4 hmw5 ka ka' kd
      go_wp2_with fail
      go_loopw [10] (fun v wr => ∃ i : Nat, v = .int .i64 i ∧ i ≤ C'.length ∧ ∃ m, wr = w6.drewN m) (fun v _ => C'.length - (intOf v).toNat)
      case atStart => exact ⟨0, rfl, by omega, 0, rfl⟩
      case round =>
        obtain ⟨i, rfl, hi, m, rfl⟩ := hrel
        by_cases hil : i < C'.length
        · go_wp2_with fail
          go_loopw [11] (fun v wr => ∃ j2 : Nat, v = .int .i64 j2 ∧ j2 ≤ C.length ∧ ∃ m2, wr = w6.drewN m2) (fun v _ => C.length - (intOf v).toNat)
          case atStart => exact ⟨0, rfl, by omega, m, rfl⟩
          case round =>
            obtain ⟨j2, rfl, hj2, m2, rfl⟩ := hrel
            by_cases hjl : j2 < C.length
            · obtain ⟨ga, go_, rfl, a1, a2, a3, a4⟩ := rda_get (w := w6.drewN m2) (Rd.drewN rA.out m2) hjl (by omega)
              obtain ⟨gb, gp, rfl, b1_, b2_, b3_, b4_⟩ := rda_get (w := w6.drewN m2) (Rd.drewN rB.out m2) hil (by omega)
              have hq6' : Blk (w6.drewN m2) wr.heap.size 28 #[.int .i64 k, .string (txt sl), .int .i64 x] := hq6.out
              have q1 : (w6.drewN m2).cell? ⟨wr.heap.size, 1, none⟩ = some (.string (txt sl)) := hq6'.cell_ rfl
              have hxC := List.getElem_mem hjl
              have hyC := List.getElem_mem hil
              have hsame := fun h1 h2 => hap.out hC6.out.sorted _ hxC _ hyC h1 h2
              generalize C[j2] = xa at *
              generalize C'[i] = ya at *
              have hne := fun W => neq_ac W xa ya
              unfold acV at hne
              obtain ⟨xn, xh, xs, xl⟩ := xa
              obtain ⟨yn, yh, ys, yl⟩ := ya
              dsimp only at hne hsame a1 a2 a3 a4 b1_ b2_ b3_ b4_
              generalize hw : w6.drewN m2 = W1 at *
              by_cases g1 : xn = yn
              · have f1 : (xn == yn) = true := by simp [g1]
                by_cases g2 : yn = sl
                · have f2 : (yn == sl) = true := by simp [g2]
                  clear hne
                  replace hw := Lib.hid hw
                  replace g1 := Lib.hid g1
                  replace g2 := Lib.hid g2
                  replace hxC := Lib.hid hxC
                  replace hyC := Lib.hid hyC
                  replace hsame := Lib.hid hsame
                  replace hq6' := Lib.hid hq6'
                  go_wp2_with (go_quiet (fail))
                  go_roundw
                  case rel => exact ⟨j2 + 1, by go_num, by omega, _, by rw [← hw.out, World.drewN_drewN]⟩
                  case measure => simp [intOf]; omega
                · have f2 : (yn == sl) = false := by simp [g2]
                  have hxy := hsame g1 g2
                  rw [decide_eq_true hxy] at hne
                  rw [Bool.not_true] at hne
                  replace hw := Lib.hid hw
                  replace g1 := Lib.hid g1
                  replace g2 := Lib.hid g2
                  replace hxC := Lib.hid hxC
                  replace hyC := Lib.hid hyC
                  replace hsame := Lib.hid hsame
                  replace hq6' := Lib.hid hq6'
                  replace hxy := Lib.hid hxy
                  go_wp2_with (go_quiet (fail))
                  go_roundw
                  case rel => exact ⟨j2 + 1, by go_num, by omega, _, by rw [← hw.out, World.drewN_drewN]⟩
                  case measure => simp [intOf]; omega
              · have f1 : (xn == yn) = false := by simp [g1]
                clear hne
                replace hw := Lib.hid hw
                replace g1 := Lib.hid g1
                replace hxC := Lib.hid hxC
                replace hyC := Lib.hid hyC
                replace hsame := Lib.hid hsame
                replace hq6' := Lib.hid hq6'
                go_wp2_with (go_quiet (fail))
                go_roundw
                case rel => exact ⟨j2 + 1, by go_num, by omega, _, by rw [← hw.out, World.drewN_drewN]⟩
                case measure => simp [intOf]; omega
            · go_wp2_with fail
              go_roundw
              case rel => exact ⟨i + 1, by go_num, by omega, m2, rfl⟩
              case measure => simp [intOf]; omega
        · -- behind the loops
          have hq6' : Blk (w6.drewN m) wr.heap.size 28 #[.int .i64 k, .string (txt sl), .int .i64 x] := hq6.out
          have q0 : (w6.drewN m).cell? ⟨wr.heap.size, 0, none⟩ = some (.int .i64 k) := hq6'.cell_ rfl
          have q1 : (w6.drewN m).cell? ⟨wr.heap.size, 1, none⟩ = some (.string (txt sl)) := hq6'.cell_ rfl
          have q2 : (w6.drewN m).cell? ⟨wr.heap.size, 2, none⟩ = some (.int .i64 x) := hq6'.cell_ rfl
          have hlt6 := hq6'.lt
          have hC7 := Lib.hid (hC6.out.mod0 ((Mod.refl none_ _).drewN m))
          have hD7 := Lib.hid (hD6.out.mod0 ((Mod.refl none_ _).drewN m))
          have hm7 := Lib.hid (hmw6.out.drewN m)
          clear hC6 hD6 hmw6 hq6 rA rB
          generalize w6.drewN m = w7 at *
          by_cases hsl : sl = [97]
          · subst hsl
            have hag := hagr.out rfl
            by_cases h5 : er = 5
            · subst h5
              clear hag
              replace hq6' := Lib.hid hq6'
              go_wp2_with fail
              go_ret
              exact ⟨rfl, hm7.out.below0⟩
            · have h5b : (er == 5) = false := by simpa using h5
              obtain ⟨g1, g2, g3⟩ := hag h5
              subst g1
              have heq : (er == er) = true := by simp
              replace hq6' := Lib.hid hq6'
              replace h5 := Lib.hid h5
              replace g2 := Lib.hid g2
              replace g3 := Lib.hid g3
              go_wp2_with fail
              refine (kd2.out _ hD7.out).mono ?_
              rintro e w8 ⟨rfl, hD8, hm8⟩
              dsimp only at hD8 ⊢
              have hC8 := Lib.hid (hC7.out.mod hm8 (by omega) (by omega))
              have hmw8 := Lib.hid (hm7.out.then hm8 (fun i hi he => by have : i = b2 := he; omega))
              have hcd : getC C' [97] = getC D' [97] := g2.out
              replace hD8 := Lib.hid hD8
              replace hm8 := Lib.hid hm8
              replace hcd := Lib.hid hcd
              go_wp2_with fail
              go_roundw
              case rel => exact ⟨j + 1, by go_num, by omega, C', D', hC8.out, hD8.out, oC'.out, oD'.out, g3.out, hcd.out, hmw8.out⟩
              case measure => simp [intOf]; omega
          · have f1 : (sl == [97]) = false := by simp [hsl]
            have hcd : getC C' [97] = getC D [97] := by rw [hoth.out [97] hsl]; exact hCD.out
            by_cases h5 : er = 5
            · subst h5
              replace hq6' := Lib.hid hq6'
              replace hsl := Lib.hid hsl
              replace hcd := Lib.hid hcd
              go_wp2_with fail
              go_roundw
              case rel => exact ⟨j + 1, by go_num, by omega, C', D, hC7.out, hD7.out, oC'.out, oD.out, nD.out, hcd.out, hm7.out⟩
              case measure => simp [intOf]; omega
            · have h5b : (er == 5) = false := by simpa using h5
              replace hq6' := Lib.hid hq6'
              replace hsl := Lib.hid hsl
              replace hcd := Lib.hid hcd
              replace h5 := Lib.hid h5
              go_wp2_with fail
              go_roundw
              case rel => exact ⟨j + 1, by go_num, by omega, C', D, hC7.out, hD7.out, oC'.out, oD.out, nD.out, hcd.out, hm7.out⟩
              case measure => simp [intOf]; omega
    · -- the end
      have hend : ((min n 150 : Nat) : Int) ≤ (j : Int) := by omega
      have kg1 := Lib.hid (fun W (h : ChAt W p1 b1 C) => get_ok W p1 b1 C ⟨#[97]⟩ h (by decide))
      have kg2 := Lib.hid (fun W (h : ChAt W p2 b2 D) => get_ok W p2 b2 D ⟨#[97]⟩ h (by decide))
      rw [show (⟨#[97]⟩ : ByteArray).data.toList = [97] from rfl] at kg1 kg2
      have hv : ∃ a er, getV C [97] = (acV a, er) ∧ getV D [97] = (acV a, er) := by
        unfold getV
        rw [← hCD]
        cases getC C [97] with
        | none => exact ⟨⟨[], 0, 0, 0⟩, 6, rfl, rfl⟩
        | some a => exact ⟨a, 0, rfl, rfl⟩
      obtain ⟨a, er, v1, v2⟩ := hv
      rw [v1] at kg1
      rw [v2] at kg2
      have heq := fun W => eql_ac W a a
      rw [decide_eq_true rfl] at heq
      unfold acV at kg1 kg2 heq
      obtain ⟨an, ah, sa, al⟩ := a
      dsimp only at kg1 kg2 heq
      have here : (er == er) = true := by simp
      clear v1 v2 hlt hj
      replace hC := Lib.hid hC
      replace hD := Lib.hid hD
      replace oC := Lib.hid oC
      replace oD := Lib.hid oD
      replace nD := Lib.hid nD
      replace hCD := Lib.hid hCD
      replace hm := Lib.hid hm
      go_wp2_with fail
      refine (kg1.out _ hC.out).mono ?_
      rintro e w4 ⟨rfl, hm4⟩
      dsimp only
      have hD4 := Lib.hid ((hD.out.mod0 hm4).alloc (.cells #[.string (txt an), .int .i64 ah, .int .i64 sa, .int .i64 al] 35))
      have hmw := Lib.hid (hm.out.then hm4 (fun _ _ h => h))
      clear hm4
      go_wp2_with fail
      refine (kg2.out _ hD4.out).mono ?_
      rintro e w5 ⟨rfl, hm5⟩
      dsimp only
      have hb := (Blk.new w4 35 #[.string (txt an), .int .i64 ah, .int .i64 sa, .int .i64 al]).mod hm5 (fun h => h)
      have e0 : w5.cell? ⟨w4.heap.size, 0, none⟩ = some (.string (txt an)) := hb.cell_ rfl
      have e1 : w5.cell? ⟨w4.heap.size, 1, none⟩ = some (.int .i64 ah) := hb.cell_ rfl
      have e2 : w5.cell? ⟨w4.heap.size, 2, none⟩ = some (.int .i64 sa) := hb.cell_ rfl
      have e3 : w5.cell? ⟨w4.heap.size, 3, none⟩ = some (.int .i64 al) := hb.cell_ rfl
      have hbl := hb.lt
      have hmw5 := Lib.hid ((hmw.out.alloc _).then hm5 (fun _ _ h => h))
      clear hb hm5
      go_wp2_with fail
      go_ret
      exact ⟨rfl, (hmw5.out.alloc _).below0⟩
end Go.Proofs.Ytgljnlafjolfpaa
