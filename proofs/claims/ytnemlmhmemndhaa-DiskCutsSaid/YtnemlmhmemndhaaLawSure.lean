/-
  DiskSure: the walk: for every script and every number the law returns true and writes nothing that was there. No condition.
-/
import Derived.Test.YtnemlmhmemndhaaLawRoom
import Derived.Deep.RegionWith
namespace Go.Proofs.Ytnemlmhmemndhaa
set_option linter.unusedVariables false
open Go.RowKit

theorem spoil1_take (s k : Nat) (l : List UInt8) (x : Int × UInt8) : (spoil1 s k l x).take s = l.take s := by
  unfold spoil1
  split
  · rw [List.take_set_of_le (by omega)]
  · rfl
theorem spoils_take (s k : Nat) (xs : List (Int × UInt8)) : ∀ l, (spoils_ s k l xs).take s = l.take s := by
  induction xs with
  | nil => intro l; rfl
  | cons x xs ih => intro l; exact (ih _).trans (spoil1_take s k l x)

/-- What is sure stays. -/
theorem step_sure (D : DS) (o : OpM) (hf : D.fit) (hk : kd o.k ≠ 2) : D.sure ≤ (D.step o).bytes.length ∧ (D.step o).bytes.take D.sure = D.bytes.take D.sure ∧ D.sure ≤ (D.step o).sure := by
  obtain ⟨h1, h2, h3⟩ := hf
  unfold DS.step
  split
  · split
    · exact ⟨h1, rfl, Nat.le_refl _⟩
    · refine ⟨by simp; omega, ?_, Nat.le_refl _⟩
      simp only
      rw [List.take_append_of_le_length h1]
  · split
    · split
      · exact ⟨h1, rfl, Nat.le_refl _⟩
      · exact ⟨h1, rfl, h1⟩
    ·
      split
      · exact ⟨h1, rfl, Nat.le_refl _⟩
      · have hl := spoils_length D.sure (upKeep D.bytes D.sure o.n) o.sp D.bytes
        have hu : D.sure + upKeep D.bytes D.sure o.n ≤ D.bytes.length := by unfold upKeep; omega
        refine ⟨by simp [hl]; omega, ?_, by simp⟩
        simp only
        rw [List.take_take, Nat.min_eq_left (by omega), spoils_take]

theorem disk_sure_q (p : Nat) (n : Int) (w : World) (k : Nat) (h : w.cell? ⟨p, 1, none⟩ = some (.int .i64 n)) : Calls Try.prog 12 #[.pointer (some ⟨p, 0, none⟩)] (w.drewN k) fun e w' => e = .returned (.int .i64 n) ∧ ∃ m, w' = w.drewN m :=
  (disk_sure p n (w.drewN k) h).mono fun _ _ ⟨h1, h2⟩ => ⟨h1, k, h2.symm⟩

def SureRel (w0 : World) (p : Nat) (SA : Option Addr) (m sc : Nat) (es : List OpE) (wr : World) : Prop :=
  ∃ A D, DS2 w0 wr p A D SA m sc es

theorem slice_take {A : Option Addr} {w : World} {n : Nat} {l : List UInt8} (h : RdB w A n l) {k : Nat} (hk : k ≤ n) : RdB w A k (l.take k) := by
  have := Rd.take_ h hk
  rwa [Nat.mul_one, ← bvs_take] at this

set_option maxRecDepth 100000 in
set_option maxHeartbeats 2000000 in
theorem sure_walk (w : World) (keep : Int) (A : Option Addr) (n d : Nat) (es : List OpE) (h : Scr w w.heap.size A n es) (hn : n ≤ d) (hd : d ≤ 140737488351232) :
    Calls Try.prog 3 #[.slice A n d, .int .i64 keep] w fun e w' => e = .returned (.bool true) ∧ Below w.heap.size w w' := by
  have H := Lib.hid h
  clear h
  go_enter Try.func3, Try.ntmps3
  go_wp2_with fail
  refine (lives_ok _).mono ?_
  rintro e w1 ⟨rfl, hm1⟩
  replace hm1 := Lib.hid hm1
  go_wp2_with fail
  refine (disk_new 3000 _).mono ?_
  rintro e w2 ⟨rfl, hd2, hm2⟩
  replace hd2 := Lib.hid hd2
  have hpw : w.heap.size ≤ w1.heap.size := hm1.out.size
  replace hm2 := Lib.hid (hm1.out.trans hm2)
  go_wp2_with fail
  refine (early_ok _ A n d es w.heap.size (H.out.mod0 hm2.out) hn hd).mono ?_
  rintro e w3 ⟨v, rfl, hE⟩
  have hst : ∃ sc SA, v = .slice SA (min n 100) sc ∧ SureRel w w1.heap.size SA (min n 100) sc ((es.take (min n 100)).map OpE.cut) w3 := by
    obtain ⟨SA, sc, hv, ho, hA, hm, _⟩ := hE
    refine ⟨sc, SA, hv, none, _, ⟨⟨0, hd2.out.mod0 hm⟩, hpw, (fun k hk => by obtain ⟨a, ha, _⟩ := hk; cases ha), ⟨ho, fun e he => ?_⟩, hm2.out.trans hm⟩⟩
    rw [List.mem_map] at he
    obtain ⟨e', he', rfl⟩ := he
    exact OpE.ok_cut ((H.out.2 e' (List.mem_of_mem_take he')).mod0 (hm2.out.trans hm))
  obtain ⟨sc, SA, rfl, hst⟩ := hst
  have hml : min n 100 ≤ 100 := Nat.min_le_right _ _
  generalize min n 100 = m at hst hml ⊢
  generalize (es.take m).map OpE.cut = fs at hst
  replace hst := Lib.hid hst
  clear hE
  go_wp2_with fail
  go_loopw [6] (fun i wr => ∃ j : Nat, i = .int .i64 j ∧ j ≤ m ∧ SureRel w w1.heap.size SA m sc fs wr) (fun i _ => m - (intOf i).toNat)
  case atStart => exact ⟨0, rfl, Nat.zero_le _, hst.out⟩
  case round =>
    obtain ⟨j, rfl, hj, AD, D, hds⟩ := hrel
    by_cases hlt : j < m
    · obtain ⟨g, e, rfl, hej, hok, hc5⟩ := hds.scr.at_ hlt
      obtain ⟨dc, hdk⟩ := hds.dk
      have hfit := hdk.2.2
      obtain ⟨k0, k1, k2, k3, k4⟩ := hc5
      replace hfit := Lib.hid hfit
      replace hds := Lib.hid hds
      replace hdk := Lib.hid hdk
      replace hok := Lib.hid hok
      clear hej
      by_cases hk : kd e.o.k = 2
      · replace hk := Lib.hid hk
        go_wp2_with fail
        refine (op_kind e.o e.B e.T e.Y 2 hk.out _).mono ?_
        rintro e8 w8 ⟨rfl, hm8⟩
        have hnext : SureRel w w1.heap.size (some ⟨g, 0, none⟩) m sc fs w8 := ⟨AD, D, hds.out.mod0 hm8⟩
        replace hnext := Lib.hid hnext
        clear hm8 k0 k1 k2 k3 k4
        go_wp2
        go_roundw
        case rel => exact ⟨j + 1, by go_num, by omega, hnext.out⟩
        case measure => simp [intOf]; omega
      · have hk1 : (kd e.o.k == 2) = false := by simpa using hk
        have hk2 := kd_lt e.o.k
        replace hk := Lib.hid hk
        go_wp2_with fail
        refine (op_kind e.o e.B e.T e.Y _ rfl _).mono ?_
        rintro e3 w3' ⟨rfl, hm3⟩
        obtain ⟨x0, x1, x2, x3, x4⟩ := C5.mod ⟨k0, k1, k2, k3, k4⟩ hm3 (fun hf => hf)
        clear k0 k1 k2 k3 k4
        have hds3 := Lib.hid (hds.out.mod0 hm3)
        have hdk3 := Lib.hid (hdk.out.mod0 hm3)
        have hok3 := Lib.hid (hok.out.mod0 hm3)
        clear hm3
        go_wp2_with fail
        refine (disk_bytes _ _ _ _ _ hdk3.out).mono ?_
        rintro e4 w4 ⟨B4, b4, rfl, hb4, hf4, hm4⟩
        have hds4 := Lib.hid (hds3.out.mod0 hm4)
        have hdk4 := Lib.hid (hdk3.out.mod0 hm4)
        have hok4 := Lib.hid (hok3.out.mod0 hm4)
        have hap : ∀ k, fp B4 k → ¬ dkf w1.heap.size AD k := by
          rintro k ⟨a, ha, rfl⟩ hf
          have h5 := hf4 a ha
          have h6 := hdk3.out.lt _ hf
          omega
        obtain ⟨k0, k1, k2, k3, k4⟩ := C5.mod ⟨x0, x1, x2, x3, x4⟩ hm4 (fun hf => hf)
        clear hm4 hf4 x0 x1 x2 x3 x4
        replace hb4 := Lib.hid hb4
        replace hap := Lib.hid hap
        go_wp2_with fail
        refine (disk_sure _ _ _ hdk4.out.c1).mono ?_
        rintro e4' w4' ⟨rfl, rfl⟩
        go_wp2_with fail
        refine (does_any _ _ _ _ w.heap.size e.B e.T e.Y e.o D hdk4.out hok4.out).mono ?_
        rintro e5 w5 ⟨rfl, hpost⟩
        obtain ⟨A5, hds5, hm5⟩ := hds4.out.post hpost
        obtain ⟨c5, hdk5⟩ := hds5.dk
        have hb5 := Lib.hid (Ow.mod hb4.out hm5 hap.out)
        clear k0 k1 k2 k3 k4 hpost hm5
        replace hds5 := Lib.hid hds5
        replace hdk5 := Lib.hid hdk5
        obtain ⟨q1, q2, q3⟩ := step_sure D e.o hfit.out hk.out
        generalize hD' : D.step e.o = D' at *
        replace hD' := Lib.hid hD'
        replace q2 := Lib.hid q2
        go_wp2_with fail
        refine (disk_bytes _ _ _ _ _ hdk5.out).mono ?_
        rintro e6 w6 ⟨B6, b6, rfl, hb6, hf6, hm6⟩
        have hds6 := Lib.hid (hds5.out.mod0 hm6)
        have hdk6 := Lib.hid (hdk5.out.mod0 hm6)
        have hnext : SureRel w w1.heap.size (some ⟨g, 0, none⟩) m sc fs w6 := ⟨A5, D', hds6.out⟩
        have r1 : RdB w6 B6 D.sure (D'.bytes.take D.sure) := slice_take hb6.rd q1
        have q4 : D.sure ≤ D.bytes.length := hfit.out.1
        have r2 : RdB w6 B4 D.sure (D.bytes.take D.sure) := slice_take (Rd.mod0 hb5.out.rd hm6) q4
        rw [q2.out] at r1
        have v1 := fun c => conv_bytes B6 D.sure c _ w6 r1
        have v2 := fun c => conv_bytes B4 D.sure c _ w6 r2
        have q5 : D.bytes.length ≤ 65536 := Nat.le_trans hfit.out.2.1 hfit.out.2.2
        have q6 : D'.bytes.length ≤ b6 := hb6.2.1
        have q7 : D.bytes.length ≤ b4 := hb4.out.2.1
        have v3 := hdk6.out.c1
        clear hm6 hf6 hb6 r1 r2
        replace hnext := Lib.hid hnext
        have t1 : decide (D'.bytes.length < D.sure) = false := by simpa using q1
        have t2 : decide (D'.sure < D.sure) = false := by simpa using q3
        have u0 : (0 : Int) ≤ (D.sure : Int) := by omega
        have u1 : (D.sure : Int) ≤ (b6 : Int) := by omega
        have u2 : (D.sure : Int) ≤ (b4 : Int) := by omega
        go_upto_region 12 with fail
        go_quiet ((go_at_call 12; exact disk_sure_q _ _ _ _ v3))
        replace hnext : Hid (SureRel w w1.heap.size (some ⟨g, 0, none⟩) m sc fs (w6.drewN nq)) := ⟨A5, D', hds6.out.mod0 ((Mod.refl _ w6).drewN nq)⟩
        clear v1 v2 v3
        go_wp2
        go_roundw
        case rel => exact ⟨j + 1, by go_num, by omega, hnext.out⟩
        case measure => simp [intOf]; omega
    · obtain ⟨dc, hdk⟩ := hds.dk
      obtain ⟨l, s, r, br⟩ := D
      have hfit := hdk.2.2
      obtain ⟨f1, f2, f3⟩ := hfit
      simp only at f1 f2 f3
      replace hds := Lib.hid hds
      replace hdk := Lib.hid hdk
      go_wp2_with fail
      refine (disk_bytes _ _ _ _ _ hdk.out).mono ?_
      rintro e4 w4 ⟨B4, b4, rfl, hb4, hf4, hm4⟩
      have hds4 := Lib.hid (hds.out.mod0 hm4)
      have hdk4 := Lib.hid (hdk.out.mod0 hm4)
      have hap : ∀ k, fp B4 k → ¬ dkf w1.heap.size AD k := by
        rintro k ⟨a, ha, rfl⟩ hf
        have h5 := hf4 a ha
        have h6 := hdk.out.lt _ hf
        omega
      clear hm4 hf4
      replace hb4 := Lib.hid hb4
      replace hap := Lib.hid hap
      go_wp2_with fail
      refine (disk_sure _ _ _ hdk4.out.c1).mono ?_
      rintro e4' w4' ⟨rfl, rfl⟩
      go_wp2_with fail
      refine (disk_break _ _ _ _ _ hdk4.out).mono ?_
      rintro e5 w5 ⟨rfl, hdk5, hm5⟩
      have hb5 := Lib.hid (Ow.mod hb4.out hm5 hap.out)
      have hmm5 := Lib.hid (mod_up hds4.out.mod hm5 hds4.out.hp hds4.out.hA)
      replace hdk5 : Hid (Dk w5 w1.heap.size AD dc ⟨l, s, r, true⟩) := hdk5
      clear hm5
      go_wp2_with fail
      refine (disk_up _ _ _ _ _ _ _ _ hdk5.out keep none 0 0 [] Rd.none_ (fun k hk => by obtain ⟨a, ha, _⟩ := hk; cases ha) (by decide)).mono ?_
      rintro e6 w6 ⟨rfl, hdk6, hm6⟩
      have hb6 := Lib.hid (Ow.mod hb5.out hm6 hap.out)
      have hmm6 := Lib.hid (mod_up hmm5.out hm6 hds4.out.hp hds4.out.hA)
      clear hm6
      obtain ⟨L, hL⟩ : ∃ L, L = s + upKeep l s keep := ⟨_, rfl⟩
      have hL2 : (L : Int) = (s : Int) + min (max keep 0) ((l.length : Int) - s) := by rw [hL]; unfold upKeep; omega
      have hL3 : L ≤ l.length := by omega
      have hL4 : (l.take L).length = L := by rw [List.length_take]; omega
      replace hdk6 : Dk w6 w1.heap.size AD dc ⟨l.take L, L, r, false⟩ := by rw [hL]; exact hdk6
      replace hdk6 := Lib.hid hdk6
      clear hL
      go_wp2_with fail
      refine (disk_bytes _ _ _ _ _ hdk6.out).mono ?_
      rintro e7 w7 ⟨B7, b7, rfl, hb7, hf7, hm7⟩
      simp only [hL4] at hb7 ⊢
      have hmm7 := Lib.hid (hmm6.out.trans hm7)
      have v3 := (hdk6.out.mod0 hm7).c1
      have r2 : RdB w7 B4 L (l.take L) := slice_take (Rd.mod0 hb6.out.rd hm7) hL3
      have v1 := fun c => conv_bytes B7 L c _ w7 hb7.rd
      have v2 := fun c => conv_bytes B4 L c _ w7 r2
      have q7 : l.length ≤ b4 := hb4.out.2.1
      have q8 : ((L : Int) == (s : Int) + min (max keep 0) ((l.length : Int) - s)) = true := by rw [beq_iff_eq]; exact hL2
      have u0 : (0 : Int) ≤ (L : Int) := by omega
      have u1 : (L : Int) ≤ (b4 : Int) := by omega
      clear hm7 hf7 hb7 r2 hL4
      replace hL2 := Lib.hid hL2
      go_upto_region 18 with fail
      go_quiet ((go_at_call 12; exact disk_sure_q _ _ _ _ v3))
      go_wp2
      go_ret
      exact ⟨rfl, (hmm7.out.drewN nq).below0⟩
end Go.Proofs.Ytnemlmhmemndhaa
