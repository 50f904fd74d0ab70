/-
  FrameBits: the walk. No condition.
-/
import Derived.Test.YtameeeblhllemaaBitsLaw
import Derived.Test.YtameeeblhllemaaFLives
import Derived.Test.YtameeeblhllemaaOpen
import Derived.Deep.DeepCutAuto
namespace Go.Proofs.Ytameeeblhllemaa
open Go.RowKit

theorem flip_ok (x : UInt8) (r : Nat) (hr : r < 8) : ∃ c : UInt8, c ≠ x ∧ bits .xor .u8 (x.toNat : Int) (2 ^ r % 256) = (c.toNat : Int) := by
  have h1 : 2 ^ r < 2 ^ 8 := Nat.pow_lt_pow_right (by omega) hr
  have h2 : 0 < 2 ^ r := Nat.two_pow_pos r
  have hx := x.toNat_lt
  have e1 : ((2 : Int) ^ r % 256) = ((2 ^ r : Nat) : Int) := by
    have : ((2 : Int) ^ r) = ((2 ^ r : Nat) : Int) := by simp
    rw [this]; omega
  have hlt : x.toNat ^^^ 2 ^ r < 256 := xor_lt8 _ _ hx (by omega)
  refine ⟨UInt8.ofNat (x.toNat ^^^ 2 ^ r), ?_, ?_⟩
  · intro h
    have h3 := congrArg UInt8.toNat h
    simp only [UInt8.toNat_ofNat', Nat.mod_eq_of_lt hlt] at h3
    have h4 : x.toNat ^^^ 2 ^ r = x.toNat ^^^ 0 := by rw [Nat.xor_zero]; exact h3
    have := xor_cl h4
    omega
  · rw [e1, bx8 _ _ hx (by omega)]
    simp only [UInt8.toNat_ofNat', Nat.mod_eq_of_lt hlt]

set_option maxRecDepth 100000 in
set_option maxHeartbeats 2000000 in
theorem bits_walk (w : World) (A : Option Addr) (n d : Nat) (l : List UInt8) (cm : Came w 1 1 A n d (bvs l)) (at_ : Int) :
    Calls Try.prog 6 #[.slice A n d, .int .i64 at_] w fun e w' => e = .returned (.bool true) ∧ Below w.heap.size w w' := by
  have H := Lib.hid (show RdB w A n l from cm.1)
  have hnd : n ≤ d ∧ d ≤ 140737488351232 := ⟨cm.2.1, by have := cm.2.2.2.1; omega⟩
  clear cm
  go_enter Try.func6, Try.ntmps6
  go_wp2_with fail
  refine (lives_ok _).mono ?_
  rintro e w1 ⟨rfl, hm1⟩
  have hm1 := Lib.hid hm1
  have e300 : (min (n : Int) 300).toNat = min n 300 := by omega
  go_wp2_with fail
  have HB := Lib.hid (rdb_take H.out (k := min n 300) (by omega))
  clear H
  generalize hmm : min n 300 = m at HB e300 ⊢
  generalize l.take m = b at HB
  have hm5 : m ≤ 300 := by omega
  have hmd : m ≤ d := by omega
  clear hmm e300
  have hlen := Lib.hid HB.out.len
  by_cases h0 : m < 1
  · refine (frame_no _ _ _ _ (.inl h0)).mono ?_
    rintro e w2 ⟨rfl, rfl⟩
    go_wp2
    go_ret
    exact ⟨rfl, hm1.out.below0⟩
  · refine (frame_yes _ _ _ _ b (HB.out.mod0 hm1.out) (by omega) (by omega)).mono ?_
    rintro e w2 ⟨A2, c2, rfl, ho2, hf2, hm2⟩
    have hok : okL b := ⟨by rw [hlen.out]; omega, by rw [hlen.out]; omega⟩
    replace hok := Lib.hid hok
    have hfl : (frameOf b).length = 6 + m := by rw [frameOf_length, hlen.out]
    obtain ⟨g, cur, rfl, _⟩ := Ow.form ho2 (by omega)
    obtain ⟨N, hN⟩ : ∃ N, N = 6 + m := ⟨_, rfl⟩
    rw [← hN] at ho2 hfl ⊢
    have hN1 : 7 ≤ N := by omega
    have hN2 : N ≤ 306 := by omega
    replace hN := Lib.hid hN
    obtain ⟨q, hq, hqm⟩ := umod at_ (8 * N - 16) (by omega) (by omega)
    obtain ⟨j, hj⟩ : ∃ j, j = (16 + q) / 8 := ⟨_, rfl⟩
    obtain ⟨r, hr⟩ : ∃ r, r = (16 + q) % 8 := ⟨_, rfl⟩
    have hjN : j < N := by omega
    have hj2 : 2 ≤ j := by omega
    have hr8 : r < 8 := by omega
    have e1 : (16 + (q : Int)) / 8 = (j : Int) := by omega
    have e2 : (16 + (q : Int)) % 8 = (r : Int) := by omega
    replace hj := Lib.hid hj
    replace hr := Lib.hid hr
    obtain ⟨x, hx⟩ : ∃ x, (frameOf b).getD j 0 = x := ⟨_, rfl⟩
    obtain ⟨c, hcx, hflip⟩ := flip_ok x r hr8
    have hlaw := Lib.hid (bits_law b hok.out j c hj2 (by rw [hlen.out]; have := hN.out; omega) (by rw [hx]; exact hcx))
    have hc2 : w2.cell? ⟨g, j, none⟩ = some (.int .u8 (x.toNat : Int)) := by
      rw [← hx]
      refine (Ow.cell_ ho2 rfl j (by omega)).trans ((bvs_get (by rw [hfl]; exact hjN)).trans ?_)
      simp [List.getD, hfl, hjN]
    have hfz : w2.frozen? ⟨g, j, none⟩ = false := Ow.free ho2 rfl j
    replace ho2 := Lib.hid ho2
    replace hf2 := Lib.hid hf2
    replace hm2 := Lib.hid (hm1.out.trans hm2)
    replace hfl := Lib.hid hfl
    clear hm1
    go_upto_region 8 with (fail)
    go_region
    have hmr : Mod none_ w (w2.setCell ⟨g, j, none⟩ (.int .u8 (c.toNat : Int))).drew := (hm2.out.setCell (.inr (by have h5 : w1.heap.size ≤ g := hf2.out _ rfl; have h6 := hm1.size; show w.heap.size ≤ g; omega)) _).drew
    have hrr : RdB (w2.setCell ⟨g, j, none⟩ (.int .u8 (c.toNat : Int))).drew (some ⟨g, 0, none⟩) N ((frameOf b).set j c) := by
      show Rd _ _ _ _ _
      rw [bvs_set]
      exact (Ow.set_ ho2.out rfl j _).rd
    have hnc : N ≤ c2 ∧ c2 ≤ 9223372036854775807 := ⟨ho2.out.2.1, ho2.out.2.2.1⟩
    generalize (w2.setCell ⟨g, j, none⟩ (.int .u8 (c.toNat : Int))).drew = w3 at hmr hrr ⊢
    replace hmr := Lib.hid hmr
    replace hrr := Lib.hid hrr
    clear ho2 hf2 hc2 hfz
    go_wp2_with fail
    refine (scan_ok _ _ _ _ _ hrr.out hnc.1 hnc.2 (by omega)).mono ?_
    rintro e w4 ⟨LA, n4, c4, ss, rfl, hL, _, hm4⟩
    rw [hlaw.out] at hL ⊢
    have h4 : n4 = 0 := by rw [← hL.len]; rfl
    subst h4
    replace hm4 := Lib.hid (hmr.out.trans hm4)
    clear hL hlaw
    go_wp2
    go_ret
    exact ⟨rfl, hm4.out.below0⟩
end Go.Proofs.Ytameeeblhllemaa
