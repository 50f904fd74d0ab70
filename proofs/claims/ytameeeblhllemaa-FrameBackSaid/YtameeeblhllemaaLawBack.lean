/-
  FrameBack: the walk. No condition.
-/
import Derived.Test.YtameeeblhllemaaFLives
import Derived.Test.YtameeeblhllemaaOpenL
import Derived.Test.YtameeeblhllemaaBackLaw
namespace Go.Proofs.Ytameeeblhllemaa
open Go.RowKit

set_option maxRecDepth 100000 in
set_option maxHeartbeats 2000000 in
theorem back_walk (w : World) (A : Option Addr) (n d : Nat) (ss : List SV) (ls : List (List UInt8)) (cl : LCame w A n d ss ls) (at_ : Int) :
    Calls Try.prog 5 #[.slice A n d, .int .i64 at_] w fun e w' => e = .returned (.bool true) ∧ Below w.heap.size w w' := by
  have HL := Lib.hid cl.rdl
  have hnd : n ≤ d := cl.1.2.1
  have hlt := Lib.hid (LCame.lt cl)
  clear cl
  go_enter Try.func5, Try.ntmps5
  go_wp2_with fail
  refine (lives_ok _).mono ?_
  rintro e w1 ⟨rfl, hm1⟩
  have hm1 := Lib.hid hm1
  have HL1 := Lib.hid (show RdL w1 A n ss ls from HL.out.mod0 hm1.out)
  go_wp2_with fail
  refine (few_ok _ _ _ _ _ _ HL1.out hnd (fun i s hs h0 k hk => Nat.lt_of_lt_of_le (hlt.out i s hs h0 k hk) hm1.out.size)).mono ?_
  rintro e w2 ⟨v, rfl, LA, c2, s2, rfl, hL2, hLA, hm2, _⟩
  have hn20 : min n 20 ≤ 20 := by omega
  generalize hmm : min n 20 = q at hL2 hn20
  replace hmm := Lib.hid hmm
  replace hL2 := Lib.hid hL2
  replace hLA := Lib.hid hLA
  replace hm2 := Lib.hid (hm1.out.trans hm2)
  go_wp2_with fail
  refine (wrap_ok _ _ _ _ _ _ hL2.out.rdl (by omega)).mono ?_
  rintro e w3 ⟨hm3, h3⟩
  have hR3 := Lib.hid (show RdL w3 LA q s2 (cutL ls q) from hL2.out.rdl.mod0 hm3)
  replace hm3 := Lib.hid (hm2.out.trans hm3)
  rcases h3 with ⟨hok, A3, n3, c3, rfl, ho3, hf3, hn3⟩ | ⟨_, rfl⟩
  case inr =>
    go_wp2
    go_ret
    exact ⟨rfl, hm3.out.below0⟩
  have hlen3 := ho3.len
  have hq : (cutL ls q).length = q := hL2.out.len
  have hn82 : n3 ≤ 82040 := by rw [hq] at hn3; omega
  have hb3 : RdB w3 A3 n3 ((cutL ls q).flatMap frameOf) := ho3.rd
  have hnc : n3 ≤ c3 ∧ c3 ≤ 9223372036854775807 := ⟨ho3.2.1, ho3.2.2.1⟩
  generalize cutL ls q = ms at hb3 hlen3 hok hq hR3
  have hsz : sz ms q = n3 := by rw [← hq, sz_all, hlen3]
  have hlaw := Lib.hid (back_law ms hok)
  have hflat := Lib.hid (scan_flat0 ms hok)
  rw [hlen3] at hflat
  generalize ms.flatMap frameOf = bb at hb3 hlaw hflat
  replace hb3 := Lib.hid hb3
  replace hq := Lib.hid hq
  replace hsz := Lib.hid hsz
  replace hok := Lib.hid hok
  have hqc : q ≤ c2 ∧ c2 ≤ 9223372036854775807 := ⟨hL2.out.1.2.1, hL2.out.1.2.2.1⟩
  clear ho3 hf3 hn3 hlen3 hL2 hLA
  go_wp2_with fail
  refine (scan_ok _ _ _ _ bb hb3.out hnc.1 hnc.2 (by omega)).mono ?_
  rintro e w4 ⟨LX, nx, cx, sx, rfl, hX, _, hm4⟩
  rw [hflat.out] at hX ⊢
  have hR4 := Lib.hid (hR3.out.mod0 hm4)
  have hb4 := Lib.hid (show RdB w4 A3 n3 bb from hb3.out.mod0 hm4)
  replace hm4 := Lib.hid (hm3.out.trans hm4)
  replace hX := Lib.hid hX
  clear hb3 hR3 hflat
  go_wp2_with fail
  with_reducible refine (same3_ok _ _ _ _ _ _ _ _ _ _ _ hR4.out hX.out.rdl (by omega)).mono ?_
  rintro e w5 ⟨rfl, hm5⟩
  rw [show decide (ms = ms) = true from decide_eq_true rfl]
  have hR5 := Lib.hid (hR4.out.mod0 hm5)
  have hb5 := Lib.hid (show RdB w5 A3 n3 bb from hb4.out.mod0 hm5)
  replace hm5 := Lib.hid (hm4.out.trans hm5)
  clear hX hR4 hb4
  obtain ⟨k, hk, hkm⟩ := umod at_ ((n3 : Int) + 1) (by omega) (by omega)
  have hkn : k ≤ n3 := by omega
  go_wp2_with fail
  refine (scan_ok _ _ _ _ (bb.take k) (rdb_take hb5.out hkn) (by omega) (by omega) (by omega)).mono ?_
  rintro e w6 ⟨LZ, nz, cz, ts, rfl, hZ, _, hm6⟩
  have hR6 := Lib.hid (hR5.out.mod0 hm6)
  replace hm6 := Lib.hid (hm5.out.trans hm6)
  have hle := scan_le (bb.take k)
  rw [List.length_take] at hle
  generalize hRR : scan (bb.take k) = R at hZ hle ⊢
  obtain ⟨RL, RN, RE⟩ := R
  simp only at hZ hle ⊢
  replace hZ := Lib.hid hZ
  replace hRR := Lib.hid hRR
  clear hR5 hb5
  go_wp2_with fail
  rw [hkm]
  have fin : ∀ j, j ≤ q → sz ms j ≤ k → (j = q ∨ k < sz ms (j + 1)) → RL = ms.take j ∧ RN = sz ms j ∧ RE = if sz ms j = k then 0 else 4 := by
    intro j h1 h2 h3
    have := hlaw.out j k (by rw [hq.out]; exact h1) h2 (by rw [hq.out, hsz.out]; exact hkn) (by rw [hq.out]; exact h3)
    rw [hRR.out] at this
    simpa using this
  replace fin := Lib.hid fin
  clear hlaw hRR
  go_loopw [11, 12, 13] (fun u v i wr => ∃ j : Nat, u = .int .i64 j ∧ v = .int .i64 (sz ms j) ∧ i = .int .i64 j ∧ wr = w6 ∧ j ≤ q ∧ sz ms j ≤ k) (fun _ _ i _ => q - (intOf i).toNat)
  case atStart => exact ⟨0, rfl, by rw [sz_zero]; rfl, rfl, rfl, by omega, by rw [sz_zero]; omega⟩
  case round =>
    obtain ⟨j, rfl, rfl, rfl, rfl, hjq, hjk⟩ := hrel
    have fj := fin.out j hjq hjk
    replace fj := Lib.hid fj
    by_cases q1 : j < q
    · obtain ⟨b, o, ⟨Sa, Sn, Sc⟩, x, rfl, hs, hx, hcell, hrb, hsn, hsc⟩ := hR6.out.at_ q1
      simp only at hcell hrb hsn hsc
      have hlx := hrb.len
      have hokx := (hok.out x (List.mem_of_getElem? hx)).2
      rw [hlx] at hokx
      have hs1 := sz_succ hx
      rw [hlx] at hs1
      rw [hs1] at fj
      clear hs hx hrb hlx
      generalize hS : sz ms j = S at *
      replace hS := Lib.hid hS
      by_cases q2 : S + (6 + Sn) ≤ k
      · replace hs1 := Lib.hid hs1
        go_wp2
        go_roundw
        case rel => exact ⟨j + 1, by go_num, by rw [hs1.out]; go_num, by go_num, trivial, by omega, by rw [hs1.out]; omega⟩
        case measure => simp [intOf]; omega
      · clear hs1
        obtain ⟨rfl, rfl, hE⟩ := fj.out (.inr (by omega))
        replace hE := Lib.hid hE
        have hnz := hZ.out.len
        replace hnz := Lib.hid hnz
        have hRj := Lib.hid (hR6.out.take_ hjq)
        go_wp2_with fail
        with_reducible refine (same3_ok _ _ _ _ _ _ _ _ _ _ _ hZ.out.rdl hRj.out (by rw [← hnz.out, List.length_take]; omega)).mono ?_
        rintro e w7 ⟨rfl, hm7⟩
        rw [show decide (ms.take j = ms.take j) = true from decide_eq_true rfl]
        replace hm7 := Lib.hid (hm6.out.trans hm7)
        by_cases hSk : RN = k
        · obtain rfl : RE = 0 := by rw [hE.out, if_pos hSk]
          have hSk' : ((RN : Nat) : Int) = (k : Int) := by rw [hSk]
          go_wp2
          go_ret
          exact ⟨rfl, hm7.out.below0⟩
        · obtain rfl : RE = 4 := by rw [hE.out, if_neg hSk]
          have hSk' : (((RN : Nat) : Int) == (k : Int)) = false := by simp; omega
          go_wp2
          go_ret
          exact ⟨rfl, hm7.out.below0⟩
    · obtain rfl : j = q := by omega
      generalize hS : sz ms j = S at *
      replace hS := Lib.hid hS
      obtain ⟨rfl, rfl, hE⟩ := fj.out (.inl rfl)
      replace hE := Lib.hid hE
      have hnz := hZ.out.len
      replace hnz := Lib.hid hnz
      have hRj := Lib.hid (hR6.out.take_ hjq)
      go_wp2_with fail
      with_reducible refine (same3_ok _ _ _ _ _ _ _ _ _ _ _ hZ.out.rdl hRj.out (by rw [← hnz.out, List.length_take]; omega)).mono ?_
      rintro e w7 ⟨rfl, hm7⟩
      rw [show decide (ms.take j = ms.take j) = true from decide_eq_true rfl]
      replace hm7 := Lib.hid (hm6.out.trans hm7)
      by_cases hSk : RN = k
      · obtain rfl : RE = 0 := by rw [hE.out, if_pos hSk]
        have hSk' : ((RN : Nat) : Int) = (k : Int) := by rw [hSk]
        go_wp2
        go_ret
        exact ⟨rfl, hm7.out.below0⟩
      · obtain rfl : RE = 4 := by rw [hE.out, if_neg hSk]
        have hSk' : (((RN : Nat) : Int) == (k : Int)) = false := by simp; omega
        go_wp2
        go_ret
        exact ⟨rfl, hm7.out.below0⟩
end Go.Proofs.Ytameeeblhllemaa
