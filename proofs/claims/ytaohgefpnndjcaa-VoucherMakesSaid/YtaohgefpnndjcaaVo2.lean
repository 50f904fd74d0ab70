/-
  The contracts of voucher's all, Check, Make; of the law's few.
-/
import Derived.Test.YtaohgefpnndjcaaVo1
namespace Go.Proofs.Ytaohgefpnndjcaa
set_option linter.unusedVariables false
open Go.RowKit
theorem rdl_lt {w : World} {A : Option Addr} {n : Nat} {ls : List Lg} (h : RdL w A n ls) (hn : 0 < n) : ∀ k, fp A k → k < w.heap.size := by
  obtain ⟨b, o, l, rfl, _, _, y1, _⟩ := rdl_get h hn
  rintro k ⟨a, ha, rfl⟩
  injection ha with ha
  subst ha
  exact World.block_lt_of_cell? w _ y1
theorem RdL.mod' {F : Nat → Prop} {w w' : World} {A : Option Addr} {n : Nat} {ls : List Lg} (h : RdL w A n ls) (hm : Mod F w w') (hF : 0 < n → ∀ k, fp A k → ¬ F k) : RdL w' A n ls := Rd.mod' h hm hF
set_option maxRecDepth 100000 in
set_option maxHeartbeats 2000000 in
theorem alls_ok (w : World) (p b : Nat) (C : List Ac) (A : Option Addr) (n c : Nat) (ls : List Lg) (hc : ChAt w p b C) (ho : OkC C) (h : RdL w A n ls) (hn : n ≤ 1000) (hz : ∀ l ∈ ls, LgOk l) (hA : 0 < n → ∀ k, fp A k → ¬ k = b) :
    Calls Try.prog 35 #[.pointer (some ⟨p, 0, none⟩), .slice A n c] w (ChPost w p b (allR C ls)) := by
  have hl := h.len
  replace h := Lib.hid h
  replace hz := Lib.hid hz
  replace hc := Lib.hid hc
  replace ho := Lib.hid ho
  replace hA := Lib.hid hA
  go_enter Try.func35, Try.ntmps35
  go_wp2_with fail
  go_loopw [10] (fun x wr => ∃ j : Nat, x = .int .i64 j ∧ j ≤ n ∧ ∃ D, ChAt wr p b D ∧ OkC D ∧ allR C ls = allR D (ls.drop j) ∧ Mod (· = b) w wr) (fun x _ => n - (intOf x).toNat)
  case atStart => exact ⟨0, rfl, by omega, C, hc.out, ho.out, rfl, Mod.refl _ _⟩
  case round =>
    obtain ⟨j, rfl, hj, D, hD, oD, hall, hm⟩ := hrel
    by_cases hlt : j < n
    · obtain ⟨g, o, l, rfl, hmem, hjl, y1, y2⟩ := rdl_get (h.out.mod' hm hA.out) hlt
      have hlok := hz.out l hmem
      have hgl := World.block_lt_of_cell? wr _ y1
      have hdr : ls.drop j = l :: ls.drop (j + 1) := by
        have hjlt : j < ls.length := by omega
        rw [List.getElem?_eq_getElem hjlt] at hjl
        injection hjl with hjl
        rw [List.drop_eq_getElem_cons hjlt, hjl]
      rw [hdr, show allR D (l :: ls.drop (j + 1)) = (if (postR D l).2 ≠ 0 then postR D l else allR (postR D l).1 (ls.drop (j + 1))) from rfl] at hall
      have cp := Lib.hid (fun W (h : ChAt W p b D) => post_ok W p b D l h hlok oD)
      have oD' := post_okc oD l
      generalize postR D l = r at *
      obtain ⟨D', er⟩ := r
      dsimp only at oD' hall
      by_cases her : er = 0
      · subst her
        rw [if_neg (by simp)] at hall
        replace hD := Lib.hid hD
        replace oD := Lib.hid oD
        replace hm := Lib.hid hm
        replace hmem := Lib.hid hmem
        replace hjl := Lib.hid hjl
        replace hlok := Lib.hid hlok
        replace hdr := Lib.hid hdr
        replace oD' := Lib.hid oD'
        replace hall := Lib.hid hall
        go_wp2_with fail
        refine (cp.out _ (hD.out.alloc _)).mono ?_
        rintro e w1 ⟨rfl, hc1, hm1⟩
        dsimp only
        have hmm := Lib.hid (((hm.out.alloc (.cells #[.string (txt l.n), .int .i64 l.x] 44))).trans hm1)
        replace hc1 := Lib.hid hc1
        clear hm1
        go_wp2_with fail
        go_roundw
        case rel => exact ⟨j + 1, by go_num, by omega, D', hc1.out, oD'.out, hall.out, hmm.out⟩
        case measure => simp [intOf]; omega
      · rw [if_pos her] at hall
        have e1 : (er == 0) = false := by simpa using her
        replace hD := Lib.hid hD
        replace oD := Lib.hid oD
        replace hm := Lib.hid hm
        replace hmem := Lib.hid hmem
        replace hjl := Lib.hid hjl
        replace hlok := Lib.hid hlok
        replace hdr := Lib.hid hdr
        replace oD' := Lib.hid oD'
        replace hall := Lib.hid hall
        replace her := Lib.hid her
        go_wp2_with fail
        refine (cp.out _ (hD.out.alloc _)).mono ?_
        rintro e w1 ⟨rfl, hc1, hm1⟩
        dsimp only
        have hmm := Lib.hid (((hm.out.alloc (.cells #[.string (txt l.n), .int .i64 l.x] 44))).trans hm1)
        replace hc1 := Lib.hid hc1
        clear hm1
        go_wp2_with fail
        go_ret
        rw [hall.out]
        exact ⟨rfl, hc1.out, hmm.out⟩
    · have hd0 : ls.drop j = [] := List.drop_eq_nil_of_le (by omega)
      rw [hd0] at hall
      replace hD := Lib.hid hD
      replace oD := Lib.hid oD
      replace hm := Lib.hid hm
      replace hall := Lib.hid hall
      replace hd0 := Lib.hid hd0
      go_wp2_with fail
      go_ret
      rw [hall.out]
      exact ⟨rfl, hD.out, hm.out⟩
set_option maxRecDepth 100000 in
theorem check_nil (w : World) (A : Option Addr) (n c : Nat) : Calls Try.prog 12 #[.pointer none, .slice A n c] w fun e w' => e = .returned (.int .i64 1) ∧ w = w' := by
  go_enter Try.func12, Try.ntmps12
  go_wp2_with fail
  go_ret
  exact ⟨rfl, rfl⟩
set_option maxRecDepth 100000 in
set_option maxHeartbeats 2000000 in
theorem check_ok (w : World) (p b : Nat) (C : List Ac) (A : Option Addr) (n c : Nat) (ls : List Lg) (hc : ChAt w p b C) (ho : OkC C) (h : RdL w A n ls) (hn : n ≤ 1000) (hz : ∀ l ∈ ls, LgOk l) :
    Calls Try.prog 12 #[.pointer (some ⟨p, 0, none⟩), .slice A n c] w fun e w' => e = .returned (.int .i64 (checkR C ls)) ∧ Mod none_ w w' := by
  have c0 := Lib.hid (fun W (h : RdL W A n ls) => right_ok W A n c ls h hn hz)
  have c1 := Lib.hid (fun W (h : RdL W A n ls) => weigh_ok W A n c ls h hn hz)
  have c2 := Lib.hid (fun W (h : ChAt W p b C) => copy_ok W p b C h)
  have c3 := Lib.hid (fun W p' b' (hc : ChAt W p' b' C) (h : RdL W A n ls) (hA : 0 < n → ∀ k, fp A k → ¬ k = b') => alls_ok W p' b' C A n c ls hc ho h hn hz hA)
  unfold checkR
  cases hr : rightB ls with
  | false =>
    rw [hr] at c0
    rw [if_pos rfl]
    replace h := Lib.hid h
    replace hz := Lib.hid hz
    replace hc := Lib.hid hc
    replace ho := Lib.hid ho
    replace hr := Lib.hid hr
    go_enter Try.func12, Try.ntmps12
    go_wp2_with fail
    refine (c0.out _ h.out).mono ?_
    rintro e w1 ⟨rfl, hm1⟩
    dsimp only
    replace hm1 := Lib.hid hm1
    go_wp2_with fail
    go_ret
    exact ⟨rfl, hm1.out⟩
  | true =>
    rw [hr] at c0
    rw [if_neg (by simp)]
    cases hw : weighB ls with
    | false =>
      rw [hw] at c1
      rw [if_pos rfl]
      replace h := Lib.hid h
      replace hz := Lib.hid hz
      replace hc := Lib.hid hc
      replace ho := Lib.hid ho
      replace hr := Lib.hid hr
      replace hw := Lib.hid hw
      go_enter Try.func12, Try.ntmps12
      go_wp2_with fail
      refine (c0.out _ h.out).mono ?_
      rintro e w1 ⟨rfl, hm1⟩
      dsimp only
      replace hm1 := Lib.hid hm1
      go_wp2_with fail
      refine (c1.out _ (h.out.mod0 hm1.out)).mono ?_
      rintro e w2 ⟨rfl, hm2⟩
      dsimp only
      have hmm := Lib.hid (hm1.out.trans hm2)
      clear hm1 hm2
      go_wp2_with fail
      go_ret
      exact ⟨rfl, hmm.out⟩
    | true =>
      rw [hw] at c1
      rw [if_neg (by simp)]
      generalize allR C ls = r at *
      replace h := Lib.hid h
      replace hz := Lib.hid hz
      replace hc := Lib.hid hc
      replace ho := Lib.hid ho
      replace hr := Lib.hid hr
      replace hw := Lib.hid hw
      go_enter Try.func12, Try.ntmps12
      go_wp2_with fail
      refine (c0.out _ h.out).mono ?_
      rintro e w1 ⟨rfl, hm1⟩
      dsimp only
      replace hm1 := Lib.hid hm1
      go_wp2_with fail
      refine (c1.out _ (h.out.mod0 hm1.out)).mono ?_
      rintro e w2 ⟨rfl, hm2⟩
      dsimp only
      have hmm := Lib.hid (hm1.out.trans hm2)
      clear hm1 hm2
      go_wp2_with fail
      refine (c2.out _ (hc.out.mod0 hmm.out)).mono ?_
      rintro e w3 ⟨p', b', rfl, hc3, hm3, hp3, hb3⟩
      dsimp only
      have hmm3 := Lib.hid (hmm.out.trans hm3)
      have hs2 := hmm.out.size
      replace hc3 := Lib.hid hc3
      replace hm3 := Lib.hid hm3
      replace hp3 := Lib.hid hp3
      replace hb3 := Lib.hid hb3
      go_wp2_with fail
      refine (c3.out _ p' b' hc3.out (h.out.mod0 hmm3.out) (fun h0 k hk he => by have := rdl_lt h.out h0 k hk; have := hb3.out; omega)).mono ?_
      rintro e w4 ⟨rfl, hc4, hm4⟩
      dsimp only
      have hmm4 := Lib.hid (hmm3.out.then hm4 (fun i hi he => by have h1 : i = b' := he; have := hb3.out; omega))
      clear hc4 hm4
      go_wp2_with fail
      go_ret
      exact ⟨rfl, hmm4.out⟩
set_option maxRecDepth 100000 in
set_option maxHeartbeats 2000000 in
theorem make_ok (w : World) (p b : Nat) (C : List Ac) (A : Option Addr) (n c : Nat) (ls : List Lg) (hc : ChAt w p b C) (ho : OkC C) (h : RdL w A n ls) (hn : n ≤ 1000) (hz : ∀ l ∈ ls, LgOk l) (hA : 0 < n → ∀ k, fp A k → ¬ k = b) :
    Calls Try.prog 16 #[.pointer (some ⟨p, 0, none⟩), .slice A n c] w (ChPost w p b (makeR C ls)) := by
  have c0 := Lib.hid (check_ok w p b C A n c ls hc ho h hn hz)
  have c3 := Lib.hid (fun W (hc : ChAt W p b C) (h : RdL W A n ls) => alls_ok W p b C A n c ls hc ho h hn hz hA)
  unfold makeR
  generalize checkR C ls = er at *
  by_cases her : er = 0
  · subst her
    rw [if_neg (by simp)]
    generalize allR C ls = r at *
    replace h := Lib.hid h
    replace hz := Lib.hid hz
    replace hc := Lib.hid hc
    replace ho := Lib.hid ho
    go_enter Try.func16, Try.ntmps16
    go_wp2_with fail
    refine c0.out.mono ?_
    rintro e w1 ⟨rfl, hm1⟩
    dsimp only
    replace hm1 := Lib.hid hm1
    go_wp2_with fail
    refine (c3.out _ (hc.out.mod0 hm1.out) (h.out.mod0 hm1.out)).mono ?_
    rintro e w2 ⟨rfl, hc2, hm2⟩
    dsimp only
    replace hc2 := Lib.hid hc2
    replace hm2 := Lib.hid hm2
    go_wp2_with fail
    go_ret
    exact ⟨rfl, hc2.out, (hm1.out.any _).trans hm2.out⟩
  · rw [if_pos her]
    have e1 : (er == 0) = false := by simpa using her
    replace h := Lib.hid h
    replace hz := Lib.hid hz
    replace hc := Lib.hid hc
    replace ho := Lib.hid ho
    replace her := Lib.hid her
    go_enter Try.func16, Try.ntmps16
    go_wp2_with fail
    refine c0.out.mono ?_
    rintro e w1 ⟨rfl, hm1⟩
    dsimp only
    replace hm1 := Lib.hid hm1
    go_wp2_with fail
    go_ret
    exact ⟨rfl, hc.out.mod0 hm1.out, hm1.out.any _⟩
set_option maxRecDepth 100000 in
theorem few_ok (w : World) (A : Option Addr) (n c : Nat) (hnc : n ≤ c) : Calls Try.prog 11 #[.slice A n c] w fun e w' => e = .returned (.slice A (min n 8) c) ∧ w = w' := by
  have e1 : (min (n : Int) 8).toNat = min n 8 := by omega
  go_enter Try.func11, Try.ntmps11
  go_wp2_with fail
  go_ret
  exact ⟨by rw [← e1]; rfl, rfl⟩
end Go.Proofs.Ytaohgefpnndjcaa
