import Derived.Test.YtdnbclhidpkpgaaGreatFp13
import Derived.Test.YtdnbclhidpkpgaaGreatFp1
import Derived.ProofKit
import Derived.OpenShut
import Derived.ChangeOld
import Derived.SizedLaws
import Derived.Deep.Slices
import Derived.Deep.Fields
import Derived.Test.YtdnbclhidpkpgaaGreatFp10
import Derived.Lib.SmallJoins
import Derived.ShutString
/-
  LogBack's walk. No condition.
-/
namespace Go.Proofs.YtdnbclhidpkpgaaGreat
set_option linter.unusedVariables false
set_option linter.unusedSimpArgs false
open Go.RowKit
theorem rdR_range {w : World} {g o : Nat} {x : Rs} (h : w.rangeAt g o (rsC x)) : RdR w (some ⟨g, o, none⟩) 1 [x] := by
  unfold RdR rss
  refine ⟨by simp [rsC], fun _ => ⟨_, rfl, fun k u hk => ?_⟩⟩
  rw [Addr.add_mid]
  exact h k u (by simpa using hk)
theorem RsL.one {w : World} {A : Option Addr} {x : Rs} (h : RdR w A 1 [x]) (hE : EnM w x.r.e x.L x.D) (hk : RsOk x) (hn : numsE x.r.e) : RsL w A 1 [x] :=
  ⟨h, fun y hy => by simp at hy; subst hy; exact hE, fun y hy => by simp at hy; subst hy; exact hk, fun y hy => by simp at hy; subst hy; exact hn⟩
theorem fewL_mem {xs : List Rs} {n : Nat} {y : Rs} (h : y ∈ fewL xs n) : ∃ x ∈ xs, y = cutR x := by
  unfold fewL at h
  rw [List.mem_map] at h
  obtain ⟨x, hx, rfl⟩ := h
  exact ⟨x, List.mem_of_mem_take hx, rfl⟩
theorem fewL_rs {w : World} {xs : List Rs} (hE : RsM w xs) (hk : ∀ x ∈ xs, RsOk x) (hn : ∀ x ∈ xs, numsE x.r.e) {A : Option Addr} {m : Nat} (n : Nat) (hr : RdR w A m (fewL xs n)) : RsL w A m (fewL xs n) :=
  ⟨hr, fun y hy => by obtain ⟨x, hx, rfl⟩ := fewL_mem hy; exact cut_mem (hE x hx), fun y hy => by obtain ⟨x, hx, rfl⟩ := fewL_mem hy; exact cut_ok (hk x hx),
   fun y hy => by obtain ⟨x, hx, rfl⟩ := fewL_mem hy; exact ⟨(hn x hx).1, fun l hl => (hn x hx).2 l (List.mem_of_mem_take hl)⟩⟩
set_option maxRecDepth 100000 in
set_option maxHeartbeats 8000000 in
theorem logBack_walk (w : World) (A : Option Addr) (N c : Nat) (xs : List Rs) (h : RsL w A N xs) (hN : N ≤ 140737488355328)
    (A' : Option Addr) (n' c' : Nat) (b : List UInt8) (hb : RdB w A' n' b) (hn' : n' ≤ 140737488355328) (hc' : n' ≤ c') :
    Calls Tryz.prog 4 #[.slice A N c, .slice A' n' c'] w fun e w' => e = .returned (.bool true) ∧ Mod none_ w w' := by
  have kL := Lib.hid (lives_ok w)
  have hlb := Lib.hid hb.len
  replace h := Lib.hid h
  replace hb := Lib.hid hb
  go_enter Tryz.func4, Tryz.ntmps4
  go_wp2_with fail
  refine kL.out.mono ?_
  rintro e w1 ⟨rfl, hm1⟩
  dsimp only
  have kF := Lib.hid (few_ok w1 A N c xs (Rd.mod0 h.out.rd hm1) (h.out.mem.mod0 hm1) h.out.ok hN)
  replace hm1 := Lib.hid hm1
  go_wp2_with fail
  refine kF.out.mono ?_
  rintro e w2 ⟨A2, m2, c2, rfl, ho2, hf2, hm2⟩
  dsimp only
  have hM2 := Lib.hid (hm1.out.trans hm2)
  have hY := Lib.hid (fewL_rs (h.out.mem.mod0 hM2.out) h.out.ok h.out.nums 20 ho2.rd)
  have hl2 : m2 ≤ 20 := by
    have h1 := ho2.len
    have h2 : (fewL xs 20).length ≤ 20 := by unfold fewL; simp; omega
    omega
  have hmc : m2 ≤ c2 := ho2.2.1
  generalize fewL xs 20 = ys at *
  have hw2 := Lib.hid (Rd.mod0 hb.out hM2.out : RdB w2 A' n' b)
  clear hm1 hm2 hf2 kF ho2
  go_wp2_with fail
  go_loopw [5] (fun y wr => ∃ j : Nat, y = .int .i64 j ∧ j ≤ m2 ∧ Mod none_ w2 wr) (fun y _ => m2 - (intOf y).toNat)
  case atStart => exact ⟨0, rfl, by omega, Mod.refl _ _⟩
  case round =>
    obtain ⟨j, rfl, hj, hm⟩ := hrel
    by_cases hlt : j < m2
    · obtain ⟨g, o, x, hA, hxm, hx, hrg⟩ := rdr_get (w := wr) (Rd.mod0 hY.out.rd hm) hlt
      subst hA
      have hEx := (hY.out.mem x hxm).mod0 hm
      obtain ⟨q1, q2, q3, q4⟩ := hY.out.ok x hxm
      have hnx := hY.out.nums x hxm
      have kB := Lib.hid (logBytes_ok wr x.r x.L x.D hEx q1 q2 q3 q4 hnx)
      have hxL := Lib.hid (fun W (hM : Mod none_ wr W) => RsL.one (rdR_range (rangeAt_mod hrg hM)) (hEx.mod0 hM) (hY.out.ok x hxm) hnx)
      unfold rsC at hrg
      clear q3 q4 hEx
      replace hm := Lib.hid hm
      replace hxm := Lib.hid hxm
      replace hx := Lib.hid hx
      replace hrg := Lib.hid hrg
      replace hnx := Lib.hid hnx
      go_wp2_with (refine wpList_load_mid rfl 37 (.tmp 27) rfl g (o + j * 17) rfl _ _ hrg.out Tryz.underlying37 rfl rc_size ?_)
      with_reducible refine kB.out.mono ?_
      rintro e w3 hpost
      rcases hpost with ⟨hr, A3, c3, rfl, ho3, hf3, hm3⟩ | ⟨hr, rfl, hm3⟩
      · dsimp only
        have hml : (recB x.r).length ≤ 100000000 := by have := recB_len (rightR_okRc hr hnx.out); omega
        have kRd := logRead_ok w3 A3 _ c3 (recB x.r) ho3.rd hml
        rw [rdRec_of hr hnx.out] at kRd
        have hM3 := Lib.hid hm3
        generalize (recB x.r).length = n3 at *
        clear ho3 hf3 hm3 hml kB
        replace kRd := Lib.hid kRd
        replace hr := Lib.hid hr
        go_wp2_with fail
        with_reducible refine kRd.out.mono ?_
        rintro e w4 ⟨m4, f4, L4, D4, he, rfl, hE4, hL4, hD4, hm4⟩
        simp only [Prod.mk.injEq] at he
        obtain ⟨hm4e, rfl⟩ := he
        have h0 : (((0 : Nat) : Int)) = 0 := rfl
        rw [h0]
        dsimp only
        have hM4 := Lib.hid (hM3.out.trans hm4)
        have hz4 := Lib.hid (Blk.new w4 37 #[.int .i64 0, .int .i64 0, .int .i64 0, .int .i64 0, .int .i64 0, .int .i64 0, .int .i64 0, .int .i64 0, .string ⟨#[]⟩, .string ⟨#[]⟩, .int .i64 0, .slice none 0 0, .int .i64 0, .int .i64 0, .string ⟨#[]⟩, .bool false, .slice none 0 0])
        have hk4 := Lib.hid (rdRec_ok (L := L4) (D := D4) (show rdRec (recB x.r) = (m4, 0) by rw [rdRec_of hr.out hnx.out, hm4e]) hE4)
        clear h0 hm4 kRd hM3 hL4 hD4
        replace hm4e := Lib.hid hm4e
        replace hE4 := Lib.hid hE4
        go_upto_region 10 with (refine wpList_store_blk rfl 37 (.tmp 8) (.tmp 37) rfl w4.heap.size 0 _ rfl rfl hz4.out (by simp) rc_size (by rfl) #[.int .i64 m4.i.r, .int .i64 m4.i.n, .int .i64 m4.bal, .int .i64 m4.st, .int .i64 m4.by_, .int .i64 m4.e.o.c, .int .i64 m4.e.o.s, .int .i64 m4.e.o.k, .string (txt m4.e.o.acct), .string (txt m4.e.o.peer), .int .i64 m4.e.o.sum, .slice L4.a L4.n L4.c, .int .i64 m4.e.o.per, .int .i64 m4.e.o.hold, .string (txt m4.e.o.note), .bool m4.e.none, .slice D4.a D4.n D4.c] rfl ?_; intro w5 hb5 hm5)
        have hm5' := ((Mod.refl none_ w4).alloc (.cells #[.int .i64 0, .int .i64 0, .int .i64 0, .int .i64 0, .int .i64 0, .int .i64 0, .int .i64 0, .int .i64 0, .string ⟨#[]⟩, .string ⟨#[]⟩, .int .i64 0, .slice none 0 0, .int .i64 0, .int .i64 0, .string ⟨#[]⟩, .bool false, .slice none 0 0] 37)).in_new (Nat.le_refl _) hm5
        have hM5 := Lib.hid ((hM4.out.trans hm5').drew)
        have hS5 : Blk w5.drew w4.heap.size 37 #[.int .i64 m4.i.r, .int .i64 m4.i.n, .int .i64 m4.bal, .int .i64 m4.st, .int .i64 m4.by_, .int .i64 m4.e.o.c, .int .i64 m4.e.o.s, .int .i64 m4.e.o.k, .string (txt m4.e.o.acct), .string (txt m4.e.o.peer), .int .i64 m4.e.o.sum, .slice L4.a L4.n L4.c, .int .i64 m4.e.o.per, .int .i64 m4.e.o.hold, .string (txt m4.e.o.note), .bool m4.e.none, .slice D4.a D4.n D4.c] := hb5.drew
        have hE5 := Lib.hid (hE4.out.mod0 hm5'.drew)
        have hne : ¬ c2 = j := by omega
        have hcl : j + 1 ≤ c2 := by omega
        have hcl2 : (j : Int) + 1 ≤ (c2 : Int) := by omega
        have hcl3 : 0 ≤ (j : Int) + 1 := by omega
        have hwr : IntKind.i64.wrap ((j : Int) + 1) = ((j + 1 : Nat) : Int) := by
          simp [IntKind.wrap, IntKind.bits, IntKind.signed]; omega
        have hcl4 : j + 1 - j = 1 := by omega
        clear hm5 hm5' hM4 hz4
        refine wp_region_held_drew (S := fun W => Blk W w4.heap.size 37 #[.int .i64 m4.i.r, .int .i64 m4.i.n, .int .i64 m4.bal, .int .i64 m4.st, .int .i64 m4.by_, .int .i64 m4.e.o.c, .int .i64 m4.e.o.s, .int .i64 m4.e.o.k, .string (txt m4.e.o.acct), .string (txt m4.e.o.peer), .int .i64 m4.e.o.sum, .slice L4.a L4.n L4.c, .int .i64 m4.e.o.per, .int .i64 m4.e.o.hold, .string (txt m4.e.o.note), .bool m4.e.none, .slice D4.a D4.n D4.c]) (by kernel_rfl) hS5 (fun hHeld => ?_)
        refine wpAnyH_take (i := 0) (v := ?_) rfl (by kernel_rfl) (by kernel_rfl) (by kernel_rfl) (fun _ _ _ h => h) (Or.inl ⟨by rfl, ?_⟩) (by assumption) ?_
        rotate_left
        · intro W hSw; (try dsimp only at hSw); go_simp; (try with_reducible rfl)
        try simp only [Act.put, List.getElem_toArray, List.getElem_cons_zero, List.getElem_cons_succ, List.setIfInBounds_toArray, List.set_cons_zero, List.set_cons_succ]
        refine wpAnyH_take (i := 1) (v := ?_) rfl (by kernel_rfl) (by kernel_rfl) (by kernel_rfl) (fun _ _ _ h => h) (Or.inl ⟨by rfl, ?_⟩) (by assumption) ?_
        rotate_left
        · intro W hSw; (try dsimp only at hSw); go_simp; (try with_reducible rfl)
        try simp only [Act.put, List.getElem_toArray, List.getElem_cons_zero, List.getElem_cons_succ, List.setIfInBounds_toArray, List.set_cons_zero, List.set_cons_succ]
        refine wpAnyH_take (i := 2) (v := ?_) rfl (by kernel_rfl) (by kernel_rfl) (by kernel_rfl) (fun _ _ _ h => h) (Or.inl ⟨by rfl, ?_⟩) (by assumption) ?_
        rotate_left
        · intro W hSw; (try dsimp only at hSw); go_simp; (try with_reducible rfl)
        try simp only [Act.put, List.getElem_toArray, List.getElem_cons_zero, List.getElem_cons_succ, List.setIfInBounds_toArray, List.set_cons_zero, List.set_cons_succ]
        refine wpAnyH_take (i := 3) rfl (by kernel_rfl) (by kernel_rfl) (by kernel_rfl) (fun _ _ _ h => h) (yieldsIf_load_mid (by rfl) 37 (.tmp 8) rfl w4.heap.size 0 rfl [.int .i64 m4.i.r, .int .i64 m4.i.n, .int .i64 m4.bal, .int .i64 m4.st, .int .i64 m4.by_, .int .i64 m4.e.o.c, .int .i64 m4.e.o.s, .int .i64 m4.e.o.k, .string (txt m4.e.o.acct), .string (txt m4.e.o.peer), .int .i64 m4.e.o.sum, .slice L4.a L4.n L4.c, .int .i64 m4.e.o.per, .int .i64 m4.e.o.hold, .string (txt m4.e.o.note), .bool m4.e.none, .slice D4.a D4.n D4.c] _ (fun W hW => Blk.range hW 0 _ rfl) Tryz.underlying37 rfl rc_size) (by assumption) ?_
        try simp only [Act.put, List.getElem_toArray, List.getElem_cons_zero, List.getElem_cons_succ, List.setIfInBounds_toArray, List.set_cons_zero, List.set_cons_succ]
        refine wpAnyH_take (i := 5) (v := ?_) rfl (by kernel_rfl) (by kernel_rfl) (by kernel_rfl) (fun _ _ _ h => h) (Or.inl ⟨by rfl, ?_⟩) (by assumption) ?_
        rotate_left
        · intro W hSw; (try dsimp only at hSw); go_simp; (try with_reducible rfl)
        try simp only [Act.put, List.getElem_toArray, List.getElem_cons_zero, List.getElem_cons_succ, List.setIfInBounds_toArray, List.set_cons_zero, List.set_cons_succ]
        refine wpAnyH_take (i := 6) (v := ?_) rfl (by kernel_rfl) (by kernel_rfl) (by kernel_rfl) (fun _ _ _ h => h) (Or.inl ⟨by rfl, ?_⟩) (by assumption) ?_
        rotate_left
        · intro W hSw; (try dsimp only at hSw); go_simp; (try with_reducible rfl)
        try simp only [Act.put, List.getElem_toArray, List.getElem_cons_zero, List.getElem_cons_succ, List.setIfInBounds_toArray, List.set_cons_zero, List.set_cons_succ]
        refine wpAnyH_take (i := 7) (v := ?_) rfl (by kernel_rfl) (by kernel_rfl) (by kernel_rfl) (fun _ _ _ h => h) (Or.inl ⟨by rfl, ?_⟩) (by assumption) ?_
        rotate_left
        · intro W hSw; (try dsimp only at hSw); go_simp; (try with_reducible rfl)
        try simp only [Act.put, List.getElem_toArray, List.getElem_cons_zero, List.getElem_cons_succ, List.setIfInBounds_toArray, List.set_cons_zero, List.set_cons_succ]
        refine wpAnyH_take (i := 8) (v := ?_) rfl (by kernel_rfl) (by kernel_rfl) (by kernel_rfl) (fun _ _ _ h => h) (Or.inl ⟨by rfl, ?_⟩) (by assumption) ?_
        rotate_left
        · intro W hSw; (try dsimp only at hSw); go_simp; (try with_reducible rfl)
        try simp only [Act.put, List.getElem_toArray, List.getElem_cons_zero, List.getElem_cons_succ, List.setIfInBounds_toArray, List.set_cons_zero, List.set_cons_succ]
        refine wpAnyH_take (i := 9) (v := ?_) rfl (by kernel_rfl) (by kernel_rfl) (by kernel_rfl) (fun _ _ _ h => h) (Or.inl ⟨by rfl, ?_⟩) (by assumption) ?_
        rotate_left
        · intro W hSw; (try dsimp only at hSw); go_simp; (try with_reducible rfl)
        try simp only [Act.put, List.getElem_toArray, List.getElem_cons_zero, List.getElem_cons_succ, List.setIfInBounds_toArray, List.set_cons_zero, List.set_cons_succ]
        refine wpAnyH_ready (rs := [4]) (by kernel_rfl) (by simp) ?_
        refine AllReadyH.cons rfl (fun K hK => ?_) AllReadyH.nil
        go_simp
        have hm6 := (Mod.refl none_ w5.drew).alloc (.cells #[.int .i64 m4.i.r, .int .i64 m4.i.n, .int .i64 m4.bal, .int .i64 m4.st, .int .i64 m4.by_, .int .i64 m4.e.o.c, .int .i64 m4.e.o.s, .int .i64 m4.e.o.k, .string (txt m4.e.o.acct), .string (txt m4.e.o.peer), .int .i64 m4.e.o.sum, .slice L4.a L4.n L4.c, .int .i64 m4.e.o.per, .int .i64 m4.e.o.hold, .string (txt m4.e.o.note), .bool m4.e.none, .slice D4.a D4.n D4.c] 37)
        have hS6 := hS5.alloc (.cells #[.int .i64 m4.i.r, .int .i64 m4.i.n, .int .i64 m4.bal, .int .i64 m4.st, .int .i64 m4.by_, .int .i64 m4.e.o.c, .int .i64 m4.e.o.s, .int .i64 m4.e.o.k, .string (txt m4.e.o.acct), .string (txt m4.e.o.peer), .int .i64 m4.e.o.sum, .slice L4.a L4.n L4.c, .int .i64 m4.e.o.per, .int .i64 m4.e.o.hold, .string (txt m4.e.o.note), .bool m4.e.none, .slice D4.a D4.n D4.c] 37)
        have hM6 := Lib.hid (hM5.out.trans hm6)
        have kS := Lib.hid (same15_eq (w5.drew.alloc (.cells #[.int .i64 m4.i.r, .int .i64 m4.i.n, .int .i64 m4.bal, .int .i64 m4.st, .int .i64 m4.by_, .int .i64 m4.e.o.c, .int .i64 m4.e.o.s, .int .i64 m4.e.o.k, .string (txt m4.e.o.acct), .string (txt m4.e.o.peer), .int .i64 m4.e.o.sum, .slice L4.a L4.n L4.c, .int .i64 m4.e.o.per, .int .i64 m4.e.o.hold, .string (txt m4.e.o.note), .bool m4.e.none, .slice D4.a D4.n D4.c] 37)) _ _ 1 1 1 (c2 - j) [⟨m4, L4, D4⟩] [x] (RsL.one (rdR_one w5.drew ⟨m4, L4, D4⟩) (hE5.out.mod0 hm6) hk4.out.1 hk4.out.2) (hxL.out _ hM6.out) (by simp [hm4e.out]) (by omega))
        clear hm6
        refine hK.out _ _ (hS6) (fun hHeld => ?_)
        clear hK K
        try simp only [Act.put, List.getElem_toArray, List.getElem_cons_zero, List.getElem_cons_succ, List.setIfInBounds_toArray, List.set_cons_zero, List.set_cons_succ]
        refine wpAnyH_ready (rs := [10]) (by kernel_rfl) (by simp) ?_
        refine AllReadyH.cons rfl (fun K hK => ?_) AllReadyH.nil
        go_simp
        refine kS.out.mono ?_
        rintro e w7 ⟨rfl, hm7⟩
        dsimp only
        have hS7 := hS6.mod hm7 (fun h => h)
        have hM7 := Lib.hid (hm.out.trans (hM6.out.trans hm7))
        clear hm7 hM6 hM5
        go_wp2_with fail
        refine hK.out _ _ (hS7) (fun hHeld => ?_)
        clear hK K
        try simp only [Act.put, List.getElem_toArray, List.getElem_cons_zero, List.getElem_cons_succ, List.setIfInBounds_toArray, List.set_cons_zero, List.set_cons_succ]
        refine wpAnyH_take (i := 11) (v := ?_) rfl (by kernel_rfl) (by kernel_rfl) (by kernel_rfl) (fun _ _ _ h => h) (Or.inl ⟨by rfl, ?_⟩) (by assumption) ?_
        rotate_left
        · intro W hSw; (try dsimp only at hSw); go_simp; (try with_reducible rfl)
        try simp only [Act.put, List.getElem_toArray, List.getElem_cons_zero, List.getElem_cons_succ, List.setIfInBounds_toArray, List.set_cons_zero, List.set_cons_succ]
        refine wpAnyH_take (i := 12) (v := ?_) rfl (by kernel_rfl) (by kernel_rfl) (by kernel_rfl) (fun _ _ _ h => h) (Or.inl ⟨by rfl, ?_⟩) (by assumption) ?_
        rotate_left
        · intro W hSw; (try dsimp only at hSw); go_simp; (try with_reducible rfl)
        try simp only [Act.put, List.getElem_toArray, List.getElem_cons_zero, List.getElem_cons_succ, List.setIfInBounds_toArray, List.set_cons_zero, List.set_cons_succ]
        refine wpAnyH_done (by kernel_rfl) ?_ _
        clear hHeld hS5 hS6 hS7
        go_wp2_with fail
        go_roundw
        case rel => exact ⟨j + 1, by go_num, by omega, hM7.out⟩
        case measure => simp [intOf]; omega
      · dsimp only
        have hM3 := Lib.hid (hm.out.trans hm3)
        clear hm3 kB
        replace hr := Lib.hid hr
        go_wp2_with fail
        go_roundw
        case rel => exact ⟨j + 1, by go_num, by omega, hM3.out⟩
        case measure => simp [intOf]; omega
    · obtain rfl : j = m2 := by omega
      obtain ⟨k, hkk⟩ : ∃ k, k = min n' 3000 := ⟨_, rfl⟩
      have hk1 : min (n' : Int) 3000 = (k : Int) := by omega
      have hk2 : (k : Int) ≤ (c' : Int) := by omega
      have hk3 : k ≤ n' := by omega
      have hk4 : k ≤ 3000 := by omega
      have hk5 : k ≤ c' := by omega
      have hrb := Lib.hid (rdb_take (Rd.mod0 hw2.out hm) hk3)
      have kRd := logRead_ok wr A' k c' (b.take k) hrb.out (by omega)
      replace hkk := Lib.hid hkk
      replace hm := Lib.hid hm
      obtain ⟨mm, f, hmf⟩ := duo_ (rdRec (b.take k))
      rw [hmf] at kRd
      replace kRd := Lib.hid kRd
      replace hmf := Lib.hid hmf
      go_wp2_with fail
      with_reducible refine kRd.out.mono ?_
      rintro e w4 ⟨m4, f4, L4, D4, he, rfl, hE4, _, _, hm4⟩
      simp only [Prod.mk.injEq] at he
      obtain ⟨rfl, rfl⟩ := he
      dsimp only
      have hM4 := Lib.hid (hM2.out.trans (hm.out.trans hm4))
      have hrb4 := Lib.hid (Rd.mod0 hrb.out hm4 : RdB w4 A' k (b.take k))
      have hz4 := Lib.hid (Blk.new w4 37 #[.int .i64 0, .int .i64 0, .int .i64 0, .int .i64 0, .int .i64 0, .int .i64 0, .int .i64 0, .int .i64 0, .string ⟨#[]⟩, .string ⟨#[]⟩, .int .i64 0, .slice none 0 0, .int .i64 0, .int .i64 0, .string ⟨#[]⟩, .bool false, .slice none 0 0])
      clear hm4 kRd
      replace hE4 := Lib.hid hE4
      by_cases hf : f = 0
      · subst hf
        obtain ⟨y1, y2, -⟩ := rdRec_yes hmf.out
        have h0 : (((0 : Nat) : Int)) = 0 := rfl
        rw [h0]
        clear h0
        obtain ⟨⟨v1, v2, v3, v4⟩, v5⟩ := rdRec_ok hmf.out hE4.out
        have kB := Lib.hid (fun W (h : Mod none_ w4 W) => logBytes_ok W mm L4 D4 (hE4.out.mod0 h) v1 v2 v3 v4 v5)
        rw [y1] at kB
        clear v1 v2 v3 v4 v5
        replace y2 := Lib.hid y2
        replace y1 := Lib.hid y1
        go_wp2_with (first
          | (refine wpList_store_blk rfl 37 (.tmp 10) (.tmp 60) rfl w4.heap.size 0 _ rfl rfl hz4.out (by simp) rc_size (by rfl) #[.int .i64 mm.i.r, .int .i64 mm.i.n, .int .i64 mm.bal, .int .i64 mm.st, .int .i64 mm.by_, .int .i64 mm.e.o.c, .int .i64 mm.e.o.s, .int .i64 mm.e.o.k, .string (txt mm.e.o.acct), .string (txt mm.e.o.peer), .int .i64 mm.e.o.sum, .slice L4.a L4.n L4.c, .int .i64 mm.e.o.per, .int .i64 mm.e.o.hold, .string (txt mm.e.o.note), .bool mm.e.none, .slice D4.a D4.n D4.c] rfl ?_; intro w5 hb5 hm5; have hm5' := Lib.hid (((Mod.refl none_ w4).alloc (.cells #[.int .i64 0, .int .i64 0, .int .i64 0, .int .i64 0, .int .i64 0, .int .i64 0, .int .i64 0, .int .i64 0, .string ⟨#[]⟩, .string ⟨#[]⟩, .int .i64 0, .slice none 0 0, .int .i64 0, .int .i64 0, .string ⟨#[]⟩, .bool false, .slice none 0 0] 37)).in_new (Nat.le_refl _) hm5); replace hb5 := Lib.hid hb5; clear hm5)
          | (refine wpList_load_row rfl 37 (.tmp 10) rfl w4.heap.size rfl _ _ _ _ hb5.out Tryz.underlying37 rfl rc_size ?_))
        with_reducible refine (kB.out _ hm5'.out).mono ?_
        rintro e w6 hpost
        obtain ⟨A6, c6, rfl, ho6, hf6, hm6⟩ : ∃ A c, e = .returned (.tuple #[.slice A (recB mm).length c, .int .i64 0]) ∧ OwB w6 5 A (recB mm).length c (recB mm) ∧ Fresh w5 A ∧ Mod none_ w5 w6 := by
          rcases hpost with ⟨_, h⟩ | ⟨h, _⟩
          · exact h
          · cases h
        dsimp only
        have hmm6 := Lib.hid (hm5'.out.trans hm6)
        have kS := same2_ok w6 A6 A' _ k c6 c' (recB mm) (b.take k) ho6.rd (Rd.mod0 hrb4.out hmm6.out)
        have hdd : decide (recB mm = b.take k) = true := decide_eq_true y2.out.symm
        rw [hdd] at kS
        generalize (recB mm).length = n6 at *
        clear hpost ho6 hf6 hm6 hdd kB
        replace kS := Lib.hid kS
        go_wp2_with fail
        with_reducible refine kS.out.mono ?_
        rintro e w7 ⟨rfl, hm7⟩
        dsimp only
        replace hm7 := Lib.hid hm7
        go_wp2_with fail
        go_ret
        exact ⟨rfl, hM4.out.trans (hmm6.out.trans hm7.out)⟩
      · have hf2 : ((f : Int) != 0) = true := by simp; omega
        have hz : mm = rc0 := by
          rcases rdRec_two (b.take k) with h1 | h1
          · rw [hmf.out] at h1; exact absurd h1 hf
          · rw [hmf.out] at h1; cases h1; rfl
        subst hz
        clear hf
        go_wp2_with (refine wpList_store_blk rfl 37 (.tmp 10) (.tmp 60) rfl w4.heap.size 0 _ rfl rfl hz4.out (by simp) rc_size (by rfl) #[.int .i64 rc0.i.r, .int .i64 rc0.i.n, .int .i64 rc0.bal, .int .i64 rc0.st, .int .i64 rc0.by_, .int .i64 rc0.e.o.c, .int .i64 rc0.e.o.s, .int .i64 rc0.e.o.k, .string (txt rc0.e.o.acct), .string (txt rc0.e.o.peer), .int .i64 rc0.e.o.sum, .slice L4.a L4.n L4.c, .int .i64 rc0.e.o.per, .int .i64 rc0.e.o.hold, .string (txt rc0.e.o.note), .bool rc0.e.none, .slice D4.a D4.n D4.c] rfl ?_; intro w5 hb5 hm5; have hm5' := ((Mod.refl none_ w4).alloc (.cells #[.int .i64 0, .int .i64 0, .int .i64 0, .int .i64 0, .int .i64 0, .int .i64 0, .int .i64 0, .int .i64 0, .string ⟨#[]⟩, .string ⟨#[]⟩, .int .i64 0, .slice none 0 0, .int .i64 0, .int .i64 0, .string ⟨#[]⟩, .bool false, .slice none 0 0] 37)).in_new (Nat.le_refl _) hm5; have hM5 := Lib.hid (hM4.out.trans hm5'); have s2 : w5.cell? ⟨w4.heap.size, 3, none⟩ = some (.int .i64 0) := hb5.cell_ rfl; have s3 : w5.cell? ⟨w4.heap.size, 1, none⟩ = some (.int .i64 0) := hb5.cell_ rfl; clear hm5 hm5' hb5)
        go_ret
        exact ⟨rfl, hM5.out⟩
end Go.Proofs.YtdnbclhidpkpgaaGreat
/-
  LogFull's walk. No condition.
-/
namespace Go.Proofs.YtdnbclhidpkpgaaGreat
set_option linter.unusedVariables false
set_option linter.unusedSimpArgs false
open Go.RowKit
theorem umod_lit (x : Int) (m : Nat) (h0 : 0 < m) (h1 : m ≤ 1000000) : ∃ k : Nat, k < m ∧ wrap64 ((IntKind.u64.wrap x).tmod (m : Int)) = (k : Int) ∧ (IntKind.u64.wrap x).tmod (m : Int) = (k : Int) := by
  have hx := (wrap_u64_lt x).1
  generalize IntKind.u64.wrap x = q at hx
  have e : q.tmod m = q % m := Int.tmod_eq_emod_of_nonneg hx
  have l1 := Int.emod_nonneg q (b := m) (by omega)
  have l2 := Int.emod_lt_of_pos q (b := m) (by omega)
  refine ⟨(q % m).toNat, by omega, ?_, ?_⟩
  · rw [e, IntWalk.wrap64_in _ ⟨by omega, by omega⟩]
    omega
  · rw [e]; omega
/-- a disk that is new since w, with its log -/
structure LgSt (w W : World) (p : Nat) (A : Option Addr) (c : Nat) (l : List UInt8) (s K : Nat) : Prop where
  dk : Dk W p A c ⟨l, s, K, false⟩
  mod : Mod none_ w W
  np : w.heap.size ≤ p
  na : ∀ k, fp A k → w.heap.size ≤ k
theorem LgSt.mod0 {w W W' : World} {p : Nat} {A : Option Addr} {c : Nat} {l : List UInt8} {s K : Nat} (h : LgSt w W p A c l s K) (hm : Mod none_ W W') : LgSt w W' p A c l s K := ⟨h.dk.mod0 hm, h.mod.trans hm, h.np, h.na⟩
theorem LgSt.step {w W W' : World} {p : Nat} {A A' : Option Addr} {c c' : Nat} {l l' : List UInt8} {s s' K : Nat} (h : LgSt w W p A c l s K) (hd : Dk W' p A' c' ⟨l', s', K, false⟩) (hn : Nw W A A') (hm : Mod (dkf p A) W W') : LgSt w W' p A' c' l' s' K :=
  ⟨hd, h.mod.then hm (fun i hi hk => by
    rcases hk with hk | hk
    · have := h.np; omega
    · have := h.na i hk; omega), h.np, fun k hk => by
    rcases hn with rfl | hn
    · exact h.na k hk
    · obtain ⟨a, ha, rfl⟩ := hk; exact Nat.le_trans h.mod.size (hn a ha)⟩
theorem logB_one (x : Rs) : (logB [x]).length = 6 + (recB x.r).length := by
  show ((frameOf (recB x.r)) ++ []).length = _
  rw [List.append_nil, frameOf_length]
theorem logB_snoc (zs : List Rs) (x : Rs) : logB (zs ++ [x]) = logB zs ++ logB [x] := by
  unfold logB recsB
  rw [List.map_append, List.flatMap_append]
theorem putR_no {l : List UInt8} {s r : Nat} {x : Rs} (h : RtR x = false) : putR l s r [x] = (1, l, s) := by
  unfold putR; rw [if_neg (by simp [h])]
theorem putR_yes {l : List UInt8} {s r : Nat} {x : Rs} (h : RtR x = true) (hf : l.length + (6 + (recB x.r).length) ≤ r) : ∃ s', putR l s r [x] = (0, l ++ logB [x], s') := by
  refine ⟨l.length + (logB [x]).length, ?_⟩
  unfold putR
  rw [if_pos (by simp [h]), if_neg (by simp), if_pos (by rw [logB_one]; exact hf)]
theorem putR_full {l : List UInt8} {s r : Nat} {x : Rs} (h : RtR x = true) (hf : ¬ l.length + (6 + (recB x.r).length) ≤ r) : putR l s r [x] = (5, l, s) := by
  unfold putR
  rw [if_pos (by simp [h]), if_neg (by simp), if_neg (by rw [logB_one]; exact hf)]
set_option maxRecDepth 100000 in
set_option maxHeartbeats 8000000 in
theorem logFull_walk (w : World) (A : Option Addr) (N c : Nat) (xs : List Rs) (h : RsL w A N xs) (hN : N ≤ 140737488355328) (r0 : Int) :
    Calls Tryz.prog 5 #[.slice A N c, .int .i64 r0] w fun e w' => e = .returned (.bool true) ∧ Mod none_ w w' := by
  obtain ⟨K, hK, u1, u2⟩ : ∃ K : Nat, K < 3000 ∧ wrap64 ((IntKind.u64.wrap r0).tmod 3000) = (K : Int) ∧ (IntKind.u64.wrap r0).tmod 3000 = (K : Int) := umod_lit r0 3000 (by omega) (by omega)
  have kL := Lib.hid (lives_ok w)
  replace h := Lib.hid h
  go_enter Tryz.func5, Tryz.ntmps5
  go_wp2_with fail
  refine kL.out.mono ?_
  rintro e w1 ⟨rfl, hm1⟩
  dsimp only
  have kF := Lib.hid (few_ok w1 A N c xs (Rd.mod0 h.out.rd hm1) (h.out.mem.mod0 hm1) h.out.ok hN)
  replace hm1 := Lib.hid hm1
  go_wp2_with fail
  refine kF.out.mono ?_
  rintro e w2 ⟨A2, m2, c2, rfl, ho2, hf2, hm2⟩
  dsimp only
  have hM2 := Lib.hid (hm1.out.trans hm2)
  have hY := Lib.hid (fewL_rs (h.out.mem.mod0 hM2.out) h.out.ok h.out.nums 20 ho2.rd)
  have hl2 : m2 ≤ 20 := by
    have h1 := ho2.len
    have h2 : (fewL xs 20).length ≤ 20 := by unfold fewL; simp; omega
    omega
  have hmc : m2 ≤ c2 := ho2.2.1
  generalize fewL xs 20 = ys at *
  clear hm1 hm2 hf2 kF ho2
  go_wp2_with fail
  with_reducible refine (disk_new (K : Int) w2).mono ?_
  rintro e w3 ⟨rfl, hd3, hm3⟩
  dsimp only
  have hr : (min (max (K : Int) 0) 65536).toNat = K := by omega
  rw [hr] at hd3
  clear hr
  have st3 : LgSt w2 w3 w2.heap.size none 0 (logB []) 0 K := ⟨hd3, hm3, Nat.le_refl _, fun k hk => by obtain ⟨a, ha, _⟩ := hk; cases ha⟩
  generalize hp : w2.heap.size = p at *
  clear hd3 hm3
  replace hp := Lib.hid hp
  replace st3 := Lib.hid st3
  go_wp2_with fail
  go_loopw [6, 7] (fun v y wr => ∃ (j : Nat) (zs : List Rs) (A : Option Addr) (c s : Nat), y = .int .i64 j ∧ j ≤ m2 ∧ v = .int .i64 (zs.length : Nat) ∧ zs.length ≤ j ∧ (∀ z ∈ zs, RtR z = true ∧ numsE z.r.e) ∧ LgSt w2 wr p A c (logB zs) s K) (fun _ y _ => m2 - (intOf y).toNat)
  case atStart => exact ⟨0, [], none, 0, 0, rfl, by omega, rfl, by simp, fun z hz => (List.not_mem_nil hz).elim, st3.out⟩
  case round =>
    obtain ⟨j, zs, A3, c3, s3, rfl, hj, rfl, hzj, hz, st⟩ := hrel
    by_cases hlt : j < m2
    · obtain ⟨g, o, x, hA, hxm, hx, hrg⟩ := rdr_get (w := wr) (Rd.mod0 hY.out.rd st.mod) hlt
      subst hA
      have kB := disk_bytes p A3 c3 wr _ st.dk
      dsimp only at kB
      obtain ⟨Lz, hLz⟩ : ∃ L, L = (logB zs).length := ⟨_, rfl⟩
      rw [← hLz] at kB
      have hLK : Lz ≤ K := by have := st.dk.2.2.2.1; rw [hLz]; exact this
      have hEx := (hY.out.mem x hxm).mod0 st.mod
      have hok := hY.out.ok x hxm
      have hnx := hY.out.nums x hxm
      have kX := Lib.hid (fun W (hM : Mod none_ wr W) => logBytes_ok W x.r x.L x.D (hEx.mod0 hM) hok.1 hok.2.1 hok.2.2.1 hok.2.2.2 hnx)
      have hxL := Lib.hid (fun W (hM : Mod none_ wr W) => RsL.one (rdR_range (rangeAt_mod hrg hM)) (hEx.mod0 hM) hok hnx)
      unfold rsC at hrg
      clear hEx hok
      replace kB := Lib.hid kB
      replace hxm := Lib.hid hxm
      replace hx := Lib.hid hx
      replace hrg := Lib.hid hrg
      replace hnx := Lib.hid hnx
      replace hz := Lib.hid hz
      replace st := Lib.hid st
      replace hLz := Lib.hid hLz
      go_wp2_with fail
      with_reducible refine kB.out.mono ?_
      rintro e w4 ⟨A4, c4, rfl, ho4, hf4, hm4⟩
      dsimp only
      have st4 := Lib.hid (st.out.mod0 hm4)
      have hrg4 := Lib.hid (rangeAt_mod hrg.out hm4)
      replace ho4 := Lib.hid ho4
      replace hf4 := Lib.hid hf4
      replace hm4 := Lib.hid hm4
      clear kB
      go_wp2_with (refine wpList_load_mid rfl 37 (.tmp 37) rfl g (o + j * 17) rfl _ _ hrg4.out Tryz.underlying37 rfl rc_size ?_)
      with_reducible refine (kX.out _ hm4.out).mono ?_
      rintro e w5 hpost
      have hm5 : Mod none_ w4 w5 := by rcases hpost with ⟨_, _, _, _, _, _, h⟩ | ⟨_, _, h⟩ <;> exact h
      have st5 := Lib.hid (st4.out.mod0 hm5)
      have hL5 := Lib.hid (hxL.out _ (hm4.out.trans hm5))
      have ho5 := Lib.hid (ho4.out.mod0 hm5)
      have hne : ¬ c2 = j := by omega
      have hcl2 : (j : Int) + 1 ≤ (c2 : Int) := by omega
      have kP := Lib.hid (put_ok w5 p A3 c3 (logB zs) s3 K st5.out.dk (some ⟨g, o + j * 17, none⟩) 1 (c2 - j) [x] hL5.out (by omega))
      have hapart : Hid (∀ k, fp A4 k → ¬ dkf p A3 k) := Lib.hid (fun k hk hd => by
        have h1 : wr.heap.size ≤ k := by obtain ⟨a, ha, rfl⟩ := hk; exact hf4.out a ha
        have h2 := st.out.dk.lt k hd
        omega)
      clear hL5 kX hxL
      cases hr : RtR x with
      | false =>
        obtain rfl : e = .returned (.tuple #[.slice none 0 0, .int .i64 1]) := by
          rcases hpost with ⟨h1, _⟩ | ⟨_, h1, _⟩
          · unfold RtR at hr; rw [hr] at h1; cases h1
          · exact h1
        dsimp only
        clear hpost hm5
        go_wp2_with fail
        refine kP.out.mono ?_
        rintro e w6 ⟨A6, c6, a6, l6, s6, rfl, he6, hd6, hn6, hm6⟩
        rw [putR_no hr] at he6
        simp only [Prod.mk.injEq] at he6
        obtain ⟨rfl, rfl, rfl⟩ := he6
        dsimp only
        have st6 := Lib.hid (st5.out.step hd6 hn6 hm6)
        have ho6 := Lib.hid (ho5.out.mod hm6 hapart.out)
        have kB2 := disk_bytes p A6 c6 w6 _ hd6
        dsimp only at kB2
        rw [← hLz.out] at kB2
        clear hd6 hn6 hm6 kP
        replace kB2 := Lib.hid kB2
        replace hr := Lib.hid hr
        go_wp2_with fail
        with_reducible refine kB2.out.mono ?_
        rintro e w7 ⟨A7, c7, rfl, ho7, _, hm7⟩
        dsimp only
        have st7 := Lib.hid (st6.out.mod0 hm7)
        have ho7w := Lib.hid (ho6.out.mod0 hm7)
        clear hm7 kB2
        replace ho7 := Lib.hid ho7
        go_wp2_with fail
        have kSm := same2_ok w7 A4 A7 Lz Lz c4 c7 (logB zs) (logB zs) (Ow.rd ho7w.out) (Ow.rd ho7.out)
        with_reducible refine kSm.mono ?_
        rintro e w8 ⟨rfl, hm8⟩
        dsimp only
        have st8 := Lib.hid (st7.out.mod0 hm8)
        clear hm8
        have hdd : decide (logB zs = logB zs) = true := decide_eq_true rfl
        rw [hdd]
        clear hdd
        go_wp2_with fail
        go_roundw
        case rel => exact ⟨j + 1, zs, A6, c6, s3, by go_num, by omega, rfl, by omega, hz.out, st8.out⟩
        case measure => simp [intOf]; omega
      | true =>
        have hn5l : (recB x.r).length ≤ 2600 := recB_len (rightR_okRc hr hnx.out)
        obtain ⟨A5, c5, rfl⟩ : ∃ A c, e = .returned (.tuple #[.slice A (recB x.r).length c, .int .i64 0]) := by
          rcases hpost with ⟨_, A, c, h1, _⟩ | ⟨h1, _⟩
          · exact ⟨A, c, h1⟩
          · unfold RtR at hr; rw [hr] at h1; cases h1
        dsimp only
        clear hpost hm5
        by_cases hfit : Lz + (6 + (recB x.r).length) ≤ K
        · obtain ⟨s', hps⟩ := putR_yes (l := logB zs) (s := s3) (r := K) hr (by rw [← hLz.out]; exact hfit)
          have hl7 : (logB zs ++ logB [x]).length = Lz + (6 + (recB x.r).length) := by rw [List.length_append, logB_one, ← hLz.out]
          obtain ⟨n5, hn5⟩ : ∃ n, n = (recB x.r).length := ⟨_, rfl⟩
          rw [← hn5] at hfit hl7 hn5l ⊢
          obtain ⟨L7, hL7⟩ : ∃ L, L = Lz + (6 + n5) := ⟨_, rfl⟩
          rw [← hL7] at hl7
          have hdec : decide ((Lz : Int) + ((n5 : Int) + 6) ≤ (K : Int)) = true := decide_eq_true (by omega)
          have hdec2 : ((L7 : Int) != (Lz : Int) + ((n5 : Int) + 6)) = false := by simp; omega
          replace hn5 := Lib.hid hn5
          replace hL7 := Lib.hid hL7
          go_wp2_with fail
          refine kP.out.mono ?_
          rintro e w6 ⟨A6, c6, a6, l6, s6, rfl, he6, hd6, hn6, hm6⟩
          rw [hps] at he6
          simp only [Prod.mk.injEq] at he6
          obtain ⟨rfl, rfl, rfl⟩ := he6
          dsimp only
          have st6 := Lib.hid (st5.out.step hd6 hn6 hm6)
          have kB2 := disk_bytes p A6 c6 w6 _ hd6
          dsimp only at kB2
          rw [hl7] at kB2
          clear hd6 hn6 hm6 kP hps hl7
          replace kB2 := Lib.hid kB2
          go_wp2_with fail
          with_reducible refine kB2.out.mono ?_
          rintro e w7 ⟨A7, c7, rfl, ho7, _, hm7⟩
          dsimp only
          have st7 := Lib.hid (st6.out.mod0 hm7)
          have hz7 : Hid (∀ z ∈ zs ++ [x], RtR z = true ∧ numsE z.r.e) := Lib.hid (fun z hzz => by
            rcases List.mem_append.1 hzz with hzz | hzz
            · exact hz.out z hzz
            · simp at hzz; subst hzz; exact ⟨hr, hnx.out⟩)
          clear hm7 kB2 ho7
          replace hr := Lib.hid hr
          go_wp2_with fail
          go_roundw
          case rel => exact ⟨j + 1, zs ++ [x], A6, c6, s', by go_num, by omega, by simp, by simp; omega, hz7.out, by rw [logB_snoc]; exact st7.out⟩
          case measure => simp [intOf]; omega
        · have hps := putR_full (l := logB zs) (s := s3) (r := K) hr (by rw [← hLz.out]; exact hfit)
          obtain ⟨n5, hn5⟩ : ∃ n, n = (recB x.r).length := ⟨_, rfl⟩
          rw [← hn5] at hfit hn5l ⊢
          have hdec : decide ((Lz : Int) + ((n5 : Int) + 6) ≤ (K : Int)) = false := decide_eq_false (by omega)
          replace hn5 := Lib.hid hn5
          go_wp2_with fail
          refine kP.out.mono ?_
          rintro e w6 ⟨A6, c6, a6, l6, s6, rfl, he6, hd6, hn6, hm6⟩
          rw [hps] at he6
          simp only [Prod.mk.injEq] at he6
          obtain ⟨rfl, rfl, rfl⟩ := he6
          dsimp only
          have st6 := Lib.hid (st5.out.step hd6 hn6 hm6)
          have ho6 := Lib.hid (ho5.out.mod hm6 hapart.out)
          have kB2 := disk_bytes p A6 c6 w6 _ hd6
          dsimp only at kB2
          rw [← hLz.out] at kB2
          clear hd6 hn6 hm6 kP hps
          replace kB2 := Lib.hid kB2
          replace hr := Lib.hid hr
          go_wp2_with fail
          with_reducible refine kB2.out.mono ?_
          rintro e w7 ⟨A7, c7, rfl, ho7, _, hm7⟩
          dsimp only
          have st7 := Lib.hid (st6.out.mod0 hm7)
          have ho7w := Lib.hid (ho6.out.mod0 hm7)
          clear hm7 kB2
          replace ho7 := Lib.hid ho7
          go_wp2_with fail
          have kSm := same2_ok w7 A4 A7 Lz Lz c4 c7 (logB zs) (logB zs) (Ow.rd ho7w.out) (Ow.rd ho7.out)
          with_reducible refine kSm.mono ?_
          rintro e w8 ⟨rfl, hm8⟩
          dsimp only
          have st8 := Lib.hid (st7.out.mod0 hm8)
          clear hm8
          have hdd : decide (logB zs = logB zs) = true := decide_eq_true rfl
          rw [hdd]
          clear hdd
          go_wp2_with fail
          go_roundw
          case rel => exact ⟨j + 1, zs, A6, c6, s3, by go_num, by omega, rfl, by omega, hz.out, st8.out⟩
          case measure => simp [intOf]; omega
    · obtain rfl : j = m2 := by omega
      obtain ⟨wf, rfl⟩ : ∃ wf, wf = wr := ⟨_, rfl⟩
      have hzr : ∀ z ∈ zs, RtR z = true := fun z h => (hz z h).1
      have hzn : ∀ z ∈ zs, numsE z.r.e := fun z h => (hz z h).2
      have kB := disk_bytes p A3 c3 wf _ st.dk
      dsimp only at kB
      obtain ⟨Lz, hLz⟩ : ∃ L, L = (logB zs).length := ⟨_, rfl⟩
      have hLK : Lz ≤ K := by have := st.dk.2.2.2.1; rw [hLz]; exact this
      have hsc := logScan_all zs hzr hzn
      rw [← hLz] at kB hsc
      replace kB := Lib.hid kB
      replace st := Lib.hid st
      replace hLz := Lib.hid hLz
      replace hz := Lib.hid hz
      replace hzr := Lib.hid hzr
      replace hzn := Lib.hid hzn
      go_wp2_with fail
      with_reducible refine kB.out.mono ?_
      rintro e w4 ⟨A4, c4, rfl, ho4, hf4, hm4⟩
      dsimp only
      have st4 := Lib.hid (st.out.mod0 hm4)
      have kS := logScan_ok w4 A4 Lz c4 (logB zs) (Ow.rd ho4) ho4.2.1 (by have := ho4.2.2.1; simpa [maxLen] using this) (by omega)
      unfold LScanPost at kS
      rw [hsc] at kS
      dsimp only at kS
      clear kB ho4 hf4 hm4 hsc
      replace kS := Lib.hid kS
      go_wp2_with fail
      with_reducible refine kS.out.mono ?_
      rintro e w5 ⟨A5, n5, c5, xs5, rfl, hN5, hx5, hm5⟩
      dsimp only
      have hn5 : n5 = zs.length := by have h1 := hN5.len; have h2 := congrArg List.length hx5; simp at h2; omega
      subst hn5
      have st5 := Lib.hid (st4.out.mod0 hm5)
      have kB2 := disk_bytes p A3 c3 w5 _ st5.out.dk
      dsimp only at kB2
      rw [← hLz.out] at kB2
      clear hN5 hx5 hm5 kS
      replace kB2 := Lib.hid kB2
      go_wp2_with fail
      with_reducible refine kB2.out.mono ?_
      rintro e w6 ⟨A6, c6, rfl, _, _, hm6⟩
      dsimp only
      have st6 := Lib.hid (st5.out.mod0 hm6)
      clear hm6 kB2
      go_wp2_with fail
      with_reducible refine (blank_ok _ 0 0).mono ?_
      rintro e w7 ⟨rfl, hm7⟩
      dsimp only
      have hone : RdR (w7.alloc (.cells #[.int .i64 0, .int .i64 1, .int .i64 0, .int .i64 0, .int .i64 0, .int .i64 0, .int .i64 0, .int .i64 0, .string ⟨#[]⟩, .string ⟨#[]⟩, .int .i64 0, .slice none 0 0, .int .i64 0, .int .i64 0, .string ⟨#[]⟩, .bool false, .slice none 0 0] 37)) (some ⟨w7.heap.size, 0, none⟩) 1 [bl 0 0] := rdR_one w7 (bl 0 0)
      have kD := put_down _ (.pointer none) (.inl rfl) (some ⟨w7.heap.size, 0, none⟩) 1 1 [bl 0 0] (RsL.one hone (bl_mem _ 0 0) (bl_ok 0 0) (bl_nums 0 0)) (by omega)
      rw [if_pos (by decide), if_neg (by simp)] at kD
      have hM7 := Lib.hid (hM2.out.trans ((st6.out.mod.trans hm7).alloc (.cells #[.int .i64 0, .int .i64 1, .int .i64 0, .int .i64 0, .int .i64 0, .int .i64 0, .int .i64 0, .int .i64 0, .string ⟨#[]⟩, .string ⟨#[]⟩, .int .i64 0, .slice none 0 0, .int .i64 0, .int .i64 0, .string ⟨#[]⟩, .bool false, .slice none 0 0] 37)))
      clear hone hm7
      replace kD := Lib.hid kD
      go_wp2_with fail
      refine kD.out.mono ?_
      rintro e w8 ⟨rfl, hm8⟩
      dsimp only
      replace hm8 := Lib.hid hm8
      go_wp2_with fail
      go_ret
      exact ⟨rfl, hM7.out.trans hm8.out⟩
end Go.Proofs.YtdnbclhidpkpgaaGreat
/-
  Opening an argument's reading: what lies in memory where a slice of numbers, of bytes, of structs came in. No condition.
-/
namespace Go.Proofs.YtdnbclhidpkpgaaGreat
set_option linter.unusedVariables false
set_option linter.unusedSimpArgs false
open Go.RowKit Go.ChangeShapes Go.WideShapes Go.Deep

theorem list_choice {α : Type} (p : Nat → α → Prop) : ∀ n, (∀ i, i < n → ∃ e, p i e) → ∃ es : List α, es.length = n ∧ ∀ i e, es[i]? = some e → p i e := by
  intro n
  induction n with
  | zero => intro _; exact ⟨[], rfl, fun i e h => by simp at h⟩
  | succ n ih =>
    intro h
    obtain ⟨es, hl, he⟩ := ih fun i hi => h i (by omega)
    obtain ⟨x, hx⟩ := h n (by omega)
    refine ⟨es ++ [x], by simp [hl], fun i e hi => ?_⟩
    by_cases hin : i < es.length
    · rw [List.getElem?_append_left hin] at hi
      exact he i e hi
    · rw [List.getElem?_append_right (by omega)] at hi
      have : i = es.length := by
        rcases Nat.lt_or_ge (i - es.length) 1 with h1 | h1
        · omega
        · rw [List.getElem?_eq_none (by simpa using h1)] at hi; cases hi
      subst this
      simp at hi
      subst hi
      rw [hl]; exact hx

theorem flat_range' {α : Type} (f : α → List Value) (css : Nat → List Value) : ∀ (es : List α) (s : Nat), (∀ i e, es[i]? = some e → css (s + i) = f e) → (List.range' s es.length).flatMap css = es.flatMap f := by
  intro es
  induction es with
  | nil => intro _ _; rfl
  | cons x es ih =>
    intro s h
    rw [List.length_cons, List.range'_succ, List.flatMap_cons, List.flatMap_cons, ih (s + 1) fun i e hi => by
      have := h (i + 1) e (by simpa using hi)
      rw [← this]; congr 1; omega]
    rw [← h 0 x (by simp)]
    rfl
theorem flat_range {α : Type} (f : α → List Value) (css : Nat → List Value) (es : List α) (h : ∀ i e, es[i]? = some e → css i = f e) : (List.range es.length).flatMap css = es.flatMap f := by
  rw [List.range_eq_range']
  exact flat_range' f css es 0 fun i e hi => by rw [Nat.zero_add]; exact h i e hi

section
variable {H : Type} {enc : TypeId × Value → H} {P : Program} {w : World} {held : Bool}

/-- What the form's own reach says of a datum. -/
def Wd (P : Program) (t : TypeId) (d : DataW H) : Prop := ∀ n ∈ d.weights P t, n ≤ 140737488351232
theorem wd_arg {ts : List TypeId} {ds : List (DataW H)} (h : (DataW.weightsEach P ts ds).all (· ≤ reachBytes) = true) {j : Nat} {t : TypeId} {d : DataW H} (ht : ts[j]? = some t) (hd : ds[j]? = some d) : Wd P t d := by
  intro n hn
  have := List.all_eq_true.1 h _ (DataW.weights_mem_each ht hd n hn)
  have e : reachBytes = 140737488351232 := by decide
  simpa [e] using this
theorem wd_each {ts : List TypeId} {ds : List (DataW H)} (h : ∀ n ∈ DataW.weightsEach P ts ds, n ≤ 140737488351232) {j : Nat} {t : TypeId} {d : DataW H} (ht : ts[j]? = some t) (hd : ds[j]? = some d) : Wd P t d :=
  fun n hn => h n (DataW.weights_mem_each ht hd n hn)
theorem weights_mem_all {e : TypeId} : ∀ {l : List (DataW H)} {d : DataW H}, d ∈ l → ∀ n ∈ d.weights P e, n ∈ DataW.weightsAll P e l := by
  intro l
  induction l with
  | nil => intro d h; cases h
  | cons x l ih =>
    intro d h n hn
    simp only [DataW.weightsAll, List.mem_append]
    rcases List.mem_cons.1 h with rfl | h
    · exact .inl hn
    · exact .inr (ih h n hn)
theorem wd_slice {t e : TypeId} {elems spare : List (DataW H)} (hu : P.underlying t = some (.slice e)) (h : Wd P t (.slice elems spare)) :
    (elems.length + spare.length) * P.bytesOf e ≤ 140737488351232 ∧ (∀ d ∈ elems, Wd P e d) := by
  refine ⟨h _ (by simp [DataW.weights, hu]), fun d hd n hn => h n ?_⟩
  simp only [DataW.weights, hu, List.mem_cons, List.mem_append]
  exact .inr (.inl (weights_mem_all hd n hn))
theorem wd_struct {t : TypeId} {fs : Array Field} {parts : List (DataW H)} (hu : P.underlying t = some (.struct fs)) (h : Wd P t (.agg parts)) {j : Nat} {f : Field} {d : DataW H} (hf : fs[j]? = some f) (hd : parts[j]? = some d) : Wd P f.type d := by
  refine wd_each (ts := fs.toList.map (·.type)) (ds := parts) (fun n hn => h n ?_) (j := j) (by simp [hf]) hd
  simp only [DataW.weights, hu]
  exact hn

/-- What is known of a slice that came in: its cells, its bounds, where it lies. -/
def Came (w : World) (size bytes : Nat) (A : Option Addr) (n c : Nat) (xs : List Value) : Prop :=
  Rd w size A n xs ∧ n ≤ c ∧ c ≤ 9223372036854775807 ∧ c * bytes ≤ 140737488351232 ∧ (0 < n → ∀ k, fp A k → k < w.heap.size)

/-- A slice of whatever elements. -/
theorem open_any {t e : TypeId} {fuel k : Nat} {cs : List Value} {x : DataW H × List MemPlace} (ht : P.underlying t = some (.slice e)) (hk : P.cellsOf e = k) (hk0 : 0 < k)
    (h : DataW.trod enc P w 0 (fun _ => true) held fuel t cs = some x) (hw : Wd P t x.1) :
    ∃ (A : Option Addr) (n c : Nat) (css : Nat → List Value) (D : Nat → DataW H), cs = [.slice A n c] ∧ Came w k (P.bytesOf e) A n c ((List.range n).flatMap css) ∧
      ∀ i, i < n → (css i).length = k ∧ Wd P e (D i) ∧ ∃ m pl, DataW.trod enc P w 0 (fun _ => true) held m e (css i) = some (D i, pl) := by
  rcases open_slice ht h with ⟨rfl, rfl⟩ | ⟨a, len, cap, m, n, D, Pl, rfl, hb, hl, hm, hmm, rfl, hi⟩
  · exact ⟨none, 0, 0, fun _ => [], fun _ => .nil, rfl, ⟨Rd.none_, Nat.le_refl _, by omega, by omega, fun h => absurd h (by omega)⟩, fun i hi => absurd hi (by omega)⟩
  · simp only [if_true] at hmm
    subst hmm
    have hw2 := wd_slice ht hw
    simp only [List.length_map, List.length_range] at hw2
    have hch : ∀ i, i < m → ∃ cs', w.cells? 0 (a.add (i * P.cellsOf e)) (P.cellsOf e) = some cs' ∧ DataW.trod enc P w 0 (fun _ => true) held n e cs' = some (D i, Pl i) := hi
    obtain ⟨cl, hcl, hcp⟩ := list_choice _ m hch
    have hget : ∀ i, i < m → ∃ cs', cl[i]? = some cs' := fun i hi => ⟨_, List.getElem?_eq_getElem (by omega)⟩
    have hcell : ∀ i, i < m → ∀ cs', cl[i]? = some cs' → cs'.length = k ∧ ∀ j u, cs'[j]? = some u → w.cell? (a.add (i * k + j)) = some u := by
      intro i hi cs' hc
      obtain ⟨h1, _⟩ := hcp i cs' hc
      obtain ⟨_, hlen, hat⟩ := World.cells?_some h1
      rw [hk] at hlen hat
      refine ⟨hlen, fun j u hu => ?_⟩
      have hj : j < k := by
        rcases Nat.lt_or_ge j cs'.length with h2 | h2
        · omega
        · rw [List.getElem?_eq_none h2] at hu; cases hu
      rw [← add_of_add, hat j hj, hu]
    refine ⟨some a, len, m, fun i => (cl[i]?).getD [], D, rfl, ⟨⟨?_, fun _ => ⟨a, rfl, ?_⟩⟩, hl, by simpa [maxLen] using hm, ?_, ?_⟩, ?_⟩
    · have : ∀ q, q ≤ m → ((List.range q).flatMap fun i => (cl[i]?).getD []).length = q * k := by
        intro q
        induction q with
        | zero => intro _; simp
        | succ q ih =>
          intro hq
          obtain ⟨cs', hc⟩ := hget q (by omega)
          rw [List.range_succ, List.flatMap_append, List.length_append, ih (by omega), List.flatMap_singleton, hc, Option.getD_some, (hcell q (by omega) cs' hc).1, Nat.succ_mul]
      exact this len hl
    · have hlq : ∀ q, q ≤ m → ((List.range q).flatMap fun i => (cl[i]?).getD []).length = q * k := by
        intro q
        induction q with
        | zero => intro _; simp
        | succ q ih =>
          intro hq
          obtain ⟨cs', hc⟩ := hget q (by omega)
          rw [List.range_succ, List.flatMap_append, List.length_append, ih (by omega), List.flatMap_singleton, hc, Option.getD_some, (hcell q (by omega) cs' hc).1, Nat.succ_mul]
      have : ∀ q, q ≤ m → ∀ j u, ((List.range q).flatMap fun i => (cl[i]?).getD [])[j]? = some u → w.cell? (a.add j) = some u := by
        intro q
        induction q with
        | zero => intro _ j u hu; simp at hu
        | succ q ih =>
          intro hq j u hu
          obtain ⟨cs', hc⟩ := hget q (by omega)
          have hlen := hlq q (by omega)
          rw [List.range_succ, List.flatMap_append, List.flatMap_singleton, hc, Option.getD_some] at hu
          rcases Nat.lt_or_ge j (q * k) with hj | hj
          · rw [List.getElem?_append_left (by omega)] at hu
            exact ih (by omega) j u hu
          · rw [List.getElem?_append_right (by omega), hlen] at hu
            have := (hcell q (by omega) cs' hc).2 _ u hu
            rwa [show q * k + (j - q * k) = j by omega] at this
      exact this len hl
    · have := hw2.1
      rwa [show len + (m - len) = m by omega] at this
    · rintro h0 b ⟨a', ha', rfl⟩
      cases ha'
      obtain ⟨cs', hc⟩ := hget 0 (by omega)
      obtain ⟨h1, h2⟩ := hcell 0 (by omega) cs' hc
      obtain ⟨u, hu⟩ : ∃ u, cs'[0]? = some u := ⟨_, List.getElem?_eq_getElem (by omega)⟩
      have := h2 0 u hu
      rw [Nat.zero_mul, Nat.zero_add, add_zero_] at this
      exact World.block_lt_of_cell? w _ this
    · intro i hi
      obtain ⟨cs', hc⟩ := hget i (by omega)
      simp only [hc, Option.getD_some]
      refine ⟨(hcell i (by omega) cs' hc).1, ?_, n, Pl i, (hcp i cs' hc).2⟩
      apply hw2.2
      simp only [List.mem_map, List.mem_range]
      exact ⟨i, hi, rfl⟩

/-- A slice of integers. -/
theorem open_nums {t e : TypeId} {kk : IntKind} {fuel : Nat} {cs : List Value} {x : DataW H × List MemPlace} (ht : P.underlying t = some (.slice e)) (he : P.underlying e = some (.int kk)) (hk : P.cellsOf e = 1)
    (h : DataW.trod enc P w 0 (fun _ => true) held fuel t cs = some x) (hw : Wd P t x.1) :
    ∃ (A : Option Addr) (n c : Nat) (zs : List Int), cs = [.slice A n c] ∧ Came w 1 (P.bytesOf e) A n c (zs.map (.int kk ·)) ∧ ∀ z ∈ zs, (Lit.int kk z).wf = true := by
  obtain ⟨A, n, c, css, D, rfl, hc, hi⟩ := open_any ht hk (by omega) h hw
  have hch : ∀ i, i < n → ∃ z : Int, css i = [.int kk z] ∧ (Lit.int kk z).wf = true := by
    intro i hin
    obtain ⟨_, _, m, pl, htr⟩ := hi i hin
    obtain ⟨z, hz, _, hwf⟩ := DataW.trod_int he htr
    exact ⟨z, hz, hwf⟩
  obtain ⟨zs, hl, hz⟩ := list_choice _ n hch
  refine ⟨A, n, c, zs, rfl, ?_, ?_⟩
  · have e1 : (List.range n).flatMap css = zs.map (.int kk ·) := by
      rw [← hl, flat_range (fun z => [Value.int kk z]) css zs fun i e hie => (hz i e hie).1]
      clear hz hl
      induction zs with
      | nil => rfl
      | cons z zs ih => simp [List.flatMap_cons, ih]
    rwa [e1] at hc
  · intro z hm
    obtain ⟨i, hi1, hi2⟩ := List.getElem_of_mem hm
    exact (hz i z (by rw [List.getElem?_eq_getElem hi1, hi2])).2

/-- Bytes. -/
theorem open_bytes {t e : TypeId} {fuel : Nat} {cs : List Value} {x : DataW H × List MemPlace} (ht : P.underlying t = some (.slice e)) (he : P.underlying e = some (.int .u8)) (hk : P.cellsOf e = 1)
    (h : DataW.trod enc P w 0 (fun _ => true) held fuel t cs = some x) (hw : Wd P t x.1) :
    ∃ (A : Option Addr) (n c : Nat) (l : List UInt8), cs = [.slice A n c] ∧ Came w 1 (P.bytesOf e) A n c (bvs l) := by
  obtain ⟨A, n, c, zs, rfl, hc, hz⟩ := open_nums ht he hk h hw
  refine ⟨A, n, c, zs.map fun z => UInt8.ofNat z.toNat, rfl, ?_⟩
  have e1 : bvs (zs.map fun z => UInt8.ofNat z.toNat) = zs.map (.int .u8 ·) := by
    simp only [bvs, List.map_map]
    apply List.map_congr_left
    intro z hm
    have hb : 0 ≤ z ∧ z ≤ 255 := by simpa [Lit.wf, IntKind.min, IntKind.max, IntKind.signed, IntKind.bits] using hz z hm
    have : ((UInt8.ofNat z.toNat).toNat : Int) = z := by
      rw [UInt8.toNat_ofNat']
      omega
    simp only [Function.comp, bv, this]
  rwa [e1]

/-- A struct of one-cell fields. -/
theorem open_fields {t : TypeId} {fs : Array Field} {fuel : Nat} {cs : List Value} {x : DataW H × List MemPlace} (he : P.underlying t = some (.struct fs)) (hone : oneCellFields P fs = true) (hC : P.cellsOf t = fs.size)
    (h : DataW.trod enc P w 0 (fun _ => true) held fuel t cs = some x) (hw : Wd P t x.1) :
    cs.length = fs.size ∧ ∀ (j : Nat) (f : Field), fs[j]? = some f → ∃ (v : Value) (m : Nat) (y : DataW H × List MemPlace), cs[j]? = some v ∧ DataW.trod enc P w 0 (fun _ => true) held m f.type [v] = some y ∧ Wd P f.type y.1 := by
  obtain ⟨ys, n', _, rfl, hlen, hyl, hf⟩ := DataW.trod_struct he h
  refine ⟨by rw [hlen, hC], fun j f hj => ?_⟩
  obtain ⟨ho, hk⟩ := hone_of hone j f hj
  have hjl : j < fs.size := (Array.getElem?_eq_some_iff.1 hj).1
  have hv : cs[j]? = some (cs[j]'(by omega)) := List.getElem?_eq_getElem (by omega)
  have h1 := hf j f hj
  rw [ho, hk] at h1
  have hone' : (cs.drop j).take 1 = [cs[j]'(by omega)] := by
    rw [List.drop_eq_getElem_cons (by omega)]
    rfl
  rw [hone'] at h1
  have hys : ys[j]? = some (ys[j]'(by omega)) := List.getElem?_eq_getElem (by omega)
  refine ⟨_, n', _, hv, h1.trans hys, wd_struct he hw hj ?_⟩
  rw [List.getElem?_map, hys]
  rfl
end
end Go.Proofs.YtdnbclhidpkpgaaGreat
/-
  How lists of records read as arguments.
-/
namespace Go.Proofs.YtdnbclhidpkpgaaGreat
set_option linter.unusedVariables false
set_option linter.unusedSimpArgs false
open Go.ChangeShapes Go.WideShapes Go.ChangeAt Go.RowKit Go.Deep
section
variable {P : Program} {H : Type} {enc : TypeId × Value → H} {w : World} {held : Bool}
theorem open_part {t : TypeId} {fs : Array Field} {fuel : Nat} {cs : List Value} {x : DataW H × List MemPlace} (he : P.underlying t = some (.struct fs))
    (h : DataW.trod enc P w 0 (fun _ => true) held fuel t cs = some x) (hw : Wd P t x.1) (j : Nat) (f : Field) (hj : fs[j]? = some f) :
    ∃ (m : Nat) (y : DataW H × List MemPlace), DataW.trod enc P w 0 (fun _ => true) held m f.type ((cs.drop f.offset).take (P.cellsOf f.type)) = some y ∧ Wd P f.type y.1 := by
  obtain ⟨ys, n', _, rfl, hlen, hyl, hf⟩ := DataW.trod_struct he h
  have hjl : j < fs.size := (Array.getElem?_eq_some_iff.1 hj).1
  have hys : ys[j]? = some (ys[j]'(by omega)) := List.getElem?_eq_getElem (by omega)
  have h1 := hf j f hj
  rw [hys] at h1
  exact ⟨n', _, h1, wd_struct he hw hj (by rw [List.getElem?_map, hys]; rfl)⟩
end
theorem one_at {l : List Value} {o : Nat} {v : Value} (h : (l.drop o).take 1 = [v]) : l[o]? = some v := by
  have := congrArg (·[0]?) h
  simpa [List.getElem?_take, List.getElem?_drop] using this
theorem sub_at {l : List Value} {a k o : Nat} {v : Value} (h : ((l.drop a).take k)[o]? = some v) : l[a + o]? = some v := by
  rw [List.getElem?_take] at h
  split at h
  · rwa [List.getElem?_drop] at h
  · cases h
theorem in64_wf {x : Int} (h : (Lit.int .i64 x).wf = true) : in64 x := by
  have : IntKind.i64.min ≤ x ∧ x ≤ IntKind.i64.max := by
    have h' : (decide (IntKind.i64.min ≤ x) && decide (x ≤ IntKind.i64.max)) = true := h
    simpa using h'
  have h1 : IntKind.i64.min = -9223372036854775808 := by decide
  have h2 : IntKind.i64.max = 9223372036854775807 := by decide
  rw [h1, h2] at this
  exact this
set_option maxRecDepth 100000 in
theorem open_legsM {H : Type} {enc : TypeId × Value → H} {w : World} {held : Bool} {fuel : Nat} {cs : List Value} {x : DataW H × List MemPlace}
    (h : DataW.trod enc Tryz.prog w 0 (fun _ => true) held fuel 28 cs = some x) (hw : Wd Tryz.prog 28 x.1) :
    ∃ (A : Option Addr) (n c : Nat) (os : List Lg), cs = [.slice A n c] ∧ RdL w A n os ∧ n ≤ c ∧ n ≤ 140737488351232 ∧ (∀ o ∈ os, ((txt o.n).size ≤ maxLen ∧ in64 o.x)) := by
  obtain ⟨A, n, c, css, D, rfl, hc, hi⟩ := open_any Tryz.underlying28 (by kernel_rfl : Tryz.prog.cellsOf 117 = 2) (by omega) h hw
  have hch : ∀ i, i < n → ∃ o : Lg, css i = [.string (txt o.n), .int .i64 o.x] ∧ ((txt o.n).size ≤ maxLen ∧ in64 o.x) := by
    intro i hin
    obtain ⟨hlen, hwd, m, pl, htr⟩ := hi i hin
    obtain ⟨h3, hf⟩ := open_fields Tryz.underlying117 (by kernel_rfl) (by kernel_rfl) htr hwd
    obtain ⟨v0, m0, y0, c0, t0, _⟩ := hf 0 _ rfl
    obtain ⟨v1, m1, y1, c1, t1, _⟩ := hf 1 _ rfl
    obtain ⟨s, e0, _, w0⟩ := DataW.trod_string Tryz.underlying9 t0
    obtain ⟨x1, e1, _, w1⟩ := DataW.trod_int Tryz.underlying2 t1
    simp only [List.cons.injEq, and_true] at e0 e1
    subst e0 e1
    refine ⟨⟨s.data.toList, x1⟩, ?_, w0, in64_wf w1⟩
    generalize css i = l at *
    match l, hlen, c0, c1 with
    | [a, b], _, c0, c1 =>
      simp at c0 c1
      subst c0 c1; rfl
  obtain ⟨os, hl, hz⟩ := list_choice _ n hch
  have e1 : (List.range n).flatMap css = lgs os := by
    unfold lgs
    rw [← hl, flat_range (fun o : Lg => [.string (txt o.n), .int .i64 o.x]) css os fun i e hie => (hz i e hie).1]
  rw [e1] at hc
  refine ⟨A, n, c, os, rfl, hc.1, hc.2.1, ?_, fun o ho => ?_⟩
  · have h4 := hc.2.2.2.1
    have h2 := hc.2.1
    have hb : 1 ≤ Tryz.prog.bytesOf 117 := by
      have : Tryz.prog.bytesOf 117 = 24 := by kernel_rfl
      omega
    have := Nat.mul_le_mul_left c hb
    omega
  · obtain ⟨i, hi1, hi2⟩ := List.getElem_of_mem ho
    exact (hz i o (by rw [List.getElem?_eq_getElem hi1, hi2])).2
set_option maxRecDepth 100000 in
theorem open_depsM {H : Type} {enc : TypeId × Value → H} {w : World} {held : Bool} {fuel : Nat} {cs : List Value} {x : DataW H × List MemPlace}
    (h : DataW.trod enc Tryz.prog w 0 (fun _ => true) held fuel 31 cs = some x) (hw : Wd Tryz.prog 31 x.1) :
    ∃ (A : Option Addr) (n c : Nat) (os : List Is), cs = [.slice A n c] ∧ RdP w A n os ∧ n ≤ c ∧ n ≤ 140737488351232 ∧ (∀ o ∈ os, (in64 o.r ∧ in64 o.n)) := by
  obtain ⟨A, n, c, css, D, rfl, hc, hi⟩ := open_any Tryz.underlying31 (by kernel_rfl : Tryz.prog.cellsOf 25 = 2) (by omega) h hw
  have hch : ∀ i, i < n → ∃ o : Is, css i = [.int .i64 o.r, .int .i64 o.n] ∧ (in64 o.r ∧ in64 o.n) := by
    intro i hin
    obtain ⟨hlen, hwd, m, pl, htr⟩ := hi i hin
    obtain ⟨h3, hf⟩ := open_fields Tryz.underlying25 (by kernel_rfl) (by kernel_rfl) htr hwd
    obtain ⟨v0, m0, y0, c0, t0, _⟩ := hf 0 _ rfl
    obtain ⟨v1, m1, y1, c1, t1, _⟩ := hf 1 _ rfl
    obtain ⟨x0, e0, _, w0⟩ := DataW.trod_int Tryz.underlying3 t0
    obtain ⟨x1, e1, _, w1⟩ := DataW.trod_int Tryz.underlying3 t1
    simp only [List.cons.injEq, and_true] at e0 e1
    subst e0 e1
    refine ⟨⟨x0, x1⟩, ?_, in64_wf w0, in64_wf w1⟩
    generalize css i = l at *
    match l, hlen, c0, c1 with
    | [a, b], _, c0, c1 =>
      simp at c0 c1
      subst c0 c1; rfl
  obtain ⟨os, hl, hz⟩ := list_choice _ n hch
  have e1 : (List.range n).flatMap css = iss os := by
    unfold iss
    rw [← hl, flat_range (fun o : Is => [.int .i64 o.r, .int .i64 o.n]) css os fun i e hie => (hz i e hie).1]
  rw [e1] at hc
  refine ⟨A, n, c, os, rfl, hc.1, hc.2.1, ?_, fun o ho => ?_⟩
  · have h4 := hc.2.2.2.1
    have h2 := hc.2.1
    have hb : 1 ≤ Tryz.prog.bytesOf 25 := by
      have : Tryz.prog.bytesOf 25 = 16 := by kernel_rfl
      omega
    have := Nat.mul_le_mul_left c hb
    omega
  · obtain ⟨i, hi1, hi2⟩ := List.getElem_of_mem ho
    exact (hz i o (by rw [List.getElem?_eq_getElem hi1, hi2])).2
theorem trod_cut {H : Type} {P : Program} {enc : TypeId × Value → H} {w : World} {held : Bool} {t : TypeId} {m o' k' o k : Nat} {cs : List Value} {y : DataW H × List MemPlace} (h : DataW.trod enc P w 0 (fun _ => true) held m t ((cs.drop o').take k') = some y) (ho : o' = o) (hk : k' = k) :
    DataW.trod enc P w 0 (fun _ => true) held m t ((cs.drop o).take k) = some y := by subst ho hk; exact h
def RsGood (w : World) (x : Rs) : Prop := EnM w x.r.e x.L x.D ∧ RsOk x ∧ numsE x.r.e ∧ inI x.r.i
set_option maxRecDepth 100000 in
set_option maxHeartbeats 4000000 in
theorem open_rec {H : Type} {enc : TypeId × Value → H} {w : World} {held : Bool} {fuel : Nat} {cs : List Value} {x : DataW H × List MemPlace}
    (h : DataW.trod enc Tryz.prog w 0 (fun _ => true) held fuel 37 cs = some x) (hw : Wd Tryz.prog 37 x.1) (hl : cs.length = 17) :
    ∃ m : Rs, cs = rsC m ∧ RsGood w m := by
  obtain ⟨min, yin, tin, win⟩ := open_part Tryz.underlying37 h hw 0 _ rfl
  replace tin := trod_cut tin (o := 0) (k := 2) (by kernel_rfl) (by kernel_rfl)
  obtain ⟨mir, yir, tir, wir⟩ := open_part Tryz.underlying25 tin win 0 _ rfl
  replace tir := trod_cut tir (o := 0) (k := 1) (by kernel_rfl) (by kernel_rfl)
  obtain ⟨xir, eir, _, fir⟩ := DataW.trod_int Tryz.underlying3 tir
  obtain ⟨mii, yii, tii, wii⟩ := open_part Tryz.underlying25 tin win 1 _ rfl
  replace tii := trod_cut tii (o := 1) (k := 1) (by kernel_rfl) (by kernel_rfl)
  obtain ⟨xii, eii, _, fii⟩ := DataW.trod_int Tryz.underlying3 tii
  obtain ⟨msl, ysl, tsl, wsl⟩ := open_part Tryz.underlying37 h hw 1 _ rfl
  replace tsl := trod_cut tsl (o := 2) (k := 15) (by kernel_rfl) (by kernel_rfl)
  obtain ⟨mbl, ybl, tbl, wbl⟩ := open_part Tryz.underlying35 tsl wsl 0 _ rfl
  replace tbl := trod_cut tbl (o := 0) (k := 1) (by kernel_rfl) (by kernel_rfl)
  obtain ⟨xbl, ebl, _, fbl⟩ := DataW.trod_int Tryz.underlying3 tbl
  obtain ⟨mst, yst, tst, wst⟩ := open_part Tryz.underlying35 tsl wsl 1 _ rfl
  replace tst := trod_cut tst (o := 1) (k := 1) (by kernel_rfl) (by kernel_rfl)
  obtain ⟨xst, est, _, fst⟩ := DataW.trod_int Tryz.underlying3 tst
  obtain ⟨mby, yby, tby, wby⟩ := open_part Tryz.underlying35 tsl wsl 2 _ rfl
  replace tby := trod_cut tby (o := 2) (k := 1) (by kernel_rfl) (by kernel_rfl)
  obtain ⟨xby, eby, _, fby⟩ := DataW.trod_int Tryz.underlying3 tby
  obtain ⟨men, yen, ten, wen⟩ := open_part Tryz.underlying35 tsl wsl 3 _ rfl
  replace ten := trod_cut ten (o := 3) (k := 12) (by kernel_rfl) (by kernel_rfl)
  obtain ⟨mod, yod, tod, wod⟩ := open_part Tryz.underlying33 ten wen 0 _ rfl
  replace tod := trod_cut tod (o := 0) (k := 10) (by kernel_rfl) (by kernel_rfl)
  obtain ⟨mid, yid, tid, wid⟩ := open_part Tryz.underlying30 tod wod 0 _ rfl
  replace tid := trod_cut tid (o := 0) (k := 2) (by kernel_rfl) (by kernel_rfl)
  obtain ⟨mic, yic, tic, wic⟩ := open_part Tryz.underlying27 tid wid 0 _ rfl
  replace tic := trod_cut tic (o := 0) (k := 1) (by kernel_rfl) (by kernel_rfl)
  obtain ⟨xic, eic, _, fic⟩ := DataW.trod_int Tryz.underlying3 tic
  obtain ⟨mis, yis, tis, wis⟩ := open_part Tryz.underlying27 tid wid 1 _ rfl
  replace tis := trod_cut tis (o := 1) (k := 1) (by kernel_rfl) (by kernel_rfl)
  obtain ⟨xis, eis, _, fis⟩ := DataW.trod_int Tryz.underlying3 tis
  obtain ⟨mok, yok, tok, wok⟩ := open_part Tryz.underlying30 tod wod 1 _ rfl
  replace tok := trod_cut tok (o := 2) (k := 1) (by kernel_rfl) (by kernel_rfl)
  obtain ⟨xok, eok, _, fok⟩ := DataW.trod_int Tryz.underlying3 tok
  obtain ⟨mac, yac, tac, wac⟩ := open_part Tryz.underlying30 tod wod 2 _ rfl
  replace tac := trod_cut tac (o := 3) (k := 1) (by kernel_rfl) (by kernel_rfl)
  obtain ⟨xac, eac, _, fac⟩ := DataW.trod_string Tryz.underlying9 tac
  obtain ⟨mpe, ype, tpe, wpe⟩ := open_part Tryz.underlying30 tod wod 3 _ rfl
  replace tpe := trod_cut tpe (o := 4) (k := 1) (by kernel_rfl) (by kernel_rfl)
  obtain ⟨xpe, epe, _, fpe⟩ := DataW.trod_string Tryz.underlying9 tpe
  obtain ⟨msu, ysu, tsu, wsu⟩ := open_part Tryz.underlying30 tod wod 4 _ rfl
  replace tsu := trod_cut tsu (o := 5) (k := 1) (by kernel_rfl) (by kernel_rfl)
  obtain ⟨xsu, esu, _, fsu⟩ := DataW.trod_int Tryz.underlying2 tsu
  obtain ⟨mlg, ylg, tlg, wlg⟩ := open_part Tryz.underlying30 tod wod 5 _ rfl
  replace tlg := trod_cut tlg (o := 6) (k := 1) (by kernel_rfl) (by kernel_rfl)
  obtain ⟨LA, Ln, Lc, xlg, elg, rL, cL, bL, oL⟩ := open_legsM tlg wlg
  obtain ⟨mpr, ypr, tpr, wpr⟩ := open_part Tryz.underlying30 tod wod 6 _ rfl
  replace tpr := trod_cut tpr (o := 7) (k := 1) (by kernel_rfl) (by kernel_rfl)
  obtain ⟨xpr, epr, _, fpr⟩ := DataW.trod_int Tryz.underlying3 tpr
  obtain ⟨mho, yho, tho, who⟩ := open_part Tryz.underlying30 tod wod 7 _ rfl
  replace tho := trod_cut tho (o := 8) (k := 1) (by kernel_rfl) (by kernel_rfl)
  obtain ⟨xho, eho, _, fho⟩ := DataW.trod_int Tryz.underlying3 tho
  obtain ⟨mno, yno, tno, wno⟩ := open_part Tryz.underlying30 tod wod 8 _ rfl
  replace tno := trod_cut tno (o := 9) (k := 1) (by kernel_rfl) (by kernel_rfl)
  obtain ⟨xno, eno, _, fno⟩ := DataW.trod_string Tryz.underlying9 tno
  obtain ⟨mnn, ynn, tnn, wnn⟩ := open_part Tryz.underlying33 ten wen 1 _ rfl
  replace tnn := trod_cut tnn (o := 10) (k := 1) (by kernel_rfl) (by kernel_rfl)
  obtain ⟨xnn, enn, _⟩ := DataW.trod_bool Tryz.underlying4 tnn
  obtain ⟨mdp, ydp, tdp, wdp⟩ := open_part Tryz.underlying33 ten wen 2 _ rfl
  replace tdp := trod_cut tdp (o := 11) (k := 1) (by kernel_rfl) (by kernel_rfl)
  obtain ⟨DA, Dn, Dc, xdp, edp, rD, cD, bD, oD⟩ := open_depsM tdp wdp
  refine ⟨⟨⟨⟨xir, xii⟩, xbl, xst, xby, ⟨⟨xic, xis, xok, xac.data.toList, xpe.data.toList, xsu, xlg, xpr, xho, xno.data.toList⟩, xnn, xdp⟩⟩, ⟨LA, Ln, Lc⟩, ⟨DA, Dn, Dc⟩⟩, ?_, ⟨⟨rL, cL⟩, rD, cD⟩, ⟨by dsimp only; omega, by dsimp only; omega, fok, fun l hl => (oL l hl).1⟩, ⟨in64_wf fsu, fun l hl => (oL l hl).2⟩, fir, fii⟩
  apply List.ext_getElem?
  intro i
  match i with
  | 0 => exact sub_at (one_at eir)
  | 1 => exact sub_at (one_at eii)
  | 2 => exact sub_at (one_at ebl)
  | 3 => exact sub_at (one_at est)
  | 4 => exact sub_at (one_at eby)
  | 5 => exact sub_at (sub_at (sub_at (sub_at (one_at eic))))
  | 6 => exact sub_at (sub_at (sub_at (sub_at (one_at eis))))
  | 7 => exact sub_at (sub_at (sub_at (one_at eok)))
  | 8 => exact sub_at (sub_at (sub_at (one_at eac)))
  | 9 => exact sub_at (sub_at (sub_at (one_at epe)))
  | 10 => exact sub_at (sub_at (sub_at (one_at esu)))
  | 11 => exact sub_at (sub_at (sub_at (one_at elg)))
  | 12 => exact sub_at (sub_at (sub_at (one_at epr)))
  | 13 => exact sub_at (sub_at (sub_at (one_at eho)))
  | 14 => exact sub_at (sub_at (sub_at (one_at eno)))
  | 15 => exact sub_at (sub_at (one_at enn))
  | 16 => exact sub_at (sub_at (one_at edp))
  | n + 17 => rw [List.getElem?_eq_none (by omega)]; rfl
set_option maxRecDepth 100000 in
theorem open_recs {H : Type} {enc : TypeId × Value → H} {w : World} {held : Bool} {fuel : Nat} {cs : List Value} {x : DataW H × List MemPlace}
    (h : DataW.trod enc Tryz.prog w 0 (fun _ => true) held fuel 41 cs = some x) (hw : Wd Tryz.prog 41 x.1) :
    ∃ (A : Option Addr) (n c : Nat) (os : List Rs), cs = [.slice A n c] ∧ RdR w A n os ∧ n ≤ c ∧ n ≤ 140737488351232 ∧ (∀ o ∈ os, RsGood w o) := by
  obtain ⟨A, n, c, css, D, rfl, hc, hi⟩ := open_any Tryz.underlying41 (by kernel_rfl : Tryz.prog.cellsOf 37 = 17) (by omega) h hw
  have hch : ∀ i, i < n → ∃ o : Rs, css i = rsC o ∧ RsGood w o := by
    intro i hin
    obtain ⟨hlen, hwd, m, pl, htr⟩ := hi i hin
    exact open_rec htr hwd hlen
  obtain ⟨os, hl, hz⟩ := list_choice _ n hch
  have e1 : (List.range n).flatMap css = rss os := by
    unfold rss
    rw [← hl, flat_range rsC css os fun i e hie => (hz i e hie).1]
  rw [e1] at hc
  refine ⟨A, n, c, os, rfl, hc.1, hc.2.1, ?_, fun o ho => ?_⟩
  · have h4 := hc.2.2.2.1
    have h2 := hc.2.1
    have hb : 1 ≤ Tryz.prog.bytesOf 37 := by
      have : Tryz.prog.bytesOf 37 = 192 := by kernel_rfl
      omega
    have := Nat.mul_le_mul_left c hb
    omega
  · obtain ⟨i, hi1, hi2⟩ := List.getElem_of_mem ho
    exact (hz i o (by rw [List.getElem?_eq_getElem hi1, hi2])).2
end Go.Proofs.YtdnbclhidpkpgaaGreat
/-
  LogFull: for every input the law returns true, and each argument reads as it did. No condition.
-/
namespace Go.Proofs.YtdnbclhidpkpgaaGreat.lawFull
open Go.ChangeShapes Go.WideShapes Go.ChangeAt Go.RowKit Go.Deep
open Go.ChangeMaps (open_string shut_string)
set_option linter.unusedVariables false

set_option maxRecDepth 100000 in
theorem lifted (os : Os) (started : os.Started) (H : Type) (enc : TypeId × Value → H) :
    ReturnsInHanded {} Tryz.checked os 5 .any (Rows.logFullSpec.pre6 enc Tryz.prog Tryz.f5 Rows.logFullRow.domain false) (Rows.logFullSpec.post enc Tryz.prog Tryz.f5 false true false false) := by
  refine returnsInHanded_of_change_sized (C := Tryz.checked) (by kernel_rfl) started (by kernel_rfl) Tryz.func5
    (ChangeSpec.witness6 (enc := enc) (C := Tryz.checked) false ⟨#[], #[.slice none 0 0, .int .i64 0], []⟩ 8 (by kernel_rfl) (by kernel_rfl) (by kernel_rfl) (by kernel_rfl)) ?_
  intro W base args ds gs before hval0 hW hcnd hsz _
  have hval : ∀ (j : Nat) t v, Tryz.f5.params[j]? = some t → args[j]? = some v → Value.okWide Tryz.prog W .any base t v := hval0
  have hW' := hW
  obtain ⟨p, q, hA0, hV, rfl, hfz, hnd⟩ := hW
  have hA : DataW.TrodAll enc Tryz.prog W 0 (fun _ => true) true Tryz.f5.params.toList args.toList ds p := hA0
  rw [Tryz.params5] at hA hval
  have laidOut : laidOutB Tryz.prog = true := by kernel_rfl
  obtain ⟨v0, vs0, d0, ds0, p0, q0, hargs, rfl, rfl, h0, r0⟩ := trodAll_cons hA
  obtain ⟨v1, vs1, d1, ds1, p1, q1, rfl, rfl, rfl, h1, r1⟩ := trodAll_cons r0
  obtain ⟨rfl, rfl, rfl⟩ := trodAll_nil r1
  obtain rfl : args = #[v0, v1] := by cases args; simp_all
  obtain ⟨rfl, rfl⟩ := trodVars_none hV
  have k0 := h0
  have lt0 : ∀ x ∈ p0, x.block < W.heap.size := by obtain ⟨m, hm⟩ := k0; exact DataW.trod_lt m _ _ _ hm
  have w0 : Wd Tryz.prog 41 d0 := wd_arg hsz (j := 0) rfl rfl
  have k1 := h1
  have lt1 : ∀ x ∈ p1, x.block < W.heap.size := by obtain ⟨m, hm⟩ := k1; exact DataW.trod_lt m _ _ _ hm
  have w1 : Wd Tryz.prog 3 d1 := wd_arg hsz (j := 1) rfl rfl
  obtain ⟨fuel0, f0⟩ := h0
  obtain ⟨A0, n0, c0, os0, hcs0, rd0, nc0, nb0, ok0⟩ := open_recs f0 w0
  obtain ⟨a_, n_, c_, rfl⟩ := okWide_slice Tryz.underlying41 (hval 0 41 v0 rfl rfl)
  simp only [Value.cells, List.cons.injEq, and_true] at hcs0
  obtain ⟨rfl, rfl, rfl⟩ : A0 = a_ ∧ n0 = n_ ∧ c0 = c_ := by injection hcs0 with x1 x2 x3; exact ⟨x1.symm, x2.symm, x3.symm⟩
  obtain ⟨a1, rfl, rfl, rfl, wf1⟩ := open_int Tryz.underlying3 (hval 1 3 v1 rfl rfl) h1
  clear hA0 hval0
  refine ((logFull_walk W A0 n0 c0 os0 ⟨rd0, fun x hx => (ok0 x hx).1, fun x hx => (ok0 x hx).2.1, fun x hx => (ok0 x hx).2.2.1⟩ (by omega) a1).mono (fun e w' h => (⟨h.1, h.2.below0⟩ : _ ∧ _))).mono fun e W' ⟨he, bel⟩ => ?_
  subst he
  exact ⟨_, rfl, _, _, _, [], _, [], hW', trodAll_mk1 (shut_bool Tryz.underlying4 _), (trodAll_cons_mk (Below.trod laidOut (by kernel_rfl) (of_decide_eq_true (by kernel_rfl)) k0 bel lt0) (trodAll_cons_mk (Below.trod laidOut (by kernel_rfl) (of_decide_eq_true (by kernel_rfl)) k1 bel lt1) trodAll_mk0)), rfl, bel.frame _, fun h => by cases h⟩

theorem over : Rows.logFullRow.holds Tryz.pinned (OpenSpec.ofChange Rows.logFullSpec) :=
  OpenClaim.holds_of_wide 5 Tryz.f5 rfl rfl rfl rfl rfl rfl rfl ⟨rfl, rfl, rfl, rfl, rfl⟩ rfl rfl rfl rfl rfl (by kernel_rfl) Tryz.func5 (by kernel_rfl)
    (of_decide_eq_true (by kernel_rfl)) (by unfold Func.isWrapper; first | (rw [if_pos (by decide +kernel)]; kernel_rfl) | (rw [if_neg (by decide +kernel)]; exact ⟨rfl, rfl⟩))
    (fun os started H enc _ => lifted os started H enc)

theorem proved : Rows.LogFullSaid := over
end Go.Proofs.YtdnbclhidpkpgaaGreat.lawFull
