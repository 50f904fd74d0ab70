import Derived.Test.YtdnbclhidpkpgaaGreatYp13
/-
  LogBack's walk. No condition.
-/
namespace Go.Proofs.YtdnbclhidpkpgaaGreat
set_option linter.unusedVariables false
set_option linter.unusedSimpArgs false
open Go.RowKit
theorem rdR_range {w : World} {g o : Nat} {x : Rs} (h : w.rangeAt g o (rsC x)) : RdR w (some ⟨g, o, none⟩) 1 [x] := by
  unfold RdR rss
  refine ⟨by simp [rsC], fun _ => ⟨_, rfl, fun k u hk => ?_⟩⟩
  rw [Addr.add_mid]
  exact h k u (by simpa using hk)
theorem RsL.one {w : World} {A : Option Addr} {x : Rs} (h : RdR w A 1 [x]) (hE : EnM w x.r.e x.L x.D) (hk : RsOk x) (hn : numsE x.r.e) : RsL w A 1 [x] :=
  ⟨h, fun y hy => by simp at hy; subst hy; exact hE, fun y hy => by simp at hy; subst hy; exact hk, fun y hy => by simp at hy; subst hy; exact hn⟩
theorem fewL_mem {xs : List Rs} {n : Nat} {y : Rs} (h : y ∈ fewL xs n) : ∃ x ∈ xs, y = cutR x := by
  unfold fewL at h
  rw [List.mem_map] at h
  obtain ⟨x, hx, rfl⟩ := h
  exact ⟨x, List.mem_of_mem_take hx, rfl⟩
theorem fewL_rs {w : World} {xs : List Rs} (hE : RsM w xs) (hk : ∀ x ∈ xs, RsOk x) (hn : ∀ x ∈ xs, numsE x.r.e) {A : Option Addr} {m : Nat} (n : Nat) (hr : RdR w A m (fewL xs n)) : RsL w A m (fewL xs n) :=
  ⟨hr, fun y hy => by obtain ⟨x, hx, rfl⟩ := fewL_mem hy; exact cut_mem (hE x hx), fun y hy => by obtain ⟨x, hx, rfl⟩ := fewL_mem hy; exact cut_ok (hk x hx),
   fun y hy => by obtain ⟨x, hx, rfl⟩ := fewL_mem hy; exact ⟨(hn x hx).1, fun l hl => (hn x hx).2 l (List.mem_of_mem_take hl)⟩⟩
set_option maxRecDepth 100000 in
set_option maxHeartbeats 8000000 in
theorem logBack_walk (w : World) (A : Option Addr) (N c : Nat) (xs : List Rs) (h : RsL w A N xs) (hN : N ≤ 140737488355328)
    (A' : Option Addr) (n' c' : Nat) (b : List UInt8) (hb : RdB w A' n' b) (hn' : n' ≤ 140737488355328) (hc' : n' ≤ c') :
    Calls Tryz.prog 4 #[.slice A N c, .slice A' n' c'] w fun e w' => e = .returned (.bool true) ∧ Mod none_ w w' := by
  have kL := Lib.hid (lives_ok w)
  have hlb := Lib.hid hb.len
  replace h := Lib.hid h
  replace hb := Lib.hid hb
  go_enter Tryz.func4, Tryz.ntmps4
  go_wp2_with fail
  refine kL.out.mono ?_
  rintro e w1 ⟨rfl, hm1⟩
  dsimp only
  have kF := Lib.hid (few_ok w1 A N c xs (Rd.mod0 h.out.rd hm1) (h.out.mem.mod0 hm1) h.out.ok hN)
  replace hm1 := Lib.hid hm1
  go_wp2_with fail
  refine kF.out.mono ?_
  rintro e w2 ⟨A2, m2, c2, rfl, ho2, hf2, hm2⟩
  dsimp only
  have hM2 := Lib.hid (hm1.out.trans hm2)
  have hY := Lib.hid (fewL_rs (h.out.mem.mod0 hM2.out) h.out.ok h.out.nums 20 ho2.rd)
  have hl2 : m2 ≤ 20 := by
    have h1 := ho2.len
    have h2 : (fewL xs 20).length ≤ 20 := by unfold fewL; simp; omega
    omega
  have hmc : m2 ≤ c2 := ho2.2.1
  generalize fewL xs 20 = ys at *
  have hw2 := Lib.hid (Rd.mod0 hb.out hM2.out : RdB w2 A' n' b)
  clear hm1 hm2 hf2 kF ho2
  go_wp2_with fail
  go_loopw [5] (fun y wr => ∃ j : Nat, y = .int .i64 j ∧ j ≤ m2 ∧ Mod none_ w2 wr) (fun y _ => m2 - (intOf y).toNat)
  case atStart => exact ⟨0, rfl, by omega, Mod.refl _ _⟩
  case round =>
    obtain ⟨j, rfl, hj, hm⟩ := hrel
    by_cases hlt : j < m2
    · obtain ⟨g, o, x, hA, hxm, hx, hrg⟩ := rdr_get (w := wr) (Rd.mod0 hY.out.rd hm) hlt
      subst hA
      have hEx := (hY.out.mem x hxm).mod0 hm
      obtain ⟨q1, q2, q3, q4⟩ := hY.out.ok x hxm
      have hnx := hY.out.nums x hxm
      have kB := Lib.hid (logBytes_ok wr x.r x.L x.D hEx q1 q2 q3 q4 hnx)
      have hxL := Lib.hid (fun W (hM : Mod none_ wr W) => RsL.one (rdR_range (rangeAt_mod hrg hM)) (hEx.mod0 hM) (hY.out.ok x hxm) hnx)
      unfold rsC at hrg
      clear q3 q4 hEx
      replace hm := Lib.hid hm
      replace hxm := Lib.hid hxm
      replace hx := Lib.hid hx
      replace hrg := Lib.hid hrg
      replace hnx := Lib.hid hnx
      go_wp2_with (refine wpList_load_mid rfl 37 (.tmp 27) rfl g (o + j * 17) rfl _ _ hrg.out Tryz.underlying37 rfl rc_size ?_)
      with_reducible refine kB.out.mono ?_
      rintro e w3 hpost
      rcases hpost with ⟨hr, A3, c3, rfl, ho3, hf3, hm3⟩ | ⟨hr, rfl, hm3⟩
      · dsimp only
        have hml : (recB x.r).length ≤ 100000000 := by have := recB_len (rightR_okRc hr hnx.out); omega
        have kRd := logRead_ok w3 A3 _ c3 (recB x.r) ho3.rd hml
        rw [rdRec_of hr hnx.out] at kRd
        have hM3 := Lib.hid hm3
        generalize (recB x.r).length = n3 at *
        clear ho3 hf3 hm3 hml kB
        replace kRd := Lib.hid kRd
        replace hr := Lib.hid hr
        go_wp2_with fail
        with_reducible refine kRd.out.mono ?_
        rintro e w4 ⟨m4, f4, L4, D4, he, rfl, hE4, hL4, hD4, hm4⟩
        simp only [Prod.mk.injEq] at he
        obtain ⟨hm4e, rfl⟩ := he
        have h0 : (((0 : Nat) : Int)) = 0 := rfl
        rw [h0]
        dsimp only
        have hM4 := Lib.hid (hM3.out.trans hm4)
        have hz4 := Lib.hid (Blk.new w4 37 #[.int .i64 0, .int .i64 0, .int .i64 0, .int .i64 0, .int .i64 0, .int .i64 0, .int .i64 0, .int .i64 0, .string ⟨#[]⟩, .string ⟨#[]⟩, .int .i64 0, .slice none 0 0, .int .i64 0, .int .i64 0, .string ⟨#[]⟩, .bool false, .slice none 0 0])
        have hk4 := Lib.hid (rdRec_ok (L := L4) (D := D4) (show rdRec (recB x.r) = (m4, 0) by rw [rdRec_of hr.out hnx.out, hm4e]) hE4)
        clear h0 hm4 kRd hM3 hL4 hD4
        replace hm4e := Lib.hid hm4e
        replace hE4 := Lib.hid hE4
        go_upto_region 10 with (refine wpList_store_blk rfl 37 (.tmp 8) (.tmp 37) rfl w4.heap.size 0 _ rfl rfl hz4.out (by simp) rc_size (by rfl) #[.int .i64 m4.i.r, .int .i64 m4.i.n, .int .i64 m4.bal, .int .i64 m4.st, .int .i64 m4.by_, .int .i64 m4.e.o.c, .int .i64 m4.e.o.s, .int .i64 m4.e.o.k, .string (txt m4.e.o.acct), .string (txt m4.e.o.peer), .int .i64 m4.e.o.sum, .slice L4.a L4.n L4.c, .int .i64 m4.e.o.per, .int .i64 m4.e.o.hold, .string (txt m4.e.o.note), .bool m4.e.none, .slice D4.a D4.n D4.c] rfl ?_; intro w5 hb5 hm5)
        have hm5' := ((Mod.refl none_ w4).alloc (.cells #[.int .i64 0, .int .i64 0, .int .i64 0, .int .i64 0, .int .i64 0, .int .i64 0, .int .i64 0, .int .i64 0, .string ⟨#[]⟩, .string ⟨#[]⟩, .int .i64 0, .slice none 0 0, .int .i64 0, .int .i64 0, .string ⟨#[]⟩, .bool false, .slice none 0 0] 37)).in_new (Nat.le_refl _) hm5
        have hM5 := Lib.hid ((hM4.out.trans hm5').drew)
        have hS5 : Blk w5.drew w4.heap.size 37 #[.int .i64 m4.i.r, .int .i64 m4.i.n, .int .i64 m4.bal, .int .i64 m4.st, .int .i64 m4.by_, .int .i64 m4.e.o.c, .int .i64 m4.e.o.s, .int .i64 m4.e.o.k, .string (txt m4.e.o.acct), .string (txt m4.e.o.peer), .int .i64 m4.e.o.sum, .slice L4.a L4.n L4.c, .int .i64 m4.e.o.per, .int .i64 m4.e.o.hold, .string (txt m4.e.o.note), .bool m4.e.none, .slice D4.a D4.n D4.c] := hb5.drew
        have hE5 := Lib.hid (hE4.out.mod0 hm5'.drew)
        have hne : ¬ c2 = j := by omega
        have hcl : j + 1 ≤ c2 := by omega
        have hcl2 : (j : Int) + 1 ≤ (c2 : Int) := by omega
        have hcl3 : 0 ≤ (j : Int) + 1 := by omega
        have hwr : IntKind.i64.wrap ((j : Int) + 1) = ((j + 1 : Nat) : Int) := by
          simp [IntKind.wrap, IntKind.bits, IntKind.signed]; omega
        have hcl4 : j + 1 - j = 1 := by omega
        clear hm5 hm5' hM4 hz4
        refine wp_region_held_drew (S := fun W => Blk W w4.heap.size 37 #[.int .i64 m4.i.r, .int .i64 m4.i.n, .int .i64 m4.bal, .int .i64 m4.st, .int .i64 m4.by_, .int .i64 m4.e.o.c, .int .i64 m4.e.o.s, .int .i64 m4.e.o.k, .string (txt m4.e.o.acct), .string (txt m4.e.o.peer), .int .i64 m4.e.o.sum, .slice L4.a L4.n L4.c, .int .i64 m4.e.o.per, .int .i64 m4.e.o.hold, .string (txt m4.e.o.note), .bool m4.e.none, .slice D4.a D4.n D4.c]) (by kernel_rfl) hS5 (fun hHeld => ?_)
        refine wpAnyH_take (i := 0) (v := ?_) rfl (by kernel_rfl) (by kernel_rfl) (by kernel_rfl) (fun _ _ _ h => h) (Or.inl ⟨by rfl, ?_⟩) (by assumption) ?_
        rotate_left
        · intro W hSw; (try dsimp only at hSw); go_simp; (try with_reducible rfl)
        try simp only [Act.put, List.getElem_toArray, List.getElem_cons_zero, List.getElem_cons_succ, List.setIfInBounds_toArray, List.set_cons_zero, List.set_cons_succ]
        refine wpAnyH_take (i := 1) (v := ?_) rfl (by kernel_rfl) (by kernel_rfl) (by kernel_rfl) (fun _ _ _ h => h) (Or.inl ⟨by rfl, ?_⟩) (by assumption) ?_
        rotate_left
        · intro W hSw; (try dsimp only at hSw); go_simp; (try with_reducible rfl)
        try simp only [Act.put, List.getElem_toArray, List.getElem_cons_zero, List.getElem_cons_succ, List.setIfInBounds_toArray, List.set_cons_zero, List.set_cons_succ]
        refine wpAnyH_take (i := 2) (v := ?_) rfl (by kernel_rfl) (by kernel_rfl) (by kernel_rfl) (fun _ _ _ h => h) (Or.inl ⟨by rfl, ?_⟩) (by assumption) ?_
        rotate_left
        · intro W hSw; (try dsimp only at hSw); go_simp; (try with_reducible rfl)
        try simp only [Act.put, List.getElem_toArray, List.getElem_cons_zero, List.getElem_cons_succ, List.setIfInBounds_toArray, List.set_cons_zero, List.set_cons_succ]
        refine wpAnyH_take (i := 3) rfl (by kernel_rfl) (by kernel_rfl) (by kernel_rfl) (fun _ _ _ h => h) (yieldsIf_load_mid (by rfl) 37 (.tmp 8) rfl w4.heap.size 0 rfl [.int .i64 m4.i.r, .int .i64 m4.i.n, .int .i64 m4.bal, .int .i64 m4.st, .int .i64 m4.by_, .int .i64 m4.e.o.c, .int .i64 m4.e.o.s, .int .i64 m4.e.o.k, .string (txt m4.e.o.acct), .string (txt m4.e.o.peer), .int .i64 m4.e.o.sum, .slice L4.a L4.n L4.c, .int .i64 m4.e.o.per, .int .i64 m4.e.o.hold, .string (txt m4.e.o.note), .bool m4.e.none, .slice D4.a D4.n D4.c] _ (fun W hW => Blk.range hW 0 _ rfl) Tryz.underlying37 rfl rc_size) (by assumption) ?_
        try simp only [Act.put, List.getElem_toArray, List.getElem_cons_zero, List.getElem_cons_succ, List.setIfInBounds_toArray, List.set_cons_zero, List.set_cons_succ]
        refine wpAnyH_take (i := 5) (v := ?_) rfl (by kernel_rfl) (by kernel_rfl) (by kernel_rfl) (fun _ _ _ h => h) (Or.inl ⟨by rfl, ?_⟩) (by assumption) ?_
        rotate_left
        · intro W hSw; (try dsimp only at hSw); go_simp; (try with_reducible rfl)
        try simp only [Act.put, List.getElem_toArray, List.getElem_cons_zero, List.getElem_cons_succ, List.setIfInBounds_toArray, List.set_cons_zero, List.set_cons_succ]
        refine wpAnyH_take (i := 6) (v := ?_) rfl (by kernel_rfl) (by kernel_rfl) (by kernel_rfl) (fun _ _ _ h => h) (Or.inl ⟨by rfl, ?_⟩) (by assumption) ?_
        rotate_left
        · intro W hSw; (try dsimp only at hSw); go_simp; (try with_reducible rfl)
        try simp only [Act.put, List.getElem_toArray, List.getElem_cons_zero, List.getElem_cons_succ, List.setIfInBounds_toArray, List.set_cons_zero, List.set_cons_succ]
        refine wpAnyH_take (i := 7) (v := ?_) rfl (by kernel_rfl) (by kernel_rfl) (by kernel_rfl) (fun _ _ _ h => h) (Or.inl ⟨by rfl, ?_⟩) (by assumption) ?_
        rotate_left
        · intro W hSw; (try dsimp only at hSw); go_simp; (try with_reducible rfl)
        try simp only [Act.put, List.getElem_toArray, List.getElem_cons_zero, List.getElem_cons_succ, List.setIfInBounds_toArray, List.set_cons_zero, List.set_cons_succ]
        refine wpAnyH_take (i := 8) (v := ?_) rfl (by kernel_rfl) (by kernel_rfl) (by kernel_rfl) (fun _ _ _ h => h) (Or.inl ⟨by rfl, ?_⟩) (by assumption) ?_
        rotate_left
        · intro W hSw; (try dsimp only at hSw); go_simp; (try with_reducible rfl)
        try simp only [Act.put, List.getElem_toArray, List.getElem_cons_zero, List.getElem_cons_succ, List.setIfInBounds_toArray, List.set_cons_zero, List.set_cons_succ]
        refine wpAnyH_take (i := 9) (v := ?_) rfl (by kernel_rfl) (by kernel_rfl) (by kernel_rfl) (fun _ _ _ h => h) (Or.inl ⟨by rfl, ?_⟩) (by assumption) ?_
        rotate_left
        · intro W hSw; (try dsimp only at hSw); go_simp; (try with_reducible rfl)
        try simp only [Act.put, List.getElem_toArray, List.getElem_cons_zero, List.getElem_cons_succ, List.setIfInBounds_toArray, List.set_cons_zero, List.set_cons_succ]
        refine wpAnyH_ready (rs := [4]) (by kernel_rfl) (by simp) ?_
        refine AllReadyH.cons rfl (fun K hK => ?_) AllReadyH.nil
        go_simp
        have hm6 := (Mod.refl none_ w5.drew).alloc (.cells #[.int .i64 m4.i.r, .int .i64 m4.i.n, .int .i64 m4.bal, .int .i64 m4.st, .int .i64 m4.by_, .int .i64 m4.e.o.c, .int .i64 m4.e.o.s, .int .i64 m4.e.o.k, .string (txt m4.e.o.acct), .string (txt m4.e.o.peer), .int .i64 m4.e.o.sum, .slice L4.a L4.n L4.c, .int .i64 m4.e.o.per, .int .i64 m4.e.o.hold, .string (txt m4.e.o.note), .bool m4.e.none, .slice D4.a D4.n D4.c] 37)
        have hS6 := hS5.alloc (.cells #[.int .i64 m4.i.r, .int .i64 m4.i.n, .int .i64 m4.bal, .int .i64 m4.st, .int .i64 m4.by_, .int .i64 m4.e.o.c, .int .i64 m4.e.o.s, .int .i64 m4.e.o.k, .string (txt m4.e.o.acct), .string (txt m4.e.o.peer), .int .i64 m4.e.o.sum, .slice L4.a L4.n L4.c, .int .i64 m4.e.o.per, .int .i64 m4.e.o.hold, .string (txt m4.e.o.note), .bool m4.e.none, .slice D4.a D4.n D4.c] 37)
        have hM6 := Lib.hid (hM5.out.trans hm6)
        have kS := Lib.hid (same15_eq (w5.drew.alloc (.cells #[.int .i64 m4.i.r, .int .i64 m4.i.n, .int .i64 m4.bal, .int .i64 m4.st, .int .i64 m4.by_, .int .i64 m4.e.o.c, .int .i64 m4.e.o.s, .int .i64 m4.e.o.k, .string (txt m4.e.o.acct), .string (txt m4.e.o.peer), .int .i64 m4.e.o.sum, .slice L4.a L4.n L4.c, .int .i64 m4.e.o.per, .int .i64 m4.e.o.hold, .string (txt m4.e.o.note), .bool m4.e.none, .slice D4.a D4.n D4.c] 37)) _ _ 1 1 1 (c2 - j) [⟨m4, L4, D4⟩] [x] (RsL.one (rdR_one w5.drew ⟨m4, L4, D4⟩) (hE5.out.mod0 hm6) hk4.out.1 hk4.out.2) (hxL.out _ hM6.out) (by simp [hm4e.out]) (by omega))
        clear hm6
        refine hK.out _ _ (hS6) (fun hHeld => ?_)
        clear hK K
        try simp only [Act.put, List.getElem_toArray, List.getElem_cons_zero, List.getElem_cons_succ, List.setIfInBounds_toArray, List.set_cons_zero, List.set_cons_succ]
        refine wpAnyH_ready (rs := [10]) (by kernel_rfl) (by simp) ?_
        refine AllReadyH.cons rfl (fun K hK => ?_) AllReadyH.nil
        go_simp
        refine kS.out.mono ?_
        rintro e w7 ⟨rfl, hm7⟩
        dsimp only
        have hS7 := hS6.mod hm7 (fun h => h)
        have hM7 := Lib.hid (hm.out.trans (hM6.out.trans hm7))
        clear hm7 hM6 hM5
        go_wp2_with fail
        refine hK.out _ _ (hS7) (fun hHeld => ?_)
        clear hK K
        try simp only [Act.put, List.getElem_toArray, List.getElem_cons_zero, List.getElem_cons_succ, List.setIfInBounds_toArray, List.set_cons_zero, List.set_cons_succ]
        refine wpAnyH_take (i := 11) (v := ?_) rfl (by kernel_rfl) (by kernel_rfl) (by kernel_rfl) (fun _ _ _ h => h) (Or.inl ⟨by rfl, ?_⟩) (by assumption) ?_
        rotate_left
        · intro W hSw; (try dsimp only at hSw); go_simp; (try with_reducible rfl)
        try simp only [Act.put, List.getElem_toArray, List.getElem_cons_zero, List.getElem_cons_succ, List.setIfInBounds_toArray, List.set_cons_zero, List.set_cons_succ]
        refine wpAnyH_take (i := 12) (v := ?_) rfl (by kernel_rfl) (by kernel_rfl) (by kernel_rfl) (fun _ _ _ h => h) (Or.inl ⟨by rfl, ?_⟩) (by assumption) ?_
        rotate_left
        · intro W hSw; (try dsimp only at hSw); go_simp; (try with_reducible rfl)
        try simp only [Act.put, List.getElem_toArray, List.getElem_cons_zero, List.getElem_cons_succ, List.setIfInBounds_toArray, List.set_cons_zero, List.set_cons_succ]
        refine wpAnyH_done (by kernel_rfl) ?_ _
        clear hHeld hS5 hS6 hS7
        go_wp2_with fail
        go_roundw
        case rel => exact ⟨j + 1, by go_num, by omega, hM7.out⟩
        case measure => simp [intOf]; omega
      · dsimp only
        have hM3 := Lib.hid (hm.out.trans hm3)
        clear hm3 kB
        replace hr := Lib.hid hr
        go_wp2_with fail
        go_roundw
        case rel => exact ⟨j + 1, by go_num, by omega, hM3.out⟩
        case measure => simp [intOf]; omega
    · obtain rfl : j = m2 := by omega
      obtain ⟨k, hkk⟩ : ∃ k, k = min n' 3000 := ⟨_, rfl⟩
      have hk1 : min (n' : Int) 3000 = (k : Int) := by omega
      have hk2 : (k : Int) ≤ (c' : Int) := by omega
      have hk3 : k ≤ n' := by omega
      have hk4 : k ≤ 3000 := by omega
      have hk5 : k ≤ c' := by omega
      have hrb := Lib.hid (rdb_take (Rd.mod0 hw2.out hm) hk3)
      have kRd := logRead_ok wr A' k c' (b.take k) hrb.out (by omega)
      replace hkk := Lib.hid hkk
      replace hm := Lib.hid hm
      obtain ⟨mm, f, hmf⟩ := duo_ (rdRec (b.take k))
      rw [hmf] at kRd
      replace kRd := Lib.hid kRd
      replace hmf := Lib.hid hmf
      go_wp2_with fail
      with_reducible refine kRd.out.mono ?_
      rintro e w4 ⟨m4, f4, L4, D4, he, rfl, hE4, _, _, hm4⟩
      simp only [Prod.mk.injEq] at he
      obtain ⟨rfl, rfl⟩ := he
      dsimp only
      have hM4 := Lib.hid (hM2.out.trans (hm.out.trans hm4))
      have hrb4 := Lib.hid (Rd.mod0 hrb.out hm4 : RdB w4 A' k (b.take k))
      have hz4 := Lib.hid (Blk.new w4 37 #[.int .i64 0, .int .i64 0, .int .i64 0, .int .i64 0, .int .i64 0, .int .i64 0, .int .i64 0, .int .i64 0, .string ⟨#[]⟩, .string ⟨#[]⟩, .int .i64 0, .slice none 0 0, .int .i64 0, .int .i64 0, .string ⟨#[]⟩, .bool false, .slice none 0 0])
      clear hm4 kRd
      replace hE4 := Lib.hid hE4
      by_cases hf : f = 0
      · subst hf
        obtain ⟨y1, y2, -⟩ := rdRec_yes hmf.out
        have h0 : (((0 : Nat) : Int)) = 0 := rfl
        rw [h0]
        clear h0
        obtain ⟨⟨v1, v2, v3, v4⟩, v5⟩ := rdRec_ok hmf.out hE4.out
        have kB := Lib.hid (fun W (h : Mod none_ w4 W) => logBytes_ok W mm L4 D4 (hE4.out.mod0 h) v1 v2 v3 v4 v5)
        rw [y1] at kB
        clear v1 v2 v3 v4 v5
        replace y2 := Lib.hid y2
        replace y1 := Lib.hid y1
        go_wp2_with (first
          | (refine wpList_store_blk rfl 37 (.tmp 10) (.tmp 60) rfl w4.heap.size 0 _ rfl rfl hz4.out (by simp) rc_size (by rfl) #[.int .i64 mm.i.r, .int .i64 mm.i.n, .int .i64 mm.bal, .int .i64 mm.st, .int .i64 mm.by_, .int .i64 mm.e.o.c, .int .i64 mm.e.o.s, .int .i64 mm.e.o.k, .string (txt mm.e.o.acct), .string (txt mm.e.o.peer), .int .i64 mm.e.o.sum, .slice L4.a L4.n L4.c, .int .i64 mm.e.o.per, .int .i64 mm.e.o.hold, .string (txt mm.e.o.note), .bool mm.e.none, .slice D4.a D4.n D4.c] rfl ?_; intro w5 hb5 hm5; have hm5' := Lib.hid (((Mod.refl none_ w4).alloc (.cells #[.int .i64 0, .int .i64 0, .int .i64 0, .int .i64 0, .int .i64 0, .int .i64 0, .int .i64 0, .int .i64 0, .string ⟨#[]⟩, .string ⟨#[]⟩, .int .i64 0, .slice none 0 0, .int .i64 0, .int .i64 0, .string ⟨#[]⟩, .bool false, .slice none 0 0] 37)).in_new (Nat.le_refl _) hm5); replace hb5 := Lib.hid hb5; clear hm5)
          | (refine wpList_load_row rfl 37 (.tmp 10) rfl w4.heap.size rfl _ _ _ _ hb5.out Tryz.underlying37 rfl rc_size ?_))
        with_reducible refine (kB.out _ hm5'.out).mono ?_
        rintro e w6 hpost
        obtain ⟨A6, c6, rfl, ho6, hf6, hm6⟩ : ∃ A c, e = .returned (.tuple #[.slice A (recB mm).length c, .int .i64 0]) ∧ OwB w6 5 A (recB mm).length c (recB mm) ∧ Fresh w5 A ∧ Mod none_ w5 w6 := by
          rcases hpost with ⟨_, h⟩ | ⟨h, _⟩
          · exact h
          · cases h
        dsimp only
        have hmm6 := Lib.hid (hm5'.out.trans hm6)
        have kS := same2_ok w6 A6 A' _ k c6 c' (recB mm) (b.take k) ho6.rd (Rd.mod0 hrb4.out hmm6.out)
        have hdd : decide (recB mm = b.take k) = true := decide_eq_true y2.out.symm
        rw [hdd] at kS
        generalize (recB mm).length = n6 at *
        clear hpost ho6 hf6 hm6 hdd kB
        replace kS := Lib.hid kS
        go_wp2_with fail
        with_reducible refine kS.out.mono ?_
        rintro e w7 ⟨rfl, hm7⟩
        dsimp only
        replace hm7 := Lib.hid hm7
        go_wp2_with fail
        go_ret
        exact ⟨rfl, hM4.out.trans (hmm6.out.trans hm7.out)⟩
      · have hf2 : ((f : Int) != 0) = true := by simp; omega
        have hz : mm = rc0 := by
          rcases rdRec_two (b.take k) with h1 | h1
          · rw [hmf.out] at h1; exact absurd h1 hf
          · rw [hmf.out] at h1; cases h1; rfl
        subst hz
        clear hf
        go_wp2_with (refine wpList_store_blk rfl 37 (.tmp 10) (.tmp 60) rfl w4.heap.size 0 _ rfl rfl hz4.out (by simp) rc_size (by rfl) #[.int .i64 rc0.i.r, .int .i64 rc0.i.n, .int .i64 rc0.bal, .int .i64 rc0.st, .int .i64 rc0.by_, .int .i64 rc0.e.o.c, .int .i64 rc0.e.o.s, .int .i64 rc0.e.o.k, .string (txt rc0.e.o.acct), .string (txt rc0.e.o.peer), .int .i64 rc0.e.o.sum, .slice L4.a L4.n L4.c, .int .i64 rc0.e.o.per, .int .i64 rc0.e.o.hold, .string (txt rc0.e.o.note), .bool rc0.e.none, .slice D4.a D4.n D4.c] rfl ?_; intro w5 hb5 hm5; have hm5' := ((Mod.refl none_ w4).alloc (.cells #[.int .i64 0, .int .i64 0, .int .i64 0, .int .i64 0, .int .i64 0, .int .i64 0, .int .i64 0, .int .i64 0, .string ⟨#[]⟩, .string ⟨#[]⟩, .int .i64 0, .slice none 0 0, .int .i64 0, .int .i64 0, .string ⟨#[]⟩, .bool false, .slice none 0 0] 37)).in_new (Nat.le_refl _) hm5; have hM5 := Lib.hid (hM4.out.trans hm5'); have s2 : w5.cell? ⟨w4.heap.size, 3, none⟩ = some (.int .i64 0) := hb5.cell_ rfl; have s3 : w5.cell? ⟨w4.heap.size, 1, none⟩ = some (.int .i64 0) := hb5.cell_ rfl; clear hm5 hm5' hb5)
        go_ret
        exact ⟨rfl, hM5.out⟩
end Go.Proofs.YtdnbclhidpkpgaaGreat
/-
  log.Same, of what is the same. No condition.
-/
namespace Go.Proofs.YtdnbclhidpkpgaaGreat
set_option linter.unusedVariables false
set_option linter.unusedSimpArgs false
open Go.RowKit
set_option maxRecDepth 100000 in
set_option maxHeartbeats 8000000 in
theorem lsame1_eq (w : World) (x : Rs) (M E : SV) (ha : EnM w x.r.e x.L x.D) (hb : EnM w x.r.e M E) (q1 : x.L.n ≤ 140737488355328) (q2 : x.D.n ≤ 140737488355328) (q3 : M.n ≤ 140737488355328) (q4 : E.n ≤ 140737488355328) :
    Calls Tryz.prog 60 #[.agg #[.int .i64 x.r.i.r, .int .i64 x.r.i.n, .int .i64 x.r.bal, .int .i64 x.r.st, .int .i64 x.r.by_, .int .i64 x.r.e.o.c, .int .i64 x.r.e.o.s, .int .i64 x.r.e.o.k, .string (txt x.r.e.o.acct), .string (txt x.r.e.o.peer), .int .i64 x.r.e.o.sum, .slice x.L.a x.L.n x.L.c, .int .i64 x.r.e.o.per, .int .i64 x.r.e.o.hold, .string (txt x.r.e.o.note), .bool x.r.e.none, .slice x.D.a x.D.n x.D.c], .agg #[.int .i64 x.r.i.r, .int .i64 x.r.i.n, .int .i64 x.r.bal, .int .i64 x.r.st, .int .i64 x.r.by_, .int .i64 x.r.e.o.c, .int .i64 x.r.e.o.s, .int .i64 x.r.e.o.k, .string (txt x.r.e.o.acct), .string (txt x.r.e.o.peer), .int .i64 x.r.e.o.sum, .slice M.a M.n M.c, .int .i64 x.r.e.o.per, .int .i64 x.r.e.o.hold, .string (txt x.r.e.o.note), .bool x.r.e.none, .slice E.a E.n E.c]] w fun e w' => e = .returned (.bool true) ∧ Mod none_ w w' := by
  have hei := fun W => eql_is W x.r.i x.r.i
  unfold isV at hei
  simp only [decide_true] at hei
  have hm0 := ((Mod.refl none_ w).alloc (.cells #[.int .i64 x.r.i.r, .int .i64 x.r.i.n, .int .i64 x.r.bal, .int .i64 x.r.st, .int .i64 x.r.by_, .int .i64 x.r.e.o.c, .int .i64 x.r.e.o.s, .int .i64 x.r.e.o.k, .string (txt x.r.e.o.acct), .string (txt x.r.e.o.peer), .int .i64 x.r.e.o.sum, .slice x.L.a x.L.n x.L.c, .int .i64 x.r.e.o.per, .int .i64 x.r.e.o.hold, .string (txt x.r.e.o.note), .bool x.r.e.none, .slice x.D.a x.D.n x.D.c] 37)).alloc (.cells #[.int .i64 x.r.i.r, .int .i64 x.r.i.n, .int .i64 x.r.bal, .int .i64 x.r.st, .int .i64 x.r.by_, .int .i64 x.r.e.o.c, .int .i64 x.r.e.o.s, .int .i64 x.r.e.o.k, .string (txt x.r.e.o.acct), .string (txt x.r.e.o.peer), .int .i64 x.r.e.o.sum, .slice M.a M.n M.c, .int .i64 x.r.e.o.per, .int .i64 x.r.e.o.hold, .string (txt x.r.e.o.note), .bool x.r.e.none, .slice E.a E.n E.c] 37)
  have hb1 := (Blk.new w 37 #[.int .i64 x.r.i.r, .int .i64 x.r.i.n, .int .i64 x.r.bal, .int .i64 x.r.st, .int .i64 x.r.by_, .int .i64 x.r.e.o.c, .int .i64 x.r.e.o.s, .int .i64 x.r.e.o.k, .string (txt x.r.e.o.acct), .string (txt x.r.e.o.peer), .int .i64 x.r.e.o.sum, .slice x.L.a x.L.n x.L.c, .int .i64 x.r.e.o.per, .int .i64 x.r.e.o.hold, .string (txt x.r.e.o.note), .bool x.r.e.none, .slice x.D.a x.D.n x.D.c]).alloc (.cells #[.int .i64 x.r.i.r, .int .i64 x.r.i.n, .int .i64 x.r.bal, .int .i64 x.r.st, .int .i64 x.r.by_, .int .i64 x.r.e.o.c, .int .i64 x.r.e.o.s, .int .i64 x.r.e.o.k, .string (txt x.r.e.o.acct), .string (txt x.r.e.o.peer), .int .i64 x.r.e.o.sum, .slice M.a M.n M.c, .int .i64 x.r.e.o.per, .int .i64 x.r.e.o.hold, .string (txt x.r.e.o.note), .bool x.r.e.none, .slice E.a E.n E.c] 37)
  have hb2 := Blk.new (w.alloc (.cells #[.int .i64 x.r.i.r, .int .i64 x.r.i.n, .int .i64 x.r.bal, .int .i64 x.r.st, .int .i64 x.r.by_, .int .i64 x.r.e.o.c, .int .i64 x.r.e.o.s, .int .i64 x.r.e.o.k, .string (txt x.r.e.o.acct), .string (txt x.r.e.o.peer), .int .i64 x.r.e.o.sum, .slice x.L.a x.L.n x.L.c, .int .i64 x.r.e.o.per, .int .i64 x.r.e.o.hold, .string (txt x.r.e.o.note), .bool x.r.e.none, .slice x.D.a x.D.n x.D.c] 37)) 37 #[.int .i64 x.r.i.r, .int .i64 x.r.i.n, .int .i64 x.r.bal, .int .i64 x.r.st, .int .i64 x.r.by_, .int .i64 x.r.e.o.c, .int .i64 x.r.e.o.s, .int .i64 x.r.e.o.k, .string (txt x.r.e.o.acct), .string (txt x.r.e.o.peer), .int .i64 x.r.e.o.sum, .slice M.a M.n M.c, .int .i64 x.r.e.o.per, .int .i64 x.r.e.o.hold, .string (txt x.r.e.o.note), .bool x.r.e.none, .slice E.a E.n E.c]
  have hsz : (w.alloc (.cells #[.int .i64 x.r.i.r, .int .i64 x.r.i.n, .int .i64 x.r.bal, .int .i64 x.r.st, .int .i64 x.r.by_, .int .i64 x.r.e.o.c, .int .i64 x.r.e.o.s, .int .i64 x.r.e.o.k, .string (txt x.r.e.o.acct), .string (txt x.r.e.o.peer), .int .i64 x.r.e.o.sum, .slice x.L.a x.L.n x.L.c, .int .i64 x.r.e.o.per, .int .i64 x.r.e.o.hold, .string (txt x.r.e.o.note), .bool x.r.e.none, .slice x.D.a x.D.n x.D.c] 37)).heap.size = w.heap.size + 1 := by simp
  rw [hsz] at hb2
  clear hsz
  have kE := Lib.hid (fun W (h : Mod none_ w W) => sameE_ok W x.r.e x.r.e x.L x.D M E (ha.mod0 h) (hb.mod0 h) q1 q2 q3 q4)
  replace kE := kE.out
  rw [decide_eq_true (rfl : x.r.e = x.r.e)] at kE
  clear ha hb
  replace kE := Lib.hid kE
  replace hm0 := Lib.hid hm0
  replace hb1 := Lib.hid hb1
  replace hb2 := Lib.hid hb2
  go_enter Tryz.func60, Tryz.ntmps60
  go_upto_region 1 with fail
  obtain ⟨W0, hW0⟩ : ∃ W0, W0 = (w.alloc (.cells #[.int .i64 x.r.i.r, .int .i64 x.r.i.n, .int .i64 x.r.bal, .int .i64 x.r.st, .int .i64 x.r.by_, .int .i64 x.r.e.o.c, .int .i64 x.r.e.o.s, .int .i64 x.r.e.o.k, .string (txt x.r.e.o.acct), .string (txt x.r.e.o.peer), .int .i64 x.r.e.o.sum, .slice x.L.a x.L.n x.L.c, .int .i64 x.r.e.o.per, .int .i64 x.r.e.o.hold, .string (txt x.r.e.o.note), .bool x.r.e.none, .slice x.D.a x.D.n x.D.c] 37)).alloc (.cells #[.int .i64 x.r.i.r, .int .i64 x.r.i.n, .int .i64 x.r.bal, .int .i64 x.r.st, .int .i64 x.r.by_, .int .i64 x.r.e.o.c, .int .i64 x.r.e.o.s, .int .i64 x.r.e.o.k, .string (txt x.r.e.o.acct), .string (txt x.r.e.o.peer), .int .i64 x.r.e.o.sum, .slice M.a M.n M.c, .int .i64 x.r.e.o.per, .int .i64 x.r.e.o.hold, .string (txt x.r.e.o.note), .bool x.r.e.none, .slice E.a E.n E.c] 37) := ⟨_, rfl⟩
  rw [← hW0] at hm0 hb1 hb2 ⊢
  have hW0s := Lib.hid (show W0.heap.size = w.heap.size + 2 by rw [hW0]; simp)
  clear hW0
  go_cut [5, 6] from 7 to 10 (fun s5 s6 wx => ∃ p q : Nat, s5 = .pointer (some ⟨p, 0, none⟩) ∧ s6 = .pointer (some ⟨q, 0, none⟩) ∧ Blk wx p 35 #[.int .i64 x.r.bal, .int .i64 x.r.st, .int .i64 x.r.by_, .int .i64 x.r.e.o.c, .int .i64 x.r.e.o.s, .int .i64 x.r.e.o.k, .string (txt x.r.e.o.acct), .string (txt x.r.e.o.peer), .int .i64 x.r.e.o.sum, .slice x.L.a x.L.n x.L.c, .int .i64 x.r.e.o.per, .int .i64 x.r.e.o.hold, .string (txt x.r.e.o.note), .bool x.r.e.none, .slice x.D.a x.D.n x.D.c] ∧ Blk wx q 35 #[.int .i64 x.r.bal, .int .i64 x.r.st, .int .i64 x.r.by_, .int .i64 x.r.e.o.c, .int .i64 x.r.e.o.s, .int .i64 x.r.e.o.k, .string (txt x.r.e.o.acct), .string (txt x.r.e.o.peer), .int .i64 x.r.e.o.sum, .slice M.a M.n M.c, .int .i64 x.r.e.o.per, .int .i64 x.r.e.o.hold, .string (txt x.r.e.o.note), .bool x.r.e.none, .slice E.a E.n E.c] ∧ Mod none_ W0 wx)
  case first =>
    have hSm : ∀ W, Mod none_ W0 W → Blk W w.heap.size 37 #[.int .i64 x.r.i.r, .int .i64 x.r.i.n, .int .i64 x.r.bal, .int .i64 x.r.st, .int .i64 x.r.by_, .int .i64 x.r.e.o.c, .int .i64 x.r.e.o.s, .int .i64 x.r.e.o.k, .string (txt x.r.e.o.acct), .string (txt x.r.e.o.peer), .int .i64 x.r.e.o.sum, .slice x.L.a x.L.n x.L.c, .int .i64 x.r.e.o.per, .int .i64 x.r.e.o.hold, .string (txt x.r.e.o.note), .bool x.r.e.none, .slice x.D.a x.D.n x.D.c] ∧ Blk W (w.heap.size + 1) 37 #[.int .i64 x.r.i.r, .int .i64 x.r.i.n, .int .i64 x.r.bal, .int .i64 x.r.st, .int .i64 x.r.by_, .int .i64 x.r.e.o.c, .int .i64 x.r.e.o.s, .int .i64 x.r.e.o.k, .string (txt x.r.e.o.acct), .string (txt x.r.e.o.peer), .int .i64 x.r.e.o.sum, .slice M.a M.n M.c, .int .i64 x.r.e.o.per, .int .i64 x.r.e.o.hold, .string (txt x.r.e.o.note), .bool x.r.e.none, .slice E.a E.n E.c] := fun W hM => ⟨hb1.out.mod hM (fun h => h), hb2.out.mod hM (fun h => h)⟩
    have hS0 := hSm _ ((Mod.refl none_ W0).drew)
    have hm1 := ((Mod.refl none_ W0).drew).alloc (.cells #[.int .i64 0, .int .i64 0, .int .i64 0, .int .i64 0, .int .i64 0, .int .i64 0, .string ⟨#[]⟩, .string ⟨#[]⟩, .int .i64 0, .slice none 0 0, .int .i64 0, .int .i64 0, .string ⟨#[]⟩, .bool false, .slice none 0 0] 35)
    have hm2 := hm1.alloc (.cells #[.int .i64 0, .int .i64 0, .int .i64 0, .int .i64 0, .int .i64 0, .int .i64 0, .string ⟨#[]⟩, .string ⟨#[]⟩, .int .i64 0, .slice none 0 0, .int .i64 0, .int .i64 0, .string ⟨#[]⟩, .bool false, .slice none 0 0] 35)
    have hS1 := hSm _ hm1
    have hS2 := hSm _ hm2
    have hB1 := (Blk.new W0.drew 35 #[.int .i64 0, .int .i64 0, .int .i64 0, .int .i64 0, .int .i64 0, .int .i64 0, .string ⟨#[]⟩, .string ⟨#[]⟩, .int .i64 0, .slice none 0 0, .int .i64 0, .int .i64 0, .string ⟨#[]⟩, .bool false, .slice none 0 0]).alloc (.cells #[.int .i64 0, .int .i64 0, .int .i64 0, .int .i64 0, .int .i64 0, .int .i64 0, .string ⟨#[]⟩, .string ⟨#[]⟩, .int .i64 0, .slice none 0 0, .int .i64 0, .int .i64 0, .string ⟨#[]⟩, .bool false, .slice none 0 0] 35)
    have hB2 := Blk.new (W0.drew.alloc (.cells #[.int .i64 0, .int .i64 0, .int .i64 0, .int .i64 0, .int .i64 0, .int .i64 0, .string ⟨#[]⟩, .string ⟨#[]⟩, .int .i64 0, .slice none 0 0, .int .i64 0, .int .i64 0, .string ⟨#[]⟩, .bool false, .slice none 0 0] 35)) 35 #[.int .i64 0, .int .i64 0, .int .i64 0, .int .i64 0, .int .i64 0, .int .i64 0, .string ⟨#[]⟩, .string ⟨#[]⟩, .int .i64 0, .slice none 0 0, .int .i64 0, .int .i64 0, .string ⟨#[]⟩, .bool false, .slice none 0 0]
    have hsz : (W0.drew.alloc (.cells #[.int .i64 0, .int .i64 0, .int .i64 0, .int .i64 0, .int .i64 0, .int .i64 0, .string ⟨#[]⟩, .string ⟨#[]⟩, .int .i64 0, .slice none 0 0, .int .i64 0, .int .i64 0, .string ⟨#[]⟩, .bool false, .slice none 0 0] 35)).heap.size = W0.heap.size + 1 := by simp
    rw [hsz] at hB2
    have hsz0 : W0.drew.heap.size = W0.heap.size := rfl
    rw [hsz0] at hB1
    clear hsz hsz0
    refine wp_region_held_drew (S := fun W => Blk W w.heap.size 37 #[.int .i64 x.r.i.r, .int .i64 x.r.i.n, .int .i64 x.r.bal, .int .i64 x.r.st, .int .i64 x.r.by_, .int .i64 x.r.e.o.c, .int .i64 x.r.e.o.s, .int .i64 x.r.e.o.k, .string (txt x.r.e.o.acct), .string (txt x.r.e.o.peer), .int .i64 x.r.e.o.sum, .slice x.L.a x.L.n x.L.c, .int .i64 x.r.e.o.per, .int .i64 x.r.e.o.hold, .string (txt x.r.e.o.note), .bool x.r.e.none, .slice x.D.a x.D.n x.D.c] ∧ Blk W (w.heap.size + 1) 37 #[.int .i64 x.r.i.r, .int .i64 x.r.i.n, .int .i64 x.r.bal, .int .i64 x.r.st, .int .i64 x.r.by_, .int .i64 x.r.e.o.c, .int .i64 x.r.e.o.s, .int .i64 x.r.e.o.k, .string (txt x.r.e.o.acct), .string (txt x.r.e.o.peer), .int .i64 x.r.e.o.sum, .slice M.a M.n M.c, .int .i64 x.r.e.o.per, .int .i64 x.r.e.o.hold, .string (txt x.r.e.o.note), .bool x.r.e.none, .slice E.a E.n E.c]) (by kernel_rfl) hS0 (fun hHeld => ?_)
    refine wpAnyH_take (i := 0) (v := ?_) rfl (by kernel_rfl) (by kernel_rfl) (by kernel_rfl) (fun _ _ _ h => h) (Or.inl ⟨by rfl, ?_⟩) (by assumption) ?_
    rotate_left
    · intro W hSw; (try dsimp only at hSw); go_simp; (try with_reducible rfl)
    try simp only [Act.put, List.getElem_toArray, List.getElem_cons_zero, List.getElem_cons_succ, List.setIfInBounds_toArray, List.set_cons_zero, List.set_cons_succ]
    refine wpAnyH_take (i := 1) rfl (by kernel_rfl) (by kernel_rfl) (by kernel_rfl) (fun _ _ _ h => h) (yieldsIf_load_mid (by rfl) 35 (.tmp 7) rfl w.heap.size 2 rfl [.int .i64 x.r.bal, .int .i64 x.r.st, .int .i64 x.r.by_, .int .i64 x.r.e.o.c, .int .i64 x.r.e.o.s, .int .i64 x.r.e.o.k, .string (txt x.r.e.o.acct), .string (txt x.r.e.o.peer), .int .i64 x.r.e.o.sum, .slice x.L.a x.L.n x.L.c, .int .i64 x.r.e.o.per, .int .i64 x.r.e.o.hold, .string (txt x.r.e.o.note), .bool x.r.e.none, .slice x.D.a x.D.n x.D.c] _ (fun W hW => Blk.range hW.1 2 _ rfl) Tryz.underlying35 rfl slot_size) (by assumption) ?_
    try simp only [Act.put, List.getElem_toArray, List.getElem_cons_zero, List.getElem_cons_succ, List.setIfInBounds_toArray, List.set_cons_zero, List.set_cons_succ]
    refine wpAnyH_take (i := 2) (v := ?_) rfl (by kernel_rfl) (by kernel_rfl) (by kernel_rfl) (fun _ _ _ h => h) (Or.inl ⟨by rfl, ?_⟩) (by assumption) ?_
    rotate_left
    · intro W hSw; (try dsimp only at hSw); go_simp; (try with_reducible rfl)
    try simp only [Act.put, List.getElem_toArray, List.getElem_cons_zero, List.getElem_cons_succ, List.setIfInBounds_toArray, List.set_cons_zero, List.set_cons_succ]
    refine wpAnyH_take (i := 3) rfl (by kernel_rfl) (by kernel_rfl) (by kernel_rfl) (fun _ _ _ h => h) (yieldsIf_load_mid (by rfl) 35 (.tmp 9) rfl (w.heap.size + 1) 2 rfl [.int .i64 x.r.bal, .int .i64 x.r.st, .int .i64 x.r.by_, .int .i64 x.r.e.o.c, .int .i64 x.r.e.o.s, .int .i64 x.r.e.o.k, .string (txt x.r.e.o.acct), .string (txt x.r.e.o.peer), .int .i64 x.r.e.o.sum, .slice M.a M.n M.c, .int .i64 x.r.e.o.per, .int .i64 x.r.e.o.hold, .string (txt x.r.e.o.note), .bool x.r.e.none, .slice E.a E.n E.c] _ (fun W hW => Blk.range hW.2 2 _ rfl) Tryz.underlying35 rfl slot_size) (by assumption) ?_
    try simp only [Act.put, List.getElem_toArray, List.getElem_cons_zero, List.getElem_cons_succ, List.setIfInBounds_toArray, List.set_cons_zero, List.set_cons_succ]
    refine wpAnyH_ready (rs := [4, 5]) (by kernel_rfl) (by simp) ?_
    refine AllReadyH.cons rfl (fun K hK => ?_) (AllReadyH.cons rfl (fun K hK => ?_) AllReadyH.nil)
    focus
      go_simp
      refine hK.out _ _ (hS1) (fun hHeld => ?_)
      clear hK K
      try simp only [Act.put, List.getElem_toArray, List.getElem_cons_zero, List.getElem_cons_succ, List.setIfInBounds_toArray, List.set_cons_zero, List.set_cons_succ]
      refine wpAnyH_ready (rs := [5]) (by kernel_rfl) (by simp) ?_
      refine AllReadyH.cons rfl (fun K hK => ?_) AllReadyH.nil
      go_simp
      refine hK.out _ _ (hS2) (fun hHeld => ?_)
      clear hK K
      try simp only [Act.put, List.getElem_toArray, List.getElem_cons_zero, List.getElem_cons_succ, List.setIfInBounds_toArray, List.set_cons_zero, List.set_cons_succ]
      refine wpAnyH_ready (rs := [6]) (by kernel_rfl) (by simp) ?_
      refine AllReadyH.cons rfl (fun K hK => ?_) AllReadyH.nil
      refine step_store_blk rfl 35 (.tmp 5) (.tmp 8) rfl (W0.heap.size) 0 _ rfl rfl hB1 (by simp) slot_size (by rfl) #[.int .i64 x.r.bal, .int .i64 x.r.st, .int .i64 x.r.by_, .int .i64 x.r.e.o.c, .int .i64 x.r.e.o.s, .int .i64 x.r.e.o.k, .string (txt x.r.e.o.acct), .string (txt x.r.e.o.peer), .int .i64 x.r.e.o.sum, .slice x.L.a x.L.n x.L.c, .int .i64 x.r.e.o.per, .int .i64 x.r.e.o.hold, .string (txt x.r.e.o.note), .bool x.r.e.none, .slice x.D.a x.D.n x.D.c] rfl ?_
      intro w3 hb3 hm3
      have hB3 := hB2.mod hm3 (fun h => by have : W0.heap.size + 1 = W0.heap.size := h; omega)
      have hm3' := hm2.in_new (by omega) hm3
      have hS3 := hSm _ hm3'
      refine hK.out _ _ (hS3) (fun hHeld => ?_)
      clear hK K
      try simp only [Act.put, List.getElem_toArray, List.getElem_cons_zero, List.getElem_cons_succ, List.setIfInBounds_toArray, List.set_cons_zero, List.set_cons_succ]
      refine wpAnyH_ready (rs := [7]) (by kernel_rfl) (by simp) ?_
      refine AllReadyH.cons rfl (fun K hK => ?_) AllReadyH.nil
      refine step_store_blk rfl 35 (.tmp 6) (.tmp 10) rfl (W0.heap.size + 1) 0 _ rfl rfl hB3 (by simp) slot_size (by rfl) #[.int .i64 x.r.bal, .int .i64 x.r.st, .int .i64 x.r.by_, .int .i64 x.r.e.o.c, .int .i64 x.r.e.o.s, .int .i64 x.r.e.o.k, .string (txt x.r.e.o.acct), .string (txt x.r.e.o.peer), .int .i64 x.r.e.o.sum, .slice M.a M.n M.c, .int .i64 x.r.e.o.per, .int .i64 x.r.e.o.hold, .string (txt x.r.e.o.note), .bool x.r.e.none, .slice E.a E.n E.c] rfl ?_
      intro w4 hb4 hm4
      have hb4' := hb3.mod hm4 (fun h => by have : W0.heap.size = W0.heap.size + 1 := h; omega)
      have hm4' := hm3'.in_new (by omega) hm4
      have hS4 := hSm _ hm4'
      refine hK.out _ _ (hS4) (fun hHeld => ?_)
      clear hK K
      try simp only [Act.put, List.getElem_toArray, List.getElem_cons_zero, List.getElem_cons_succ, List.setIfInBounds_toArray, List.set_cons_zero, List.set_cons_succ]
      refine wpAnyH_done (by kernel_rfl) ?_ _
      clear hHeld hS1 hS2 hS3 hS4 hSm hm1 hm2 hm3' hm3 hm4 hB3 hb3 hB1 hB2
      replace hb4 := Lib.hid hb4
      replace hb4' := Lib.hid hb4'
      replace hm4' := Lib.hid hm4'
      go_wp2_with fail
      all_goals go_meet
      exact ⟨W0.heap.size, W0.heap.size + 1, rfl, rfl, hb4'.out, hb4.out, hm4'.out⟩
    focus
      go_simp
      refine hK.out _ _ (hS1) (fun hHeld => ?_)
      clear hK K
      try simp only [Act.put, List.getElem_toArray, List.getElem_cons_zero, List.getElem_cons_succ, List.setIfInBounds_toArray, List.set_cons_zero, List.set_cons_succ]
      refine wpAnyH_ready (rs := [4]) (by kernel_rfl) (by simp) ?_
      refine AllReadyH.cons rfl (fun K hK => ?_) AllReadyH.nil
      go_simp
      refine hK.out _ _ (hS2) (fun hHeld => ?_)
      clear hK K
      try simp only [Act.put, List.getElem_toArray, List.getElem_cons_zero, List.getElem_cons_succ, List.setIfInBounds_toArray, List.set_cons_zero, List.set_cons_succ]
      refine wpAnyH_ready (rs := [6]) (by kernel_rfl) (by simp) ?_
      refine AllReadyH.cons rfl (fun K hK => ?_) AllReadyH.nil
      refine step_store_blk rfl 35 (.tmp 5) (.tmp 8) rfl (W0.heap.size + 1) 0 _ rfl rfl hB2 (by simp) slot_size (by rfl) #[.int .i64 x.r.bal, .int .i64 x.r.st, .int .i64 x.r.by_, .int .i64 x.r.e.o.c, .int .i64 x.r.e.o.s, .int .i64 x.r.e.o.k, .string (txt x.r.e.o.acct), .string (txt x.r.e.o.peer), .int .i64 x.r.e.o.sum, .slice x.L.a x.L.n x.L.c, .int .i64 x.r.e.o.per, .int .i64 x.r.e.o.hold, .string (txt x.r.e.o.note), .bool x.r.e.none, .slice x.D.a x.D.n x.D.c] rfl ?_
      intro w3 hb3 hm3
      have hB3 := hB1.mod hm3 (fun h => by have : W0.heap.size = W0.heap.size + 1 := h; omega)
      have hm3' := hm2.in_new (by omega) hm3
      have hS3 := hSm _ hm3'
      refine hK.out _ _ (hS3) (fun hHeld => ?_)
      clear hK K
      try simp only [Act.put, List.getElem_toArray, List.getElem_cons_zero, List.getElem_cons_succ, List.setIfInBounds_toArray, List.set_cons_zero, List.set_cons_succ]
      refine wpAnyH_ready (rs := [7]) (by kernel_rfl) (by simp) ?_
      refine AllReadyH.cons rfl (fun K hK => ?_) AllReadyH.nil
      refine step_store_blk rfl 35 (.tmp 6) (.tmp 10) rfl (W0.heap.size) 0 _ rfl rfl hB3 (by simp) slot_size (by rfl) #[.int .i64 x.r.bal, .int .i64 x.r.st, .int .i64 x.r.by_, .int .i64 x.r.e.o.c, .int .i64 x.r.e.o.s, .int .i64 x.r.e.o.k, .string (txt x.r.e.o.acct), .string (txt x.r.e.o.peer), .int .i64 x.r.e.o.sum, .slice M.a M.n M.c, .int .i64 x.r.e.o.per, .int .i64 x.r.e.o.hold, .string (txt x.r.e.o.note), .bool x.r.e.none, .slice E.a E.n E.c] rfl ?_
      intro w4 hb4 hm4
      have hb4' := hb3.mod hm4 (fun h => by have : W0.heap.size + 1 = W0.heap.size := h; omega)
      have hm4' := hm3'.in_new (by omega) hm4
      have hS4 := hSm _ hm4'
      refine hK.out _ _ (hS4) (fun hHeld => ?_)
      clear hK K
      try simp only [Act.put, List.getElem_toArray, List.getElem_cons_zero, List.getElem_cons_succ, List.setIfInBounds_toArray, List.set_cons_zero, List.set_cons_succ]
      refine wpAnyH_done (by kernel_rfl) ?_ _
      clear hHeld hS1 hS2 hS3 hS4 hSm hm1 hm2 hm3' hm3 hm4 hB3 hb3 hB1 hB2
      replace hb4 := Lib.hid hb4
      replace hb4' := Lib.hid hb4'
      replace hm4' := Lib.hid hm4'
      go_wp2_with fail
      all_goals go_meet
      exact ⟨W0.heap.size + 1, W0.heap.size, rfl, rfl, hb4'.out, hb4.out, hm4'.out⟩
  case rest =>
    obtain ⟨p, q, rfl, rfl, hbp, hbq, hmx⟩ := hcut
    have hM2 := Lib.hid (hm0.out.trans hmx)
    have hc1 := Lib.hid (hb1.out.mod hmx (fun h => h))
    have hc2 := Lib.hid (hb2.out.mod hmx (fun h => h))
    have z0 := fun i v (h : (#[.int .i64 x.r.bal, .int .i64 x.r.st, .int .i64 x.r.by_, .int .i64 x.r.e.o.c, .int .i64 x.r.e.o.s, .int .i64 x.r.e.o.k, .string (txt x.r.e.o.acct), .string (txt x.r.e.o.peer), .int .i64 x.r.e.o.sum, .slice x.L.a x.L.n x.L.c, .int .i64 x.r.e.o.per, .int .i64 x.r.e.o.hold, .string (txt x.r.e.o.note), .bool x.r.e.none, .slice x.D.a x.D.n x.D.c] : Array Value)[i]? = some v) => hbp.cell_ h
    have a0 : wc.cell? ⟨p, 0, none⟩ = some (.int .i64 x.r.bal) := hbp.cell_ rfl
    have a1 : wc.cell? ⟨p, 1, none⟩ = some (.int .i64 x.r.st) := hbp.cell_ rfl
    have a2 : wc.cell? ⟨p, 2, none⟩ = some (.int .i64 x.r.by_) := hbp.cell_ rfl
    have b0 : wc.cell? ⟨q, 0, none⟩ = some (.int .i64 x.r.bal) := hbq.cell_ rfl
    have b1 : wc.cell? ⟨q, 1, none⟩ = some (.int .i64 x.r.st) := hbq.cell_ rfl
    have b2 : wc.cell? ⟨q, 2, none⟩ = some (.int .i64 x.r.by_) := hbq.cell_ rfl
    clear z0 hmx
    replace hbp := Lib.hid hbp
    replace hbq := Lib.hid hbq
    go_wp2_with (first
      | (refine wpList_load_blk rfl 25 (.tmp 11) rfl w.heap.size 0 rfl hc1.out [.int .i64 x.r.i.r, .int .i64 x.r.i.n] rfl Tryz.underlying25 rfl inst_size ?_)
      | (refine wpList_load_blk rfl 25 (.tmp 13) rfl (w.heap.size + 1) 0 rfl hc2.out [.int .i64 x.r.i.r, .int .i64 x.r.i.n] rfl Tryz.underlying25 rfl inst_size ?_)
      | (refine wpList_step (fun K hK => ?_); rw [if_pos (by rfl)]; refine wp_load_mid 33 (.tmp 38) rfl p 3 rfl [.int .i64 x.r.e.o.c, .int .i64 x.r.e.o.s, .int .i64 x.r.e.o.k, .string (txt x.r.e.o.acct), .string (txt x.r.e.o.peer), .int .i64 x.r.e.o.sum, .slice x.L.a x.L.n x.L.c, .int .i64 x.r.e.o.per, .int .i64 x.r.e.o.hold, .string (txt x.r.e.o.note), .bool x.r.e.none, .slice x.D.a x.D.n x.D.c] _ (Blk.range hbp.out 3 _ rfl) Tryz.underlying33 rfl entry_size ?_; refine hK _ _ ?_)
      | (refine wpList_step (fun K hK => ?_); rw [if_pos (by rfl)]; refine wp_load_mid 33 (.tmp 40) rfl q 3 rfl [.int .i64 x.r.e.o.c, .int .i64 x.r.e.o.s, .int .i64 x.r.e.o.k, .string (txt x.r.e.o.acct), .string (txt x.r.e.o.peer), .int .i64 x.r.e.o.sum, .slice M.a M.n M.c, .int .i64 x.r.e.o.per, .int .i64 x.r.e.o.hold, .string (txt x.r.e.o.note), .bool x.r.e.none, .slice E.a E.n E.c] _ (Blk.range hbq.out 3 _ rfl) Tryz.underlying33 rfl entry_size ?_; refine hK _ _ ?_))
    refine (kE.out _ hM2.out).mono ?_
    rintro e w6 ⟨rfl, hm6⟩
    dsimp only
    replace hm6 := Lib.hid hm6
    go_wp2_with fail
    go_ret
    exact ⟨rfl, hM2.out.trans hm6.out⟩
end Go.Proofs.YtdnbclhidpkpgaaGreat
/-
  log.Same of two rows of the same records. No condition.
-/
namespace Go.Proofs.YtdnbclhidpkpgaaGreat
set_option linter.unusedVariables false
set_option linter.unusedSimpArgs false
open Go.RowKit
set_option maxRecDepth 100000 in
set_option maxHeartbeats 8000000 in
theorem eqFunc_two (w : World) (A B : Option Addr) (n c d : Nat) (xs : List Rs) (h : RsL w A n xs) (h2 : RdR w B n xs) (hn : n ≤ 140737488355328) :
    Calls Tryz.prog 59 #[.slice A n c, .slice B n d, .func (.func 60) #[] #[]] w fun e w' => e = .returned (.bool true) ∧ Mod none_ w w' := by
  have hz : ((n : Int) != (n : Int)) = false := by simp
  replace h := Lib.hid h
  replace h2 := Lib.hid h2
  go_enter Tryz.func59, Tryz.ntmps59
  go_wp2_with fail
  go_loopw [17] (fun y wr => ∃ j : Nat, y = .int .i64 j ∧ j ≤ n ∧ Mod none_ w wr) (fun y _ => n - (intOf y).toNat)
  case atStart => exact ⟨0, rfl, by omega, Mod.refl _ _⟩
  case round =>
    obtain ⟨j, rfl, hj, hm⟩ := hrel
    by_cases hlt : j < n
    · obtain ⟨g, o, x, hA, hxm, hx, hrg⟩ := rdr_get (w := wr) (Rd.mod0 h.out.rd hm) hlt
      obtain ⟨g', o', x', hB, _, hx', hrg'⟩ := rdr_get (w := wr) (Rd.mod0 h2.out hm) hlt
      obtain rfl : x = x' := by rw [hx] at hx'; cases hx'; rfl
      subst hA
      subst hB
      have hEx := (h.out.mem x hxm).mod0 hm
      obtain ⟨q1, q2, _, _⟩ := h.out.ok x hxm
      have kS := Lib.hid (fun W (hM : Mod none_ wr W) => lsame1_eq W x x.L x.D (hEx.mod0 hM) (hEx.mod0 hM) q1 q2 q1 q2)
      unfold rsC at hrg hrg'
      have hz1 := Lib.hid (Blk.new wr 37 #[.int .i64 0, .int .i64 0, .int .i64 0, .int .i64 0, .int .i64 0, .int .i64 0, .int .i64 0, .int .i64 0, .string ⟨#[]⟩, .string ⟨#[]⟩, .int .i64 0, .slice none 0 0, .int .i64 0, .int .i64 0, .string ⟨#[]⟩, .bool false, .slice none 0 0])
      clear hEx q1 q2 hx'
      replace hm := Lib.hid hm
      replace hxm := Lib.hid hxm
      replace hx := Lib.hid hx
      replace hrg := Lib.hid hrg
      replace hrg' := Lib.hid hrg'
      go_wp2_with (first
        | (refine wpList_load_mid rfl 37 (.tmp 20) rfl g (o + j * 17) rfl _ _ hrg.out Tryz.underlying37 rfl rc_size ?_)
        | (refine wpList_store_blk rfl 37 (.tmp 8) (.tmp 21) rfl wr.heap.size 0 _ rfl rfl hz1.out (by simp) rc_size (by rfl) #[.int .i64 x.r.i.r, .int .i64 x.r.i.n, .int .i64 x.r.bal, .int .i64 x.r.st, .int .i64 x.r.by_, .int .i64 x.r.e.o.c, .int .i64 x.r.e.o.s, .int .i64 x.r.e.o.k, .string (txt x.r.e.o.acct), .string (txt x.r.e.o.peer), .int .i64 x.r.e.o.sum, .slice x.L.a x.L.n x.L.c, .int .i64 x.r.e.o.per, .int .i64 x.r.e.o.hold, .string (txt x.r.e.o.note), .bool x.r.e.none, .slice x.D.a x.D.n x.D.c] rfl ?_; intro w2 hb2 hm2; have hm2' := Lib.hid (((Mod.refl none_ wr).alloc (.cells #[.int .i64 0, .int .i64 0, .int .i64 0, .int .i64 0, .int .i64 0, .int .i64 0, .int .i64 0, .int .i64 0, .string ⟨#[]⟩, .string ⟨#[]⟩, .int .i64 0, .slice none 0 0, .int .i64 0, .int .i64 0, .string ⟨#[]⟩, .bool false, .slice none 0 0] 37)).in_new (Nat.le_refl _) hm2); replace hb2 := Lib.hid hb2; clear hm2; have hrg2 := Lib.hid (rangeAt_mod hrg'.out hm2'.out); have hz2 := Lib.hid (Blk.new w2 37 #[.int .i64 0, .int .i64 0, .int .i64 0, .int .i64 0, .int .i64 0, .int .i64 0, .int .i64 0, .int .i64 0, .string ⟨#[]⟩, .string ⟨#[]⟩, .int .i64 0, .slice none 0 0, .int .i64 0, .int .i64 0, .string ⟨#[]⟩, .bool false, .slice none 0 0]))
        | (refine wpList_load_mid rfl 37 (.tmp 24) rfl g' (o' + j * 17) rfl _ _ hrg2.out Tryz.underlying37 rfl rc_size ?_)
        | (refine wpList_store_blk rfl 37 (.tmp 9) (.tmp 25) rfl w2.heap.size 0 _ rfl rfl hz2.out (by simp) rc_size (by rfl) #[.int .i64 x.r.i.r, .int .i64 x.r.i.n, .int .i64 x.r.bal, .int .i64 x.r.st, .int .i64 x.r.by_, .int .i64 x.r.e.o.c, .int .i64 x.r.e.o.s, .int .i64 x.r.e.o.k, .string (txt x.r.e.o.acct), .string (txt x.r.e.o.peer), .int .i64 x.r.e.o.sum, .slice x.L.a x.L.n x.L.c, .int .i64 x.r.e.o.per, .int .i64 x.r.e.o.hold, .string (txt x.r.e.o.note), .bool x.r.e.none, .slice x.D.a x.D.n x.D.c] rfl ?_; intro w3 hb3 hm3; have hm3' := Lib.hid (((Mod.refl none_ w2).alloc (.cells #[.int .i64 0, .int .i64 0, .int .i64 0, .int .i64 0, .int .i64 0, .int .i64 0, .int .i64 0, .int .i64 0, .string ⟨#[]⟩, .string ⟨#[]⟩, .int .i64 0, .slice none 0 0, .int .i64 0, .int .i64 0, .string ⟨#[]⟩, .bool false, .slice none 0 0] 37)).in_new (Nat.le_refl _) hm3); replace hb3 := Lib.hid hb3; clear hm3; have hb2' := Lib.hid (hb2.out.mod hm3'.out (fun h => h)))
        | (refine wpList_load_row rfl 37 (.tmp 8) rfl wr.heap.size rfl _ _ _ _ hb2'.out Tryz.underlying37 rfl rc_size ?_)
        | (refine wpList_load_row rfl 37 (.tmp 9) rfl w2.heap.size rfl _ _ _ _ hb3.out Tryz.underlying37 rfl rc_size ?_))
      refine (kS.out _ (hm2'.out.trans hm3'.out)).mono ?_
      rintro e w6 ⟨rfl, hm6⟩
      dsimp only
      have hM6 := Lib.hid (hm.out.trans (hm2'.out.trans (hm3'.out.trans hm6)))
      clear hm6
      go_wp2_with fail
      go_roundw
      case rel => exact ⟨j + 1, by go_num, by omega, hM6.out⟩
      case measure => simp [intOf]; omega
    · obtain rfl : j = n := by omega
      replace hm := Lib.hid hm
      go_wp2_with fail
      go_ret
      exact ⟨rfl, hm.out⟩
set_option maxRecDepth 100000 in
theorem logSame_two (w : World) (A B : Option Addr) (n c d : Nat) (xs : List Rs) (h : RsL w A n xs) (h2 : RdR w B n xs) (hn : n ≤ 140737488355328) :
    Calls Tryz.prog 25 #[.slice A n c, .slice B n d] w fun e w' => e = .returned (.bool true) ∧ Mod none_ w w' := by
  have kE := Lib.hid (eqFunc_two w A B n c d xs h h2 hn)
  clear h h2
  go_enter Tryz.func25, Tryz.ntmps25
  go_wp2_with fail
  refine kE.out.mono ?_
  rintro e w1 ⟨rfl, hm1⟩
  dsimp only
  replace hm1 := Lib.hid hm1
  go_wp2_with fail
  go_ret
  exact ⟨rfl, hm1.out⟩
end Go.Proofs.YtdnbclhidpkpgaaGreat
/-
  The last of each, by insertion: plain. No condition.
-/
namespace Go.Proofs.YtdnbclhidpkpgaaGreat
set_option linter.unusedVariables false
set_option linter.unusedSimpArgs false
theorem lastOf_mem {xs : List Rs} {i : Is} {y : Rs} (h : lastOf xs i = some y) : y ∈ xs ∧ y.r.i = i := by
  unfold lastOf at h
  exact ⟨List.mem_reverse.1 (List.mem_of_find?_eq_some h), by simpa using List.find?_some h⟩
theorem isLt_ne {a b : Is} (h : isLt a b = true) : a ≠ b := by
  rintro rfl
  unfold isLt at h
  simp only [decide_eq_true_eq] at h
  omega
theorem isLt_asym {a b : Is} (h : isLt a b = true) : isLt b a = false := by
  unfold isLt at *
  simp only [decide_eq_true_eq, decide_eq_false_iff_not] at *
  omega
theorem eq_of_sorted : ∀ (ys zs : List Rs), (ys.Pairwise fun a b => isLt a.r.i b.r.i = true) → (zs.Pairwise fun a b => isLt a.r.i b.r.i = true) → (∀ x, x ∈ ys ↔ x ∈ zs) → ys = zs
  | [], [], _, _, _ => rfl
  | [], z :: zs, _, _, h => absurd ((h z).2 List.mem_cons_self) List.not_mem_nil
  | y :: ys, [], _, _, h => absurd ((h y).1 List.mem_cons_self) List.not_mem_nil
  | y :: ys, z :: zs, hy, hz, h => by
    rw [List.pairwise_cons] at hy hz
    have h1 := (h y).1 List.mem_cons_self
    have h2 := (h z).2 List.mem_cons_self
    have hyz : y = z := by
      rcases List.mem_cons.1 h1 with h1 | h1
      · exact h1
      · rcases List.mem_cons.1 h2 with h2 | h2
        · exact h2.symm
        · have a1 := hz.1 y h1
          have a2 := isLt_asym (hy.1 z h2)
          rw [a1] at a2
          cases a2
    subst hyz
    rw [eq_of_sorted ys zs hy.2 hz.2 (fun x => ⟨fun hx => by
      rcases List.mem_cons.1 ((h x).1 (List.mem_cons_of_mem _ hx)) with rfl | h3
      · exact absurd rfl (isLt_ne (hy.1 x hx))
      · exact h3, fun hx => by
      rcases List.mem_cons.1 ((h x).2 (List.mem_cons_of_mem _ hx)) with rfl | h3
      · exact absurd rfl (isLt_ne (hz.1 x hx))
      · exact h3⟩)]
theorem LastOf.sub {xs ys : List Rs} (h : LastOf xs ys) : ∀ y ∈ ys, y ∈ xs := fun y hy => (lastOf_mem (h.last y hy)).1
theorem isLt_trans {a b c : Is} (h1 : isLt a b = true) (h2 : isLt b c = true) : isLt a c = true := by
  unfold isLt at *
  simp only [decide_eq_true_eq] at *
  omega
theorem set_insts {ys : List Rs} {k : Nat} {y x : Rs} (hy : ys[k]? = some y) (he : y.r.i = x.r.i) : (ys.set k x).map (·.r.i) = ys.map (·.r.i) := by
  apply List.ext_getElem?
  intro j
  rw [List.getElem?_map, List.getElem?_map, List.getElem?_set]
  by_cases h : k = j
  · subst h
    obtain ⟨hl, _⟩ := List.getElem?_eq_some_iff.1 hy
    rw [if_pos rfl, if_pos hl, hy]
    simp [he]
  · rw [if_neg h]
theorem LastOf.upd {xs ys : List Rs} (h : LastOf xs ys) {k : Nat} {y : Rs} (hy : ys[k]? = some y) {x : Rs} (he : y.r.i = x.r.i) : LastOf (xs ++ [x]) (ys.set k x) := by
  obtain ⟨hl, hy2⟩ := List.getElem?_eq_some_iff.1 hy
  refine ⟨?_, fun z hz => ?_, fun z hz => ?_⟩
  · have h1 : (ys.map (·.r.i)).Pairwise (fun a b => isLt a b = true) := List.pairwise_map.2 h.sorted
    rw [← set_insts hy he] at h1
    exact List.pairwise_map.1 h1
  · obtain ⟨j, hj⟩ := List.mem_iff_getElem?.1 hz
    rw [List.getElem?_set] at hj
    by_cases hkj : k = j
    · subst hkj
      rw [if_pos rfl, if_pos hl] at hj
      cases hj
      rw [lastOf_snoc, if_pos rfl]
    · rw [if_neg hkj] at hj
      have hzy := List.mem_of_getElem? hj
      rw [lastOf_snoc, if_neg (fun e => ?_)]
      · exact h.last z hzy
      · have hym := List.mem_of_getElem? hy
        obtain ⟨hlj, hz2⟩ := List.getElem?_eq_some_iff.1 hj
        rw [← he] at e
        rcases Nat.lt_or_gt_of_ne hkj with h1 | h1
        · have := List.pairwise_iff_getElem.1 h.sorted k j hl hlj h1
          rw [hy2, hz2] at this
          exact isLt_ne this e
        · have := List.pairwise_iff_getElem.1 h.sorted j k hlj hl h1
          rw [hy2, hz2] at this
          exact isLt_ne this e.symm
  · have hx : x ∈ ys.set k x := List.mem_of_getElem? (i := k) (by rw [List.getElem?_set, if_pos rfl, if_pos hl])
    rcases List.mem_append.1 hz with hz | hz
    · obtain ⟨y', hy', e'⟩ := h.all z hz
      obtain ⟨j, hj⟩ := List.mem_iff_getElem?.1 hy'
      by_cases hkj : k = j
      · subst hkj
        rw [hy] at hj
        cases hj
        exact ⟨x, hx, by rw [← he]; exact e'⟩
      · exact ⟨y', List.mem_of_getElem? (i := j) (by rw [List.getElem?_set, if_neg hkj]; exact hj), e'⟩
    · rw [List.mem_singleton] at hz
      subst hz
      exact ⟨z, hx, rfl⟩
theorem LastOf.ins {xs ys : List Rs} (h : LastOf xs ys) (k : Nat) {x : Rs} (h1 : ∀ y ∈ ys.take k, isLt y.r.i x.r.i = true) (h2 : ∀ y ∈ ys.drop k, isLt x.r.i y.r.i = true) : LastOf (xs ++ [x]) ((ys.take k ++ [x]) ++ ys.drop k) := by
  have hs := h.sorted
  rw [← List.take_append_drop k ys, List.pairwise_append] at hs
  obtain ⟨s1, s2, s3⟩ := hs
  have hne : ∀ z ∈ ys, x.r.i ≠ z.r.i := fun z hz => by
    rw [← List.take_append_drop k ys] at hz
    rcases List.mem_append.1 hz with hz | hz
    · exact fun e => isLt_ne (h1 z hz) e.symm
    · exact isLt_ne (h2 z hz)
  refine ⟨?_, fun z hz => ?_, fun z hz => ?_⟩
  · rw [List.append_assoc, List.pairwise_append]
    refine ⟨s1, ?_, fun a ha b hb => ?_⟩
    · rw [List.singleton_append, List.pairwise_cons]
      exact ⟨h2, s2⟩
    · rw [List.singleton_append] at hb
      rcases List.mem_cons.1 hb with rfl | hb
      · exact h1 a ha
      · exact s3 a ha b hb
  · rw [List.append_assoc] at hz
    rw [lastOf_snoc]
    rcases List.mem_append.1 hz with hz | hz
    · have hzy := List.mem_of_mem_take hz
      rw [if_neg (hne z hzy)]; exact h.last z hzy
    · rw [List.singleton_append] at hz
      rcases List.mem_cons.1 hz with rfl | hz
      · rw [if_pos rfl]
      · have hzy := List.mem_of_mem_drop hz
        rw [if_neg (hne z hzy)]; exact h.last z hzy
  · rw [List.append_assoc]
    rcases List.mem_append.1 hz with hz | hz
    · obtain ⟨y', hy', e'⟩ := h.all z hz
      refine ⟨y', ?_, e'⟩
      rw [← List.take_append_drop k ys] at hy'
      rcases List.mem_append.1 hy' with hy' | hy'
      · exact List.mem_append.2 (.inl hy')
      · exact List.mem_append.2 (.inr (List.mem_append.2 (.inr hy')))
    · rw [List.mem_singleton] at hz
      subst hz
      exact ⟨z, List.mem_append.2 (.inr (List.mem_append.2 (.inl (List.mem_singleton.2 rfl)))), rfl⟩
theorem LastOf.nil : LastOf [] [] := ⟨List.Pairwise.nil, fun y hy => (List.not_mem_nil hy).elim, fun x hx => (List.not_mem_nil hx).elim⟩
/-- what stands ahead of a place, where the place stands before or at x -/
theorem LastOf.before {xs ys : List Rs} (h : LastOf xs ys) {k : Nat} {y x : Rs} (hy : ys[k]? = some y) (he : isLt y.r.i x.r.i = true) : ∀ z ∈ ys.take (k + 1), isLt z.r.i x.r.i = true := fun z hz => by
  rw [List.take_add_one, hy] at hz
  rcases List.mem_append.1 hz with hz | hz
  · obtain ⟨j, hj⟩ := List.mem_iff_getElem?.1 hz
    rw [List.getElem?_take] at hj
    by_cases hjk : j < k
    · rw [if_pos hjk] at hj
      obtain ⟨h1, e1⟩ := List.getElem?_eq_some_iff.1 hj
      obtain ⟨h2, e2⟩ := List.getElem?_eq_some_iff.1 hy
      have := List.pairwise_iff_getElem.1 h.sorted j k h1 h2 hjk
      rw [e1, e2] at this
      exact isLt_trans this he
    · rw [if_neg hjk] at hj; cases hj
  · simp only [Option.toList_some, List.mem_singleton] at hz
    subst hz
    exact he
theorem LastOf.one {xs ys zs : List Rs} (h : LastOf xs ys) (h' : LastOf xs zs) : zs = ys :=
  eq_of_sorted zs ys h'.sorted h.sorted (fun x => ⟨fun hx => by
    obtain ⟨y, hy, e⟩ := h.all x (h'.sub x hx)
    have h1 := h.last y hy
    rw [e, h'.last x hx] at h1
    cases h1
    exact hy, fun hx => by
    obtain ⟨y, hy, e⟩ := h'.all x (h.sub x hx)
    have h1 := h'.last y hy
    rw [e, h.last x hx] at h1
    cases h1
    exact hy⟩)
end Go.Proofs.YtdnbclhidpkpgaaGreat
/-
  The reference's Same of orders, in general. No condition.
-/
namespace Go.Proofs.YtdnbclhidpkpgaaGreat
set_option linter.unusedVariables false
set_option linter.unusedSimpArgs false
open Go.RowKit
theorem od_eq {a b : Od} : a = b ↔ (a.c = b.c ∧ a.s = b.s ∧ a.k = b.k ∧ a.acct = b.acct ∧ a.peer = b.peer ∧ a.sum = b.sum ∧ a.per = b.per ∧ a.hold = b.hold ∧ a.note = b.note) ∧ a.legs = b.legs := by
  cases a; cases b
  simp only [Od.mk.injEq]
  exact ⟨fun ⟨h1, h2, h3, h4, h5, h6, h7, h8, h9, h10⟩ => ⟨⟨h1, h2, h3, h4, h5, h6, h8, h9, h10⟩, h7⟩, fun ⟨⟨h1, h2, h3, h4, h5, h6, h8, h9, h10⟩, h7⟩ => ⟨h1, h2, h3, h4, h5, h6, h7, h8, h9, h10⟩⟩
def FieldsO (a b : Od) : Prop := a.c = b.c ∧ a.s = b.s ∧ a.k = b.k ∧ a.acct = b.acct ∧ a.peer = b.peer ∧ a.sum = b.sum ∧ a.per = b.per ∧ a.hold = b.hold ∧ a.note = b.note
set_option maxRecDepth 100000 in
set_option maxHeartbeats 8000000 in
theorem same6_no (w : World) (a b : Od) (L M : SV) (hf : ¬ FieldsO a b) :
    Calls Tryz.prog 80 #[.agg #[.int .i64 a.c, .int .i64 a.s, .int .i64 a.k, .string (txt a.acct), .string (txt a.peer), .int .i64 a.sum, .slice L.a L.n L.c, .int .i64 a.per, .int .i64 a.hold, .string (txt a.note)], .agg #[.int .i64 b.c, .int .i64 b.s, .int .i64 b.k, .string (txt b.acct), .string (txt b.peer), .int .i64 b.sum, .slice M.a M.n M.c, .int .i64 b.per, .int .i64 b.hold, .string (txt b.note)]] w fun e w' => e = .returned (.bool false) ∧ Mod none_ w w' := by
  have hid := fun W => neq_id W ⟨a.c, a.s⟩ ⟨b.c, b.s⟩
  unfold isV at hid
  dsimp only at hid
  unfold FieldsO at hf
  replace hf := Lib.hid hf
  go_enter Tryz.func80, Tryz.ntmps80
  go_wp2_with fail
  · go_ret
    exact ⟨rfl, ((Mod.refl none_ w).alloc _).alloc _⟩
  · have e1 : a.c = b.c ∧ a.s = b.s := by assumption
    exact absurd ⟨e1.1, e1.2, by assumption, by assumption, by assumption, by assumption, by assumption, by assumption, by assumption⟩ hf.out
  all_goals
    go_ret
    exact ⟨rfl, ((Mod.refl none_ w).alloc _).alloc _⟩
set_option maxRecDepth 100000 in
set_option maxHeartbeats 8000000 in
theorem same6_legs (w : World) (a : Od) (bl : List Lg) (L M : SV) (ha : OdM w a L) (hb : RdL w M.a M.n bl) (hL : L.n ≤ 140737488355328) (hM : M.n ≤ 140737488355328) (hab : a.legs ≠ bl) :
    Calls Tryz.prog 80 #[.agg #[.int .i64 a.c, .int .i64 a.s, .int .i64 a.k, .string (txt a.acct), .string (txt a.peer), .int .i64 a.sum, .slice L.a L.n L.c, .int .i64 a.per, .int .i64 a.hold, .string (txt a.note)], .agg #[.int .i64 a.c, .int .i64 a.s, .int .i64 a.k, .string (txt a.acct), .string (txt a.peer), .int .i64 a.sum, .slice M.a M.n M.c, .int .i64 a.per, .int .i64 a.hold, .string (txt a.note)]] w fun e w' => e = .returned (.bool false) ∧ Mod none_ w w' := by
  have hid := fun W => neq_id W ⟨a.c, a.s⟩ ⟨a.c, a.s⟩
  unfold isV at hid
  simp only [decide_true, Bool.not_true] at hid
  have hm0 := ((Mod.refl none_ w).alloc (.cells #[.int .i64 a.c, .int .i64 a.s, .int .i64 a.k, .string (txt a.acct), .string (txt a.peer), .int .i64 a.sum, .slice L.a L.n L.c, .int .i64 a.per, .int .i64 a.hold, .string (txt a.note)] 30)).alloc (.cells #[.int .i64 a.c, .int .i64 a.s, .int .i64 a.k, .string (txt a.acct), .string (txt a.peer), .int .i64 a.sum, .slice M.a M.n M.c, .int .i64 a.per, .int .i64 a.hold, .string (txt a.note)] 30)
  have hb1 := (Blk.new w 30 #[.int .i64 a.c, .int .i64 a.s, .int .i64 a.k, .string (txt a.acct), .string (txt a.peer), .int .i64 a.sum, .slice L.a L.n L.c, .int .i64 a.per, .int .i64 a.hold, .string (txt a.note)]).alloc (.cells #[.int .i64 a.c, .int .i64 a.s, .int .i64 a.k, .string (txt a.acct), .string (txt a.peer), .int .i64 a.sum, .slice M.a M.n M.c, .int .i64 a.per, .int .i64 a.hold, .string (txt a.note)] 30)
  have hb2 := Blk.new (w.alloc (.cells #[.int .i64 a.c, .int .i64 a.s, .int .i64 a.k, .string (txt a.acct), .string (txt a.peer), .int .i64 a.sum, .slice L.a L.n L.c, .int .i64 a.per, .int .i64 a.hold, .string (txt a.note)] 30)) 30 #[.int .i64 a.c, .int .i64 a.s, .int .i64 a.k, .string (txt a.acct), .string (txt a.peer), .int .i64 a.sum, .slice M.a M.n M.c, .int .i64 a.per, .int .i64 a.hold, .string (txt a.note)]
  have hsz : (w.alloc (.cells #[.int .i64 a.c, .int .i64 a.s, .int .i64 a.k, .string (txt a.acct), .string (txt a.peer), .int .i64 a.sum, .slice L.a L.n L.c, .int .i64 a.per, .int .i64 a.hold, .string (txt a.note)] 30)).heap.size = w.heap.size + 1 := by simp
  rw [hsz] at hb2
  clear hsz
  have hRa := Lib.hid ha.rd
  have hRb := Lib.hid hb
  have hal := Lib.hid ha.rd.len
  have hbl := Lib.hid hb.len
  clear ha hb
  replace hm0 := Lib.hid hm0
  replace hb1 := Lib.hid hb1
  replace hb2 := Lib.hid hb2
  replace hab := Lib.hid hab
  by_cases hLM : L.n = M.n
  · have hz : ((L.n : Int) != (M.n : Int)) = false := by simp [hLM]
    replace hLM := Lib.hid hLM
    go_enter Tryz.func80, Tryz.ntmps80
    go_wp2_with fail
    obtain ⟨W0, hW0⟩ : ∃ W0, W0 = (w.alloc (.cells #[.int .i64 a.c, .int .i64 a.s, .int .i64 a.k, .string (txt a.acct), .string (txt a.peer), .int .i64 a.sum, .slice L.a L.n L.c, .int .i64 a.per, .int .i64 a.hold, .string (txt a.note)] 30)).alloc (.cells #[.int .i64 a.c, .int .i64 a.s, .int .i64 a.k, .string (txt a.acct), .string (txt a.peer), .int .i64 a.sum, .slice M.a M.n M.c, .int .i64 a.per, .int .i64 a.hold, .string (txt a.note)] 30) := ⟨_, rfl⟩
    rw [← hW0] at hm0 hb1 hb2 ⊢
    replace hW0 := Lib.hid hW0
    go_loopg [5] L.n (fun k x wr => ∃ j : Nat, x = .int .i64 j ∧ j + k = L.n ∧ (∀ i, i < j → a.legs[i]? = bl[i]?) ∧ ∃ q, wr = W0.drewN q)
    case atStart => exact ⟨0, rfl, by omega, fun i h => absurd h (Nat.not_lt_zero _), 0, rfl⟩
    case round =>
      obtain ⟨j, rfl, hj, hall, q, hq⟩ := hrel
      have c1 : wr.cell? ⟨w.heap.size, 6, none⟩ = some (.slice L.a L.n L.c) := by rw [hq]; exact (hb1.out.drewN q).cell_ rfl
      have c2 : wr.cell? ⟨w.heap.size + 1, 6, none⟩ = some (.slice M.a M.n M.c) := by rw [hq]; exact (hb2.out.drewN q).cell_ rfl
      by_cases hlt : j < L.n
      · have hmq := hm0.out.drewN q
        have hltM : j < M.n := by have := hLM.out; omega
        obtain ⟨b, o, x, e1, -, hx0, a1, a2⟩ := rdl_get (w := W0.drewN q) (Rd.mod0 hRa.out hmq) hlt
        obtain ⟨b', o', y, e2, -, hy0, b1, b2⟩ := rdl_get (w := W0.drewN q) (Rd.mod0 hRb.out hmq) hltM
        rw [← hq] at a1 a2 b1 b2
        rw [e1] at c1
        rw [e2] at c2
        have hne := fun W => neq_lg W x y
        unfold lgV at hne
        have hend := Lib.hid (show Mod none_ w wr by rw [hq]; exact hmq)
        by_cases hxy : x = y
        · have hn : ∀ i, i < j + 1 → a.legs[i]? = bl[i]? := fun i hi => by
            by_cases e : i = j
            · rw [e, hx0, hy0, hxy]
            · exact hall i (by omega)
          simp only [hxy, decide_true, Bool.not_true] at hne a1 a2
          clear hall hmq
          replace hq := Lib.hid hq
          replace hn := Lib.hid hn
          replace e1 := Lib.hid e1
          replace e2 := Lib.hid e2
          replace hxy := Lib.hid hxy
          replace hx0 := Lib.hid hx0
          replace hy0 := Lib.hid hy0
          go_wp2_with (go_quiet (fail))
          go_roundg (gk - 1)
          case measure => omega
          case rel => exact ⟨j + 1, by go_num, by omega, hn.out, _, by rw [hq.out, World.drewN_drewN]⟩
        · rw [decide_eq_false hxy, Bool.not_false] at hne
          clear hall hmq
          replace hq := Lib.hid hq
          replace e1 := Lib.hid e1
          replace e2 := Lib.hid e2
          replace hxy := Lib.hid hxy
          replace hx0 := Lib.hid hx0
          replace hy0 := Lib.hid hy0
          go_wp2_with (go_quiet (fail))
          go_ret
          exact ⟨rfl, hend.out.drewN _⟩
      · exfalso
        apply hab.out
        apply List.ext_getElem?
        intro i
        by_cases hi : i < j
        · exact hall i hi
        · rw [List.getElem?_eq_none (by rw [hal.out]; omega), List.getElem?_eq_none (by rw [hbl.out]; have := hLM.out; omega)]
  · have hz : ((L.n : Int) != (M.n : Int)) = true := by simp; omega
    replace hLM := Lib.hid hLM
    go_enter Tryz.func80, Tryz.ntmps80
    go_wp2_with fail
    go_ret
    exact ⟨rfl, hm0.out⟩
theorem same6_ok (w : World) (a b : Od) (L M : SV) (ha : OdM w a L) (hb : OdM w b M) (hL : L.n ≤ 140737488355328) (hM : M.n ≤ 140737488355328) :
    Calls Tryz.prog 80 #[.agg #[.int .i64 a.c, .int .i64 a.s, .int .i64 a.k, .string (txt a.acct), .string (txt a.peer), .int .i64 a.sum, .slice L.a L.n L.c, .int .i64 a.per, .int .i64 a.hold, .string (txt a.note)], .agg #[.int .i64 b.c, .int .i64 b.s, .int .i64 b.k, .string (txt b.acct), .string (txt b.peer), .int .i64 b.sum, .slice M.a M.n M.c, .int .i64 b.per, .int .i64 b.hold, .string (txt b.note)]] w fun e w' => e = .returned (.bool (decide (a = b))) ∧ Mod none_ w w' := by
  by_cases hab : a = b
  · subst hab
    rw [decide_eq_true rfl]
    exact same6_eq w a L M ha hb hL
  rw [decide_eq_false hab]
  by_cases hf : FieldsO a b
  · have hl : a.legs ≠ b.legs := fun h => hab (od_eq.2 ⟨hf, h⟩)
    have := same6_legs w a b.legs L M ha hb.rd hL hM hl
    obtain ⟨f1, f2, f3, f4, f5, f6, f7, f8, f9⟩ := hf
    rw [f1, f2, f3, f4, f5, f6, f7, f8, f9] at this
    rw [f1, f2, f3, f4, f5, f6, f7, f8, f9]
    exact this
  · exact same6_no w a b L M hf
end Go.Proofs.YtdnbclhidpkpgaaGreat
/-
  The reference's bare. No condition.
-/
namespace Go.Proofs.YtdnbclhidpkpgaaGreat
set_option linter.unusedVariables false
set_option linter.unusedSimpArgs false
open Go.RowKit
set_option maxRecDepth 100000 in
set_option maxHeartbeats 8000000 in
theorem rbare_1 (w : World) (o : Od) (L : SV) (hk : o.k = 1) (b : Od) (M : SV) (hb : b = bare1 o) (hM : M = ⟨none, 0, 0⟩) :
    Calls Tryz.prog 98 #[.agg #[.int .i64 o.c, .int .i64 o.s, .int .i64 o.k, .string (txt o.acct), .string (txt o.peer), .int .i64 o.sum, .slice L.a L.n L.c, .int .i64 o.per, .int .i64 o.hold, .string (txt o.note)]] w fun e w' => e = .returned (.agg #[.int .i64 b.c, .int .i64 b.s, .int .i64 b.k, .string (txt b.acct), .string (txt b.peer), .int .i64 b.sum, .slice M.a M.n M.c, .int .i64 b.per, .int .i64 b.hold, .string (txt b.note)]) ∧ Mod none_ w w' := by
  subst hb hM
  unfold bare1
  dsimp only
  rw [hk]
  clear hk
  go_enter Tryz.func98, Tryz.ntmps98
  go_wp2_with fail
  exact ret_order rfl (w.heap.size + 1) _ rfl (Blk.alloc (heap_alloc2_new _ _ _) _) rfl rfl ⟨rfl, (((Mod.refl none_ w).alloc _).alloc _).alloc _⟩
set_option maxRecDepth 100000 in
set_option maxHeartbeats 8000000 in
theorem rbare_2 (w : World) (o : Od) (L : SV) (hk : o.k = 2) (b : Od) (M : SV) (hb : b = bare2 o) (hM : M = L) :
    Calls Tryz.prog 98 #[.agg #[.int .i64 o.c, .int .i64 o.s, .int .i64 o.k, .string (txt o.acct), .string (txt o.peer), .int .i64 o.sum, .slice L.a L.n L.c, .int .i64 o.per, .int .i64 o.hold, .string (txt o.note)]] w fun e w' => e = .returned (.agg #[.int .i64 b.c, .int .i64 b.s, .int .i64 b.k, .string (txt b.acct), .string (txt b.peer), .int .i64 b.sum, .slice M.a M.n M.c, .int .i64 b.per, .int .i64 b.hold, .string (txt b.note)]) ∧ Mod none_ w w' := by
  subst hb hM
  unfold bare2
  dsimp only
  rw [hk]
  clear hk
  go_enter Tryz.func98, Tryz.ntmps98
  go_wp2_with fail
  exact ret_order rfl (w.heap.size + 1) _ rfl (Blk.alloc (heap_alloc2_new _ _ _) _) rfl rfl ⟨rfl, (((Mod.refl none_ w).alloc _).alloc _).alloc _⟩
set_option maxRecDepth 100000 in
set_option maxHeartbeats 8000000 in
theorem rbare_3 (w : World) (o : Od) (L : SV) (hk : o.k = 3) (b : Od) (M : SV) (hb : b = bare3 o) (hM : M = ⟨none, 0, 0⟩) :
    Calls Tryz.prog 98 #[.agg #[.int .i64 o.c, .int .i64 o.s, .int .i64 o.k, .string (txt o.acct), .string (txt o.peer), .int .i64 o.sum, .slice L.a L.n L.c, .int .i64 o.per, .int .i64 o.hold, .string (txt o.note)]] w fun e w' => e = .returned (.agg #[.int .i64 b.c, .int .i64 b.s, .int .i64 b.k, .string (txt b.acct), .string (txt b.peer), .int .i64 b.sum, .slice M.a M.n M.c, .int .i64 b.per, .int .i64 b.hold, .string (txt b.note)]) ∧ Mod none_ w w' := by
  subst hb hM
  unfold bare3
  dsimp only
  rw [hk]
  clear hk
  go_enter Tryz.func98, Tryz.ntmps98
  go_wp2_with fail
  exact ret_order rfl (w.heap.size + 1) _ rfl (Blk.alloc (heap_alloc2_new _ _ _) _) rfl rfl ⟨rfl, (((Mod.refl none_ w).alloc _).alloc _).alloc _⟩
set_option maxRecDepth 100000 in
set_option maxHeartbeats 8000000 in
theorem rbare_4 (w : World) (o : Od) (L : SV) (hk : o.k = 4) (b : Od) (M : SV) (hb : b = bare4 o) (hM : M = ⟨none, 0, 0⟩) :
    Calls Tryz.prog 98 #[.agg #[.int .i64 o.c, .int .i64 o.s, .int .i64 o.k, .string (txt o.acct), .string (txt o.peer), .int .i64 o.sum, .slice L.a L.n L.c, .int .i64 o.per, .int .i64 o.hold, .string (txt o.note)]] w fun e w' => e = .returned (.agg #[.int .i64 b.c, .int .i64 b.s, .int .i64 b.k, .string (txt b.acct), .string (txt b.peer), .int .i64 b.sum, .slice M.a M.n M.c, .int .i64 b.per, .int .i64 b.hold, .string (txt b.note)]) ∧ Mod none_ w w' := by
  subst hb hM
  unfold bare4
  dsimp only
  rw [hk]
  clear hk
  go_enter Tryz.func98, Tryz.ntmps98
  go_wp2_with fail
  exact ret_order rfl (w.heap.size + 1) _ rfl (Blk.alloc (heap_alloc2_new _ _ _) _) rfl rfl ⟨rfl, (((Mod.refl none_ w).alloc _).alloc _).alloc _⟩
set_option maxRecDepth 100000 in
set_option maxHeartbeats 8000000 in
theorem rbare_5 (w : World) (o : Od) (L : SV) (hk : o.k = 5) (b : Od) (M : SV) (hb : b = bare5 o) (hM : M = ⟨none, 0, 0⟩) :
    Calls Tryz.prog 98 #[.agg #[.int .i64 o.c, .int .i64 o.s, .int .i64 o.k, .string (txt o.acct), .string (txt o.peer), .int .i64 o.sum, .slice L.a L.n L.c, .int .i64 o.per, .int .i64 o.hold, .string (txt o.note)]] w fun e w' => e = .returned (.agg #[.int .i64 b.c, .int .i64 b.s, .int .i64 b.k, .string (txt b.acct), .string (txt b.peer), .int .i64 b.sum, .slice M.a M.n M.c, .int .i64 b.per, .int .i64 b.hold, .string (txt b.note)]) ∧ Mod none_ w w' := by
  subst hb hM
  unfold bare5
  dsimp only
  rw [hk]
  clear hk
  go_enter Tryz.func98, Tryz.ntmps98
  go_wp2_with fail
  exact ret_order rfl (w.heap.size + 1) _ rfl (Blk.alloc (heap_alloc2_new _ _ _) _) rfl rfl ⟨rfl, (((Mod.refl none_ w).alloc _).alloc _).alloc _⟩
set_option maxRecDepth 100000 in
set_option maxHeartbeats 8000000 in
theorem rbare_6 (w : World) (o : Od) (L : SV) (hk : o.k = 6) (b : Od) (M : SV) (hb : b = bare6 o) (hM : M = ⟨none, 0, 0⟩) :
    Calls Tryz.prog 98 #[.agg #[.int .i64 o.c, .int .i64 o.s, .int .i64 o.k, .string (txt o.acct), .string (txt o.peer), .int .i64 o.sum, .slice L.a L.n L.c, .int .i64 o.per, .int .i64 o.hold, .string (txt o.note)]] w fun e w' => e = .returned (.agg #[.int .i64 b.c, .int .i64 b.s, .int .i64 b.k, .string (txt b.acct), .string (txt b.peer), .int .i64 b.sum, .slice M.a M.n M.c, .int .i64 b.per, .int .i64 b.hold, .string (txt b.note)]) ∧ Mod none_ w w' := by
  subst hb hM
  unfold bare6
  dsimp only
  rw [hk]
  clear hk
  go_enter Tryz.func98, Tryz.ntmps98
  go_wp2_with fail
  exact ret_order rfl (w.heap.size + 1) _ rfl (Blk.alloc (heap_alloc2_new _ _ _) _) rfl rfl ⟨rfl, (((Mod.refl none_ w).alloc _).alloc _).alloc _⟩
set_option maxRecDepth 100000 in
set_option maxHeartbeats 8000000 in
theorem rbare_7 (w : World) (o : Od) (L : SV) (hk : o.k = 7) (b : Od) (M : SV) (hb : b = bare7 o) (hM : M = ⟨none, 0, 0⟩) :
    Calls Tryz.prog 98 #[.agg #[.int .i64 o.c, .int .i64 o.s, .int .i64 o.k, .string (txt o.acct), .string (txt o.peer), .int .i64 o.sum, .slice L.a L.n L.c, .int .i64 o.per, .int .i64 o.hold, .string (txt o.note)]] w fun e w' => e = .returned (.agg #[.int .i64 b.c, .int .i64 b.s, .int .i64 b.k, .string (txt b.acct), .string (txt b.peer), .int .i64 b.sum, .slice M.a M.n M.c, .int .i64 b.per, .int .i64 b.hold, .string (txt b.note)]) ∧ Mod none_ w w' := by
  subst hb hM
  unfold bare7
  dsimp only
  rw [hk]
  clear hk
  go_enter Tryz.func98, Tryz.ntmps98
  go_wp2_with fail
  exact ret_order rfl (w.heap.size + 1) _ rfl (Blk.alloc (heap_alloc2_new _ _ _) _) rfl rfl ⟨rfl, (((Mod.refl none_ w).alloc _).alloc _).alloc _⟩
end Go.Proofs.YtdnbclhidpkpgaaGreat
