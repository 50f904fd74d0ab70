import Derived.Test.YtdnbclhidpkpgaaGreatKp13
import Derived.Deep.QuietTactic
import Derived.BigQuiet
import Derived.Test.YtdnbclhidpkpgaaGreatKp18
import Derived.Test.YtdnbclhidpkpgaaGreatKp1
/-
  The reference's comparison of bytes. No condition.
-/
namespace Go.Proofs.YtdnbclhidpkpgaaGreat
set_option linter.unusedVariables false
set_option linter.unusedSimpArgs false
open Go.RowKit
theorem conv_bytes (A : Option Addr) (n c : Nat) (l : List UInt8) (w : World) (h : RdB w A n l) : ∀ k, (convert 22 9 (.slice A n c)).run Tryz.prog (w.drewN k) = .ok (.string (txt l)) (w.drewN k) :=
  fun k => run_string_of_bytes (w.drewN k) _ _ 5 Tryz.underlying22 Tryz.underlying5 Tryz.underlying9 A n c l h
theorem conv_bytes0 (A : Option Addr) (n c : Nat) (l : List UInt8) (w : World) (h : RdB w A n l) : (convert 22 9 (.slice A n c)).run Tryz.prog w = .ok (.string (txt l)) w :=
  conv_bytes A n c l w h 0
theorem txt_inj (a b : List UInt8) : txt a = txt b ↔ a = b := by
  constructor
  · intro h
    have := congrArg ByteArray.toList h
    simpa using this
  · rintro rfl; rfl
theorem same2_ok (w : World) (A B : Option Addr) (n m d1 d2 : Nat) (la lb : List UInt8) (ha : RdB w A n la) (hb : RdB w B m lb) :
    Calls Tryz.prog 17 #[.slice A n d1, .slice B m d2] w fun e w' => e = .returned (.bool (decide (la = lb))) ∧ Mod none_ w w' := by
  have cv := conv_bytes _ _ d1 _ _ ha
  have cv' := conv_bytes _ _ d2 _ _ hb
  have cw := conv_bytes0 _ _ d1 _ _ ha
  have cw' := conv_bytes0 _ _ d2 _ _ hb
  have hinj := txt_inj la lb
  clear ha hb
  go_enter Tryz.func17, Tryz.ntmps17
  go_wp2_with (go_quiet (fail))
  go_ret
  refine ⟨?_, Mod.refl _ w⟩
  by_cases h : la = lb <;> simp [h]
end Go.Proofs.YtdnbclhidpkpgaaGreat
/-
  LogBack's walk. No condition.
-/
namespace Go.Proofs.YtdnbclhidpkpgaaGreat
set_option linter.unusedVariables false
set_option linter.unusedSimpArgs false
open Go.RowKit
theorem rdR_range {w : World} {g o : Nat} {x : Rs} (h : w.rangeAt g o (rsC x)) : RdR w (some ⟨g, o, none⟩) 1 [x] := by
  unfold RdR rss
  refine ⟨by simp [rsC], fun _ => ⟨_, rfl, fun k u hk => ?_⟩⟩
  rw [Addr.add_mid]
  exact h k u (by simpa using hk)
theorem RsL.one {w : World} {A : Option Addr} {x : Rs} (h : RdR w A 1 [x]) (hE : EnM w x.r.e x.L x.D) (hk : RsOk x) (hn : numsE x.r.e) : RsL w A 1 [x] :=
  ⟨h, fun y hy => by simp at hy; subst hy; exact hE, fun y hy => by simp at hy; subst hy; exact hk, fun y hy => by simp at hy; subst hy; exact hn⟩
theorem fewL_mem {xs : List Rs} {n : Nat} {y : Rs} (h : y ∈ fewL xs n) : ∃ x ∈ xs, y = cutR x := by
  unfold fewL at h
  rw [List.mem_map] at h
  obtain ⟨x, hx, rfl⟩ := h
  exact ⟨x, List.mem_of_mem_take hx, rfl⟩
theorem fewL_rs {w : World} {xs : List Rs} (hE : RsM w xs) (hk : ∀ x ∈ xs, RsOk x) (hn : ∀ x ∈ xs, numsE x.r.e) {A : Option Addr} {m : Nat} (n : Nat) (hr : RdR w A m (fewL xs n)) : RsL w A m (fewL xs n) :=
  ⟨hr, fun y hy => by obtain ⟨x, hx, rfl⟩ := fewL_mem hy; exact cut_mem (hE x hx), fun y hy => by obtain ⟨x, hx, rfl⟩ := fewL_mem hy; exact cut_ok (hk x hx),
   fun y hy => by obtain ⟨x, hx, rfl⟩ := fewL_mem hy; exact ⟨(hn x hx).1, fun l hl => (hn x hx).2 l (List.mem_of_mem_take hl)⟩⟩
set_option maxRecDepth 100000 in
set_option maxHeartbeats 8000000 in
theorem logBack_walk (w : World) (A : Option Addr) (N c : Nat) (xs : List Rs) (h : RsL w A N xs) (hN : N ≤ 140737488355328)
    (A' : Option Addr) (n' c' : Nat) (b : List UInt8) (hb : RdB w A' n' b) (hn' : n' ≤ 140737488355328) (hc' : n' ≤ c') :
    Calls Tryz.prog 4 #[.slice A N c, .slice A' n' c'] w fun e w' => e = .returned (.bool true) ∧ Mod none_ w w' := by
  have kL := Lib.hid (lives_ok w)
  have hlb := Lib.hid hb.len
  replace h := Lib.hid h
  replace hb := Lib.hid hb
  go_enter Tryz.func4, Tryz.ntmps4
  go_wp2_with fail
  refine kL.out.mono ?_
  rintro e w1 ⟨rfl, hm1⟩
  dsimp only
  have kF := Lib.hid (few_ok w1 A N c xs (Rd.mod0 h.out.rd hm1) (h.out.mem.mod0 hm1) h.out.ok hN)
  replace hm1 := Lib.hid hm1
  go_wp2_with fail
  refine kF.out.mono ?_
  rintro e w2 ⟨A2, m2, c2, rfl, ho2, hf2, hm2⟩
  dsimp only
  have hM2 := Lib.hid (hm1.out.trans hm2)
  have hY := Lib.hid (fewL_rs (h.out.mem.mod0 hM2.out) h.out.ok h.out.nums 20 ho2.rd)
  have hl2 : m2 ≤ 20 := by
    have h1 := ho2.len
    have h2 : (fewL xs 20).length ≤ 20 := by unfold fewL; simp; omega
    omega
  have hmc : m2 ≤ c2 := ho2.2.1
  generalize fewL xs 20 = ys at *
  have hw2 := Lib.hid (Rd.mod0 hb.out hM2.out : RdB w2 A' n' b)
  clear hm1 hm2 hf2 kF ho2
  go_wp2_with fail
  go_loopw [5] (fun y wr => ∃ j : Nat, y = .int .i64 j ∧ j ≤ m2 ∧ Mod none_ w2 wr) (fun y _ => m2 - (intOf y).toNat)
  case atStart => exact ⟨0, rfl, by omega, Mod.refl _ _⟩
  case round =>
    obtain ⟨j, rfl, hj, hm⟩ := hrel
    by_cases hlt : j < m2
    · obtain ⟨g, o, x, hA, hxm, hx, hrg⟩ := rdr_get (w := wr) (Rd.mod0 hY.out.rd hm) hlt
      subst hA
      have hEx := (hY.out.mem x hxm).mod0 hm
      obtain ⟨q1, q2, q3, q4⟩ := hY.out.ok x hxm
      have hnx := hY.out.nums x hxm
      have kB := Lib.hid (logBytes_ok wr x.r x.L x.D hEx q1 q2 q3 q4 hnx)
      have hxL := Lib.hid (fun W (hM : Mod none_ wr W) => RsL.one (rdR_range (rangeAt_mod hrg hM)) (hEx.mod0 hM) (hY.out.ok x hxm) hnx)
      unfold rsC at hrg
      clear q3 q4 hEx
      replace hm := Lib.hid hm
      replace hxm := Lib.hid hxm
      replace hx := Lib.hid hx
      replace hrg := Lib.hid hrg
      replace hnx := Lib.hid hnx
      go_wp2_with (refine wpList_load_mid rfl 37 (.tmp 27) rfl g (o + j * 17) rfl _ _ hrg.out Tryz.underlying37 rfl rc_size ?_)
      with_reducible refine kB.out.mono ?_
      rintro e w3 hpost
      rcases hpost with ⟨hr, A3, c3, rfl, ho3, hf3, hm3⟩ | ⟨hr, rfl, hm3⟩
      · dsimp only
        have hml : (recB x.r).length ≤ 100000000 := by have := recB_len (rightR_okRc hr hnx.out); omega
        have kRd := logRead_ok w3 A3 _ c3 (recB x.r) ho3.rd hml
        rw [rdRec_of hr hnx.out] at kRd
        have hM3 := Lib.hid hm3
        generalize (recB x.r).length = n3 at *
        clear ho3 hf3 hm3 hml kB
        replace kRd := Lib.hid kRd
        replace hr := Lib.hid hr
        go_wp2_with fail
        with_reducible refine kRd.out.mono ?_
        rintro e w4 ⟨m4, f4, L4, D4, he, rfl, hE4, hL4, hD4, hm4⟩
        simp only [Prod.mk.injEq] at he
        obtain ⟨hm4e, rfl⟩ := he
        have h0 : (((0 : Nat) : Int)) = 0 := rfl
        rw [h0]
        dsimp only
        have hM4 := Lib.hid (hM3.out.trans hm4)
        have hz4 := Lib.hid (Blk.new w4 37 #[.int .i64 0, .int .i64 0, .int .i64 0, .int .i64 0, .int .i64 0, .int .i64 0, .int .i64 0, .int .i64 0, .string ⟨#[]⟩, .string ⟨#[]⟩, .int .i64 0, .slice none 0 0, .int .i64 0, .int .i64 0, .string ⟨#[]⟩, .bool false, .slice none 0 0])
        have hk4 := Lib.hid (rdRec_ok (L := L4) (D := D4) (show rdRec (recB x.r) = (m4, 0) by rw [rdRec_of hr.out hnx.out, hm4e]) hE4)
        clear h0 hm4 kRd hM3 hL4 hD4
        replace hm4e := Lib.hid hm4e
        replace hE4 := Lib.hid hE4
        go_upto_region 10 with (refine wpList_store_blk rfl 37 (.tmp 8) (.tmp 37) rfl w4.heap.size 0 _ rfl rfl hz4.out (by simp) rc_size (by rfl) #[.int .i64 m4.i.r, .int .i64 m4.i.n, .int .i64 m4.bal, .int .i64 m4.st, .int .i64 m4.by_, .int .i64 m4.e.o.c, .int .i64 m4.e.o.s, .int .i64 m4.e.o.k, .string (txt m4.e.o.acct), .string (txt m4.e.o.peer), .int .i64 m4.e.o.sum, .slice L4.a L4.n L4.c, .int .i64 m4.e.o.per, .int .i64 m4.e.o.hold, .string (txt m4.e.o.note), .bool m4.e.none, .slice D4.a D4.n D4.c] rfl ?_; intro w5 hb5 hm5)
        have hm5' := ((Mod.refl none_ w4).alloc (.cells #[.int .i64 0, .int .i64 0, .int .i64 0, .int .i64 0, .int .i64 0, .int .i64 0, .int .i64 0, .int .i64 0, .string ⟨#[]⟩, .string ⟨#[]⟩, .int .i64 0, .slice none 0 0, .int .i64 0, .int .i64 0, .string ⟨#[]⟩, .bool false, .slice none 0 0] 37)).in_new (Nat.le_refl _) hm5
        have hM5 := Lib.hid ((hM4.out.trans hm5').drew)
        have hS5 : Blk w5.drew w4.heap.size 37 #[.int .i64 m4.i.r, .int .i64 m4.i.n, .int .i64 m4.bal, .int .i64 m4.st, .int .i64 m4.by_, .int .i64 m4.e.o.c, .int .i64 m4.e.o.s, .int .i64 m4.e.o.k, .string (txt m4.e.o.acct), .string (txt m4.e.o.peer), .int .i64 m4.e.o.sum, .slice L4.a L4.n L4.c, .int .i64 m4.e.o.per, .int .i64 m4.e.o.hold, .string (txt m4.e.o.note), .bool m4.e.none, .slice D4.a D4.n D4.c] := hb5.drew
        have hE5 := Lib.hid (hE4.out.mod0 hm5'.drew)
        have hne : ¬ c2 = j := by omega
        have hcl : j + 1 ≤ c2 := by omega
        have hcl2 : (j : Int) + 1 ≤ (c2 : Int) := by omega
        have hcl3 : 0 ≤ (j : Int) + 1 := by omega
        have hwr : IntKind.i64.wrap ((j : Int) + 1) = ((j + 1 : Nat) : Int) := by
          simp [IntKind.wrap, IntKind.bits, IntKind.signed]; omega
        have hcl4 : j + 1 - j = 1 := by omega
        clear hm5 hm5' hM4 hz4
        refine wp_region_held_drew (S := fun W => Blk W w4.heap.size 37 #[.int .i64 m4.i.r, .int .i64 m4.i.n, .int .i64 m4.bal, .int .i64 m4.st, .int .i64 m4.by_, .int .i64 m4.e.o.c, .int .i64 m4.e.o.s, .int .i64 m4.e.o.k, .string (txt m4.e.o.acct), .string (txt m4.e.o.peer), .int .i64 m4.e.o.sum, .slice L4.a L4.n L4.c, .int .i64 m4.e.o.per, .int .i64 m4.e.o.hold, .string (txt m4.e.o.note), .bool m4.e.none, .slice D4.a D4.n D4.c]) (by kernel_rfl) hS5 (fun hHeld => ?_)
        refine wpAnyH_take (i := 0) (v := ?_) rfl (by kernel_rfl) (by kernel_rfl) (by kernel_rfl) (fun _ _ _ h => h) (Or.inl ⟨by rfl, ?_⟩) (by assumption) ?_
        rotate_left
        · intro W hSw; (try dsimp only at hSw); go_simp; (try with_reducible rfl)
        try simp only [Act.put, List.getElem_toArray, List.getElem_cons_zero, List.getElem_cons_succ, List.setIfInBounds_toArray, List.set_cons_zero, List.set_cons_succ]
        refine wpAnyH_take (i := 1) (v := ?_) rfl (by kernel_rfl) (by kernel_rfl) (by kernel_rfl) (fun _ _ _ h => h) (Or.inl ⟨by rfl, ?_⟩) (by assumption) ?_
        rotate_left
        · intro W hSw; (try dsimp only at hSw); go_simp; (try with_reducible rfl)
        try simp only [Act.put, List.getElem_toArray, List.getElem_cons_zero, List.getElem_cons_succ, List.setIfInBounds_toArray, List.set_cons_zero, List.set_cons_succ]
        refine wpAnyH_take (i := 2) (v := ?_) rfl (by kernel_rfl) (by kernel_rfl) (by kernel_rfl) (fun _ _ _ h => h) (Or.inl ⟨by rfl, ?_⟩) (by assumption) ?_
        rotate_left
        · intro W hSw; (try dsimp only at hSw); go_simp; (try with_reducible rfl)
        try simp only [Act.put, List.getElem_toArray, List.getElem_cons_zero, List.getElem_cons_succ, List.setIfInBounds_toArray, List.set_cons_zero, List.set_cons_succ]
        refine wpAnyH_take (i := 3) rfl (by kernel_rfl) (by kernel_rfl) (by kernel_rfl) (fun _ _ _ h => h) (yieldsIf_load_mid (by rfl) 37 (.tmp 8) rfl w4.heap.size 0 rfl [.int .i64 m4.i.r, .int .i64 m4.i.n, .int .i64 m4.bal, .int .i64 m4.st, .int .i64 m4.by_, .int .i64 m4.e.o.c, .int .i64 m4.e.o.s, .int .i64 m4.e.o.k, .string (txt m4.e.o.acct), .string (txt m4.e.o.peer), .int .i64 m4.e.o.sum, .slice L4.a L4.n L4.c, .int .i64 m4.e.o.per, .int .i64 m4.e.o.hold, .string (txt m4.e.o.note), .bool m4.e.none, .slice D4.a D4.n D4.c] _ (fun W hW => Blk.range hW 0 _ rfl) Tryz.underlying37 rfl rc_size) (by assumption) ?_
        try simp only [Act.put, List.getElem_toArray, List.getElem_cons_zero, List.getElem_cons_succ, List.setIfInBounds_toArray, List.set_cons_zero, List.set_cons_succ]
        refine wpAnyH_take (i := 5) (v := ?_) rfl (by kernel_rfl) (by kernel_rfl) (by kernel_rfl) (fun _ _ _ h => h) (Or.inl ⟨by rfl, ?_⟩) (by assumption) ?_
        rotate_left
        · intro W hSw; (try dsimp only at hSw); go_simp; (try with_reducible rfl)
        try simp only [Act.put, List.getElem_toArray, List.getElem_cons_zero, List.getElem_cons_succ, List.setIfInBounds_toArray, List.set_cons_zero, List.set_cons_succ]
        refine wpAnyH_take (i := 6) (v := ?_) rfl (by kernel_rfl) (by kernel_rfl) (by kernel_rfl) (fun _ _ _ h => h) (Or.inl ⟨by rfl, ?_⟩) (by assumption) ?_
        rotate_left
        · intro W hSw; (try dsimp only at hSw); go_simp; (try with_reducible rfl)
        try simp only [Act.put, List.getElem_toArray, List.getElem_cons_zero, List.getElem_cons_succ, List.setIfInBounds_toArray, List.set_cons_zero, List.set_cons_succ]
        refine wpAnyH_take (i := 7) (v := ?_) rfl (by kernel_rfl) (by kernel_rfl) (by kernel_rfl) (fun _ _ _ h => h) (Or.inl ⟨by rfl, ?_⟩) (by assumption) ?_
        rotate_left
        · intro W hSw; (try dsimp only at hSw); go_simp; (try with_reducible rfl)
        try simp only [Act.put, List.getElem_toArray, List.getElem_cons_zero, List.getElem_cons_succ, List.setIfInBounds_toArray, List.set_cons_zero, List.set_cons_succ]
        refine wpAnyH_take (i := 8) (v := ?_) rfl (by kernel_rfl) (by kernel_rfl) (by kernel_rfl) (fun _ _ _ h => h) (Or.inl ⟨by rfl, ?_⟩) (by assumption) ?_
        rotate_left
        · intro W hSw; (try dsimp only at hSw); go_simp; (try with_reducible rfl)
        try simp only [Act.put, List.getElem_toArray, List.getElem_cons_zero, List.getElem_cons_succ, List.setIfInBounds_toArray, List.set_cons_zero, List.set_cons_succ]
        refine wpAnyH_take (i := 9) (v := ?_) rfl (by kernel_rfl) (by kernel_rfl) (by kernel_rfl) (fun _ _ _ h => h) (Or.inl ⟨by rfl, ?_⟩) (by assumption) ?_
        rotate_left
        · intro W hSw; (try dsimp only at hSw); go_simp; (try with_reducible rfl)
        try simp only [Act.put, List.getElem_toArray, List.getElem_cons_zero, List.getElem_cons_succ, List.setIfInBounds_toArray, List.set_cons_zero, List.set_cons_succ]
        refine wpAnyH_ready (rs := [4]) (by kernel_rfl) (by simp) ?_
        refine AllReadyH.cons rfl (fun K hK => ?_) AllReadyH.nil
        go_simp
        have hm6 := (Mod.refl none_ w5.drew).alloc (.cells #[.int .i64 m4.i.r, .int .i64 m4.i.n, .int .i64 m4.bal, .int .i64 m4.st, .int .i64 m4.by_, .int .i64 m4.e.o.c, .int .i64 m4.e.o.s, .int .i64 m4.e.o.k, .string (txt m4.e.o.acct), .string (txt m4.e.o.peer), .int .i64 m4.e.o.sum, .slice L4.a L4.n L4.c, .int .i64 m4.e.o.per, .int .i64 m4.e.o.hold, .string (txt m4.e.o.note), .bool m4.e.none, .slice D4.a D4.n D4.c] 37)
        have hS6 := hS5.alloc (.cells #[.int .i64 m4.i.r, .int .i64 m4.i.n, .int .i64 m4.bal, .int .i64 m4.st, .int .i64 m4.by_, .int .i64 m4.e.o.c, .int .i64 m4.e.o.s, .int .i64 m4.e.o.k, .string (txt m4.e.o.acct), .string (txt m4.e.o.peer), .int .i64 m4.e.o.sum, .slice L4.a L4.n L4.c, .int .i64 m4.e.o.per, .int .i64 m4.e.o.hold, .string (txt m4.e.o.note), .bool m4.e.none, .slice D4.a D4.n D4.c] 37)
        have hM6 := Lib.hid (hM5.out.trans hm6)
        have kS := Lib.hid (same15_eq (w5.drew.alloc (.cells #[.int .i64 m4.i.r, .int .i64 m4.i.n, .int .i64 m4.bal, .int .i64 m4.st, .int .i64 m4.by_, .int .i64 m4.e.o.c, .int .i64 m4.e.o.s, .int .i64 m4.e.o.k, .string (txt m4.e.o.acct), .string (txt m4.e.o.peer), .int .i64 m4.e.o.sum, .slice L4.a L4.n L4.c, .int .i64 m4.e.o.per, .int .i64 m4.e.o.hold, .string (txt m4.e.o.note), .bool m4.e.none, .slice D4.a D4.n D4.c] 37)) _ _ 1 1 1 (c2 - j) [⟨m4, L4, D4⟩] [x] (RsL.one (rdR_one w5.drew ⟨m4, L4, D4⟩) (hE5.out.mod0 hm6) hk4.out.1 hk4.out.2) (hxL.out _ hM6.out) (by simp [hm4e.out]) (by omega))
        clear hm6
        refine hK.out _ _ (hS6) (fun hHeld => ?_)
        clear hK K
        try simp only [Act.put, List.getElem_toArray, List.getElem_cons_zero, List.getElem_cons_succ, List.setIfInBounds_toArray, List.set_cons_zero, List.set_cons_succ]
        refine wpAnyH_ready (rs := [10]) (by kernel_rfl) (by simp) ?_
        refine AllReadyH.cons rfl (fun K hK => ?_) AllReadyH.nil
        go_simp
        refine kS.out.mono ?_
        rintro e w7 ⟨rfl, hm7⟩
        dsimp only
        have hS7 := hS6.mod hm7 (fun h => h)
        have hM7 := Lib.hid (hm.out.trans (hM6.out.trans hm7))
        clear hm7 hM6 hM5
        go_wp2_with fail
        refine hK.out _ _ (hS7) (fun hHeld => ?_)
        clear hK K
        try simp only [Act.put, List.getElem_toArray, List.getElem_cons_zero, List.getElem_cons_succ, List.setIfInBounds_toArray, List.set_cons_zero, List.set_cons_succ]
        refine wpAnyH_take (i := 11) (v := ?_) rfl (by kernel_rfl) (by kernel_rfl) (by kernel_rfl) (fun _ _ _ h => h) (Or.inl ⟨by rfl, ?_⟩) (by assumption) ?_
        rotate_left
        · intro W hSw; (try dsimp only at hSw); go_simp; (try with_reducible rfl)
        try simp only [Act.put, List.getElem_toArray, List.getElem_cons_zero, List.getElem_cons_succ, List.setIfInBounds_toArray, List.set_cons_zero, List.set_cons_succ]
        refine wpAnyH_take (i := 12) (v := ?_) rfl (by kernel_rfl) (by kernel_rfl) (by kernel_rfl) (fun _ _ _ h => h) (Or.inl ⟨by rfl, ?_⟩) (by assumption) ?_
        rotate_left
        · intro W hSw; (try dsimp only at hSw); go_simp; (try with_reducible rfl)
        try simp only [Act.put, List.getElem_toArray, List.getElem_cons_zero, List.getElem_cons_succ, List.setIfInBounds_toArray, List.set_cons_zero, List.set_cons_succ]
        refine wpAnyH_done (by kernel_rfl) ?_ _
        clear hHeld hS5 hS6 hS7
        go_wp2_with fail
        go_roundw
        case rel => exact ⟨j + 1, by go_num, by omega, hM7.out⟩
        case measure => simp [intOf]; omega
      · dsimp only
        have hM3 := Lib.hid (hm.out.trans hm3)
        clear hm3 kB
        replace hr := Lib.hid hr
        go_wp2_with fail
        go_roundw
        case rel => exact ⟨j + 1, by go_num, by omega, hM3.out⟩
        case measure => simp [intOf]; omega
    · obtain rfl : j = m2 := by omega
      obtain ⟨k, hkk⟩ : ∃ k, k = min n' 3000 := ⟨_, rfl⟩
      have hk1 : min (n' : Int) 3000 = (k : Int) := by omega
      have hk2 : (k : Int) ≤ (c' : Int) := by omega
      have hk3 : k ≤ n' := by omega
      have hk4 : k ≤ 3000 := by omega
      have hk5 : k ≤ c' := by omega
      have hrb := Lib.hid (rdb_take (Rd.mod0 hw2.out hm) hk3)
      have kRd := logRead_ok wr A' k c' (b.take k) hrb.out (by omega)
      replace hkk := Lib.hid hkk
      replace hm := Lib.hid hm
      obtain ⟨mm, f, hmf⟩ := duo_ (rdRec (b.take k))
      rw [hmf] at kRd
      replace kRd := Lib.hid kRd
      replace hmf := Lib.hid hmf
      go_wp2_with fail
      with_reducible refine kRd.out.mono ?_
      rintro e w4 ⟨m4, f4, L4, D4, he, rfl, hE4, _, _, hm4⟩
      simp only [Prod.mk.injEq] at he
      obtain ⟨rfl, rfl⟩ := he
      dsimp only
      have hM4 := Lib.hid (hM2.out.trans (hm.out.trans hm4))
      have hrb4 := Lib.hid (Rd.mod0 hrb.out hm4 : RdB w4 A' k (b.take k))
      have hz4 := Lib.hid (Blk.new w4 37 #[.int .i64 0, .int .i64 0, .int .i64 0, .int .i64 0, .int .i64 0, .int .i64 0, .int .i64 0, .int .i64 0, .string ⟨#[]⟩, .string ⟨#[]⟩, .int .i64 0, .slice none 0 0, .int .i64 0, .int .i64 0, .string ⟨#[]⟩, .bool false, .slice none 0 0])
      clear hm4 kRd
      replace hE4 := Lib.hid hE4
      by_cases hf : f = 0
      · subst hf
        obtain ⟨y1, y2, -⟩ := rdRec_yes hmf.out
        have h0 : (((0 : Nat) : Int)) = 0 := rfl
        rw [h0]
        clear h0
        obtain ⟨⟨v1, v2, v3, v4⟩, v5⟩ := rdRec_ok hmf.out hE4.out
        have kB := Lib.hid (fun W (h : Mod none_ w4 W) => logBytes_ok W mm L4 D4 (hE4.out.mod0 h) v1 v2 v3 v4 v5)
        rw [y1] at kB
        clear v1 v2 v3 v4 v5
        replace y2 := Lib.hid y2
        replace y1 := Lib.hid y1
        go_wp2_with (first
          | (refine wpList_store_blk rfl 37 (.tmp 10) (.tmp 60) rfl w4.heap.size 0 _ rfl rfl hz4.out (by simp) rc_size (by rfl) #[.int .i64 mm.i.r, .int .i64 mm.i.n, .int .i64 mm.bal, .int .i64 mm.st, .int .i64 mm.by_, .int .i64 mm.e.o.c, .int .i64 mm.e.o.s, .int .i64 mm.e.o.k, .string (txt mm.e.o.acct), .string (txt mm.e.o.peer), .int .i64 mm.e.o.sum, .slice L4.a L4.n L4.c, .int .i64 mm.e.o.per, .int .i64 mm.e.o.hold, .string (txt mm.e.o.note), .bool mm.e.none, .slice D4.a D4.n D4.c] rfl ?_; intro w5 hb5 hm5; have hm5' := Lib.hid (((Mod.refl none_ w4).alloc (.cells #[.int .i64 0, .int .i64 0, .int .i64 0, .int .i64 0, .int .i64 0, .int .i64 0, .int .i64 0, .int .i64 0, .string ⟨#[]⟩, .string ⟨#[]⟩, .int .i64 0, .slice none 0 0, .int .i64 0, .int .i64 0, .string ⟨#[]⟩, .bool false, .slice none 0 0] 37)).in_new (Nat.le_refl _) hm5); replace hb5 := Lib.hid hb5; clear hm5)
          | (refine wpList_load_row rfl 37 (.tmp 10) rfl w4.heap.size rfl _ _ _ _ hb5.out Tryz.underlying37 rfl rc_size ?_))
        with_reducible refine (kB.out _ hm5'.out).mono ?_
        rintro e w6 hpost
        obtain ⟨A6, c6, rfl, ho6, hf6, hm6⟩ : ∃ A c, e = .returned (.tuple #[.slice A (recB mm).length c, .int .i64 0]) ∧ OwB w6 5 A (recB mm).length c (recB mm) ∧ Fresh w5 A ∧ Mod none_ w5 w6 := by
          rcases hpost with ⟨_, h⟩ | ⟨h, _⟩
          · exact h
          · cases h
        dsimp only
        have hmm6 := Lib.hid (hm5'.out.trans hm6)
        have kS := same2_ok w6 A6 A' _ k c6 c' (recB mm) (b.take k) ho6.rd (Rd.mod0 hrb4.out hmm6.out)
        have hdd : decide (recB mm = b.take k) = true := decide_eq_true y2.out.symm
        rw [hdd] at kS
        generalize (recB mm).length = n6 at *
        clear hpost ho6 hf6 hm6 hdd kB
        replace kS := Lib.hid kS
        go_wp2_with fail
        with_reducible refine kS.out.mono ?_
        rintro e w7 ⟨rfl, hm7⟩
        dsimp only
        replace hm7 := Lib.hid hm7
        go_wp2_with fail
        go_ret
        exact ⟨rfl, hM4.out.trans (hmm6.out.trans hm7.out)⟩
      · have hf2 : ((f : Int) != 0) = true := by simp; omega
        have hz : mm = rc0 := by
          rcases rdRec_two (b.take k) with h1 | h1
          · rw [hmf.out] at h1; exact absurd h1 hf
          · rw [hmf.out] at h1; cases h1; rfl
        subst hz
        clear hf
        go_wp2_with (refine wpList_store_blk rfl 37 (.tmp 10) (.tmp 60) rfl w4.heap.size 0 _ rfl rfl hz4.out (by simp) rc_size (by rfl) #[.int .i64 rc0.i.r, .int .i64 rc0.i.n, .int .i64 rc0.bal, .int .i64 rc0.st, .int .i64 rc0.by_, .int .i64 rc0.e.o.c, .int .i64 rc0.e.o.s, .int .i64 rc0.e.o.k, .string (txt rc0.e.o.acct), .string (txt rc0.e.o.peer), .int .i64 rc0.e.o.sum, .slice L4.a L4.n L4.c, .int .i64 rc0.e.o.per, .int .i64 rc0.e.o.hold, .string (txt rc0.e.o.note), .bool rc0.e.none, .slice D4.a D4.n D4.c] rfl ?_; intro w5 hb5 hm5; have hm5' := ((Mod.refl none_ w4).alloc (.cells #[.int .i64 0, .int .i64 0, .int .i64 0, .int .i64 0, .int .i64 0, .int .i64 0, .int .i64 0, .int .i64 0, .string ⟨#[]⟩, .string ⟨#[]⟩, .int .i64 0, .slice none 0 0, .int .i64 0, .int .i64 0, .string ⟨#[]⟩, .bool false, .slice none 0 0] 37)).in_new (Nat.le_refl _) hm5; have hM5 := Lib.hid (hM4.out.trans hm5'); have s2 : w5.cell? ⟨w4.heap.size, 3, none⟩ = some (.int .i64 0) := hb5.cell_ rfl; have s3 : w5.cell? ⟨w4.heap.size, 1, none⟩ = some (.int .i64 0) := hb5.cell_ rfl; clear hm5 hm5' hb5)
        go_ret
        exact ⟨rfl, hM5.out⟩
end Go.Proofs.YtdnbclhidpkpgaaGreat
/-
  append as a step of the walk behind a guard that lets it run. No condition.
-/
namespace Go.Proofs.YtdnbclhidpkpgaaGreat
set_option linter.unusedVariables false
set_option linter.unusedSimpArgs false
open Go.RowKit
theorem wpList_append_owg {P : Program} {w : World} {ops : Array Oper} {rest : List Oper} {o : Oper} {a : Act} {Q : Exit → Act → World → Prop} (hw : Region.wanted o (yielded ops a.tmps) = true) (s x : Operand) (t : TypeId)
    (ho : o.op = .call { callee := .builtin .append, args := #[s, x], argTypes := #[t, t] })
    (e : TypeId) (i : TypeInfo) (z : Value) (size bytes : Nat) (ht : P.underlying t = some (.slice e)) (hi : P.info? e = some i) (hz : i.zero = some z)
    (hsize : i.size = size) (hby : i.bytes = bytes) (hzs : z.cells.size = size) (hsz : 0 < size)
    (A : Option Addr) (n c : Nat) (xs : List Value) (hs : a.eval s = .slice A n c) (hown : Ow w e size A n c xs)
    (S : Option Addr) (m d : Nat) (news : List Value) (hx : a.eval x = .slice S m d) (hr : Rd w size S m news) (h1 : ∀ u ∈ news, u.oneCell' = true)
    (hbytes : (n + m) * bytes ≤ 140737488355328) (h63 : n + m ≤ 9223372036854775807)
    (h : ∀ A' c' w', Ow w' e size A' (n + m) c' (xs ++ news) → Mod (fp A) w w' → (A' = A ∨ A' = some ⟨w.heap.size, 0, none⟩) → wpList P ops Q rest (a.put o.dst (.slice A' (n + m) c')) w') : wpList P ops Q (o :: rest) a w :=
  wpList_step fun _ hK => by
    rw [if_pos hw]
    exact wp_append_ow w s x t ho e i z size bytes ht hi hz hsize hby hzs hsz A n c xs hs hown S m d news hx hr h1 hbytes h63 fun A' c' w' h2 h3 h4 => hK _ _ (h A' c' w' h2 h3 h4)
theorem Mod.then_own {w w1 w2 : World} {A : Option Addr} (hm : Mod (fp none) w w1) (hA : A = none ∨ A = some ⟨w.heap.size, 0, none⟩) (hm2 : Mod (fp A) w1 w2) : Mod none_ w w2 := by
  refine (hm.mono (G := none_) ?_).then hm2 ?_
  · rintro i ⟨a, ha, _⟩; cases ha
  · rintro i hi ⟨a, ha, rfl⟩
    rcases hA with rfl | rfl
    · cases ha
    · cases ha; simp only at hi; omega
theorem Mod.nil_own {w w1 : World} (hm : Mod (fp none) w w1) : Mod none_ w w1 := hm.mono (G := none_) (by rintro i ⟨a, ha, _⟩; cases ha)
end Go.Proofs.YtdnbclhidpkpgaaGreat
