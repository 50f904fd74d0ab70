import Derived.Test.YtimlfdihodoolaaGreatZp14
import Derived.Test.YtimlfdihodoolaaGreatZp9
import Derived.Test.YtimlfdihodoolaaGreatZp17
/-
  The reference's order.Read. No condition.
-/
namespace Go.Proofs.YtimlfdihodoolaaGreat
set_option linter.unusedVariables false
set_option linter.unusedSimpArgs false
open Go.RowKit
set_option maxRecDepth 100000 in
set_option maxHeartbeats 8000000 in
theorem r6read_ok (w : World) (A : Option Addr) (n c : Nat) (b : List UInt8) (h : RdB w A n b) (hnc : n ≤ c) (hcm : c ≤ 9223372036854775807) : Calls Tryz.prog 24 #[.slice A n c] w (RdOPost w (r6Ord b)) := by
  obtain ⟨B, hB, hBA⟩ : ∃ B, B ≤ w.heap.size ∧ (0 < n → ∀ k, fp A k → k = B) := by
    rcases Nat.eq_zero_or_pos n with h0 | h0
    · exact ⟨w.heap.size, Nat.le_refl _, fun hh => absurd hh (by omega)⟩
    · cases A with
      | none => exact ⟨w.heap.size, Nat.le_refl _, fun _ k hk => by obtain ⟨a, ha, _⟩ := hk; cases ha⟩
      | some a => exact ⟨a.block, Nat.le_of_lt (Rd.blt (size := 1) (xs := bvs b) h h0 (by omega) _ ⟨a, rfl, rfl⟩), fun _ k hk => by obtain ⟨a', ha, hk⟩ := hk; cases ha; exact hk.symm⟩
  have hb0 := Blk.new w 30 #[.int .i64 0, .int .i64 0, .int .i64 0, .string ⟨#[]⟩, .string ⟨#[]⟩, .int .i64 0, .slice none 0 0, .int .i64 0, .int .i64 0, .string ⟨#[]⟩]
  have hm0 := (Mod.refl none_ w).alloc (.cells #[.int .i64 0, .int .i64 0, .int .i64 0, .string ⟨#[]⟩, .string ⟨#[]⟩, .int .i64 0, .slice none 0 0, .int .i64 0, .int .i64 0, .string ⟨#[]⟩] 30)
  have hs0 : (w.alloc (.cells #[.int .i64 0, .int .i64 0, .int .i64 0, .string ⟨#[]⟩, .string ⟨#[]⟩, .int .i64 0, .slice none 0 0, .int .i64 0, .int .i64 0, .string ⟨#[]⟩] 30)).heap.size = w.heap.size + 1 := by simp
  have hR0 : Rdr2 ((w.alloc (.cells #[.int .i64 0, .int .i64 0, .int .i64 0, .string ⟨#[]⟩, .string ⟨#[]⟩, .int .i64 0, .slice none 0 0, .int .i64 0, .int .i64 0, .string ⟨#[]⟩] 30)).alloc (.cells #[.slice A n c, .int .i64 0] 63)) (w.heap.size + 1) B b 0 :=
    ⟨A, n, c, (by have := Blk.new (w.alloc (.cells #[.int .i64 0, .int .i64 0, .int .i64 0, .string ⟨#[]⟩, .string ⟨#[]⟩, .int .i64 0, .slice none 0 0, .int .i64 0, .int .i64 0, .string ⟨#[]⟩] 30)) 63 #[.slice A n c, .int .i64 0]; rw [hs0] at this; exact this), Rd.mod0 h (hm0.alloc _), hnc, hcm, hBA, by omega⟩
  have hbr0 := hb0.mod ((Mod.refl none_ _).alloc (.cells #[.slice A n c, .int .i64 0] 63)) (fun h => h)
  have hM0 := hm0.alloc (.cells #[.slice A n c, .int .i64 0] 63)
  obtain ⟨x1, e1, l1, h1⟩ := tri_ (qg 0 9 (0, b))
  obtain ⟨x2, e2, l2, h2⟩ := tri_ (qg 1 999 (e1, l1))
  obtain ⟨x3, e3, l3, h3⟩ := tri_ (qg 1 7 (e2, l2))
  obtain ⟨x4, e4, l4, h4⟩ := tri_ (qt 8 (e3, l3))
  obtain ⟨x5, e5, l5, h5⟩ := tri_ (qt 8 (e4, l4))
  obtain ⟨x6, e6, l6, h6⟩ := tri_ (qn (e5, l5))
  obtain ⟨x7, e7, l7, h7⟩ := tri_ (qg 0 6 (e6, l6))
  obtain ⟨ls, e8, l8, h8⟩ := tri_ (rdList rdLeg x7.toNat (e7, l7))
  obtain ⟨x9, e9, l9, h9⟩ := tri_ (qg 0 1000 (e8, l8))
  obtain ⟨x10, e10, l10, h10⟩ := tri_ (qg 0 9999 (e9, l9))
  obtain ⟨x11, e11, l11, h11⟩ := tri_ (qt 20 (e10, l10))
  have hrd : rdO6 (0, b) = (⟨x1, x2, x3, x4, x5, x6, ls, x9, x10, x11⟩, e11, l11) := by
    unfold rdO6
    rw [bd_of h1, bd_of h2, bd_of h3, bd_of h4, bd_of h5, bd_of h6, bd_of h7, bd_of h8, bd_of h9, bd_of h10, bd_of h11]
    rfl
  have hfin : Hid (r6Ord b = if dn l11 e11 ≠ 0 ∨ rightO ⟨x1, x2, x3, x4, x5, x6, ls, x9, x10, x11⟩ = false then (od0, 3) else (⟨x1, x2, x3, x4, x5, x6, ls, x9, x10, x11⟩, 0)) := Lib.hid (by unfold r6Ord; rw [hrd])
  have hx7 := qg_in h7
  have t4 := Lib.hid (txt_small (by have := qt_in h4 (by omega); omega) : (txt x4).size ≤ maxLen)
  have t5 := Lib.hid (txt_small (by have := qt_in h5 (by omega); omega) : (txt x5).size ≤ maxLen)
  obtain ⟨hll, hlo⟩ := rdList_in rdLeg_in _ _ _ _ h8
  obtain ⟨k, rfl⟩ : ∃ k : Nat, x7 = (k : Int) := ⟨x7.toNat, by omega⟩
  have hk6 : k ≤ 6 := by omega
  have hl0 : Hid (ListRel rdLeg ls (e8, l8) k [] (e7, l7)) := Lib.hid ⟨ls, by simpa using h8, rfl⟩
  have hlz : Hid (∀ l ∈ ls, (txt l.n).size ≤ maxLen) := Lib.hid (fun l hl => txt_small (by have := (hlo l hl).1; omega))
  have hll2 : Hid (ls.length = k) := Lib.hid (by simpa using hll)
  clear hrd h h8 hx7 hlo hll hs0 hb0 hm0 hnc hcm hBA
  replace h1 := Lib.hid h1
  replace h2 := Lib.hid h2
  replace h3 := Lib.hid h3
  replace h4 := Lib.hid h4
  replace h5 := Lib.hid h5
  replace h6 := Lib.hid h6
  replace h7 := Lib.hid h7
  replace h9 := Lib.hid h9
  replace h10 := Lib.hid h10
  replace h11 := Lib.hid h11
  replace hR0 := Lib.hid hR0
  replace hbr0 := Lib.hid hbr0
  replace hM0 := Lib.hid hM0
  go_enter Tryz.func24, Tryz.ntmps24
  go_wp2_with fail
  refine (range_r2 h1.out hR0.out).mono ?_; rintro en w1 ⟨rfl, hR1, hm⟩; dsimp only at hR1 ⊢
  have hbr1 := Lib.hid (hbr0.out.mod hm (fun hh => by have : w.heap.size = w.heap.size + 1 := hh; omega)); have hM1 := Lib.hid (hM0.out.in_new (by omega) hm); clear hm hR0 hbr0 hM0
  replace hR1 := Lib.hid hR1
  go_wp2_with fail
  refine (range_r2 h2.out hR1.out).mono ?_; rintro en w2 ⟨rfl, hR2, hm⟩; dsimp only at hR2 ⊢
  have hbr2 := Lib.hid (hbr1.out.mod hm (fun hh => by have : w.heap.size = w.heap.size + 1 := hh; omega)); have hM2 := Lib.hid (hM1.out.in_new (by omega) hm); clear hm hR1 hbr1 hM1
  replace hR2 := Lib.hid hR2
  go_wp2_with fail
  refine (range_r2 h3.out hR2.out).mono ?_; rintro en w3 ⟨rfl, hR3, hm⟩; dsimp only at hR3 ⊢
  have hbr3 := Lib.hid (hbr2.out.mod hm (fun hh => by have : w.heap.size = w.heap.size + 1 := hh; omega)); have hM3 := Lib.hid (hM2.out.in_new (by omega) hm); clear hm hR2 hbr2 hM2
  replace hR3 := Lib.hid hR3
  go_wp2_with fail
  refine (text_r2 h4.out (by omega) hR3.out).mono ?_; rintro en w4 ⟨rfl, hR4, hm⟩; dsimp only at hR4 ⊢
  have hbr4 := Lib.hid (hbr3.out.mod hm (fun hh => by have : w.heap.size = w.heap.size + 1 := hh; omega)); have hM4 := Lib.hid (hM3.out.in_new (by omega) hm); clear hm hR3 hbr3 hM3
  replace hR4 := Lib.hid hR4
  go_wp2_with fail
  refine (text_r2 h5.out (by omega) hR4.out).mono ?_; rintro en w5 ⟨rfl, hR5, hm⟩; dsimp only at hR5 ⊢
  have hbr5 := Lib.hid (hbr4.out.mod hm (fun hh => by have : w.heap.size = w.heap.size + 1 := hh; omega)); have hM5 := Lib.hid (hM4.out.in_new (by omega) hm); clear hm hR4 hbr4 hM4
  replace hR5 := Lib.hid hR5
  go_wp2_with fail
  refine (num_r2 h6.out hR5.out).mono ?_; rintro en w6 ⟨rfl, hR6, hm⟩; dsimp only at hR6 ⊢
  have hbr6 := Lib.hid (hbr5.out.mod hm (fun hh => by have : w.heap.size = w.heap.size + 1 := hh; omega)); have hM6 := Lib.hid (hM5.out.in_new (by omega) hm); clear hm hR5 hbr5 hM5
  replace hR6 := Lib.hid hR6
  go_wp2_with fail
  refine (range_r2 h7.out hR6.out).mono ?_; rintro en w7 ⟨rfl, hR7, hm⟩; dsimp only at hR7 ⊢
  have hbr7 := Lib.hid (hbr6.out.mod hm (fun hh => by have : w.heap.size = w.heap.size + 1 := hh; omega)); have hM7 := Lib.hid (hM6.out.in_new (by omega) hm); clear hm hR6 hbr6 hM6
  replace hR7 := Lib.hid hR7
  have hgl := hR7.out.lt
  have st0 : FillS2 w 30 #[.int .i64 0, .int .i64 0, .int .i64 0, .string ⟨#[]⟩, .string ⟨#[]⟩, .int .i64 0, .slice none 0 0, .int .i64 0, .int .i64 0, .string ⟨#[]⟩] (w.heap.size + 1) B w7.heap.size (w7.alloc (.cells #[.int .i64 x1, .int .i64 x2, .int .i64 x3, .string (txt x4), .string (txt x5), .int .i64 x6, .slice none 0 0, .int .i64 0, .int .i64 0, .string ⟨#[]⟩] 30)) #[.int .i64 x1, .int .i64 x2, .int .i64 x3, .string (txt x4), .string (txt x5), .int .i64 x6, .slice none 0 0, .int .i64 0, .int .i64 0, .string ⟨#[]⟩] e7 l7 :=
    ⟨hR7.out.mod0 ((Mod.refl none_ w7).alloc _), hbr7.out.alloc _, Blk.new w7 _ _, hM7.out.alloc _, by omega, by omega, by omega, hB⟩
  clear hR7 hbr7 hM7
  generalize hg : w.heap.size + 1 = g at st0 hgl
  generalize hq : w7.heap.size = q at st0 hgl
  have hgq : ¬ g = q := by omega
  have hqg : ¬ q = g := by omega
  replace st0 := Lib.hid st0
  replace hg := Lib.hid hg
  go_wp2_with fail
  replace hq := Lib.hid hq
  go_loopw [20] (fun v wr => ∃ j : Nat, v = .int .i64 j ∧ j ≤ k ∧ ∃ A cp pre e l, FillS2 w 30 #[.int .i64 0, .int .i64 0, .int .i64 0, .string ⟨#[]⟩, .string ⟨#[]⟩, .int .i64 0, .slice none 0 0, .int .i64 0, .int .i64 0, .string ⟨#[]⟩] g B q wr #[.int .i64 x1, .int .i64 x2, .int .i64 x3, .string (txt x4), .string (txt x5), .int .i64 x6, .slice A j cp, .int .i64 0, .int .i64 0, .string ⟨#[]⟩] e l ∧ ListOwn w 96 2 g B q wr A j cp (lgs pre) ∧ ListRel rdLeg ls (e8, l8) (k - j) pre (e, l)) (fun v _ => k - (intOf v).toNat)
  case atStart => exact ⟨0, rfl, by omega, none, 0, [], e7, l7, st0.out, ListOwn.nil _ _ _ _ _ _ _, hl0.out⟩
  case round =>
    obtain ⟨j, rfl, hj, A9, cp, pre, e, l, st, lo, lr⟩ := hrel
    by_cases hlt : j < k
    · obtain ⟨xn, ea, la, ha⟩ := tri_ (qt 8 (e, l))
      obtain ⟨xs, eb, lb, hb⟩ := tri_ (qn (ea, la))
      have hleg : rdLeg (e, l) = (⟨xn, xs⟩, eb, lb) := by unfold rdLeg; rw [bd_of ha, bd_of hb] <;> rfl
      rw [show k - j = (k - (j + 1)) + 1 by omega] at lr
      have lr2 := Lib.hid (lr.step hleg)
      clear lr hleg
      replace ha := Lib.hid ha
      replace hb := Lib.hid hb
      replace st := Lib.hid st
      replace lo := Lib.hid lo
      go_wp2_with fail
      refine (text_r2 ha.out (by omega) st.out.rd).mono ?_; rintro en w9 ⟨rfl, hR, hm⟩; dsimp only at hR ⊢
      replace lo := Lib.hid (lo.out.call hm)
      replace st := Lib.hid (st.out.call hm hR); clear hm hR
      go_wp2_with fail
      refine (num_r2 hb.out st.out.rd).mono ?_; rintro en w10 ⟨rfl, hR, hm⟩; dsimp only at hR ⊢
      replace lo := Lib.hid (lo.out.call hm)
      replace st := Lib.hid (st.out.call hm hR); clear hm hR
      have i2 : w10.cell? ⟨q, 6, none⟩ = some (.slice A9 j cp) := st.out.var.cell_ rfl
      have sa := Lib.hid (st.out.alloc (.cells #[.string (txt xn), .int .i64 xs] 96))
      have la2 := Lib.hid (lo.out.mod0 ((Mod.refl none_ w10).alloc (.cells #[.string (txt xn), .int .i64 xs] 96)))
      clear st lo
      go_wp2_with (at_builtin; go_loud (refine appL rfl (.tmp 93) (.tmp 97) rfl rfl la2.out.ow rfl (rdl_one _ _ _ (by simp) ⟨xn, xs⟩) (by omega) ?_; intro A11 c11 w11 ho hmA hA; obtain ⟨lo, st⟩ := la2.out.app2 sa.out ho hmA hA; have j2 := st.var.cell_ (i := 6) rfl; have f2 := st.var.frozen 6; clear ho hmA hA; replace lo := Lib.hid lo; replace st := Lib.hid st))
      go_roundw
      case rel => exact ⟨j + 1, by go_num, by omega, A11, c11, pre ++ [⟨xn, xs⟩], eb, lb, st.out.store 6 _, lo.out.turn ((Mod.refl (only q) w11).set_only 6 _), lr2.out⟩
      case measure => simp [intOf]; omega
    · obtain rfl : j = k := by omega
      rw [Nat.sub_self] at lr
      obtain ⟨rfl, hel⟩ := lr.done
      simp only [Prod.mk.injEq] at hel
      obtain ⟨rfl, rfl⟩ := hel
      clear lr hl0
      replace st := Lib.hid st
      replace lo := Lib.hid lo
      go_wp2_with fail
      refine (range_r2 h9.out st.out.rd).mono ?_; rintro en w9 ⟨rfl, hR, hm⟩; dsimp only at hR ⊢
      replace lo := Lib.hid (lo.out.call hm)
      replace st := Lib.hid (st.out.call hm hR); clear hm hR
      go_wp2_with fail
      refine (range_r2 h10.out st.out.rd).mono ?_; rintro en w10 ⟨rfl, hR, hm⟩; dsimp only at hR ⊢
      replace lo := Lib.hid (lo.out.call hm)
      replace st := Lib.hid (st.out.call hm hR); clear hm hR
      go_wp2_with fail
      refine (text_r2 h11.out (by omega) st.out.rd).mono ?_; rintro en w11 ⟨rfl, hR, hm⟩; dsimp only at hR ⊢
      replace lo := Lib.hid (lo.out.call hm)
      replace st := Lib.hid (st.out.call hm hR); clear hm hR
      have i0 : w11.cell? ⟨q, 7, none⟩ = some (.int .i64 0) := st.out.var.cell_ rfl
      have i1 : w11.cell? ⟨q, 8, none⟩ = some (.int .i64 0) := st.out.var.cell_ rfl
      have i2 : w11.cell? ⟨q, 9, none⟩ = some (.string ⟨#[]⟩) := st.out.var.cell_ rfl
      have f0 : w11.frozen? ⟨q, 7, none⟩ = false := st.out.var.frozen 7
      have f1 : w11.frozen? ⟨q, 8, none⟩ = false := st.out.var.frozen 8
      have f2 : w11.frozen? ⟨q, 9, none⟩ = false := st.out.var.frozen 9
      have s2 : Hid (FillS2 w 30 #[.int .i64 0, .int .i64 0, .int .i64 0, .string ⟨#[]⟩, .string ⟨#[]⟩, .int .i64 0, .slice none 0 0, .int .i64 0, .int .i64 0, .string ⟨#[]⟩] g B q (((w11.setCell ⟨q, 7, none⟩ (.int .i64 x9)).setCell ⟨q, 8, none⟩ (.int .i64 x10)).setCell ⟨q, 9, none⟩ (.string (txt x11))) #[.int .i64 x1, .int .i64 x2, .int .i64 x3, .string (txt x4), .string (txt x5), .int .i64 x6, .slice A9 j cp, .int .i64 x9, .int .i64 x10, .string (txt x11)] e11 l11) := Lib.hid (((st.out.store 7 (.int .i64 x9)).store 8 (.int .i64 x10)).store 9 (.string (txt x11)))
      have lo2 := Lib.hid (lo.out.turn ((((Mod.refl (only q) w11).set_only 7 (.int .i64 x9)).set_only 8 (.int .i64 x10)).set_only 9 (.string (txt x11))))
      obtain ⟨A2, n2, c2, hb2, hrd2, hnc2, hcm2, hA2, hgB⟩ := st.out.rd
      have hl2 := hrd2.len
      subst hl2
      have r0 := hb2.cell_ (i := 0) rfl
      have r1 := hb2.cell_ (i := 1) rfl
      clear st lo hb2 hrd2 hA2 hnc2 hcm2 hgB
      have hbr := Lib.hid s2.out.res
      have hbq := Lib.hid s2.out.var
      have hM := Lib.hid s2.out.mod
      have hqw := s2.out.qw
      by_cases he : e11 = 0
      · subst he
        by_cases hl : l11.length = 0
        · have hl1 : l11 = [] := List.length_eq_zero_iff.1 hl
          subst hl1
          have hO : Hid (∀ W', Mod none_ (((w11.setCell ⟨q, 7, none⟩ (.int .i64 x9)).setCell ⟨q, 8, none⟩ (.int .i64 x10)).setCell ⟨q, 9, none⟩ (.string (txt x11))) W' → OdM W' ⟨x1, x2, x3, x4, x5, x6, pre, x9, x10, x11⟩ ⟨A9, j, cp⟩) := Lib.hid (fun W' hW => ⟨Rd.mod0 lo2.out.ow.rd hW, lo2.out.ow.2.1⟩)
          have kR := Lib.hid (r06right_ok _ ⟨x1, x2, x3, x4, x5, x6, pre, x9, x10, x11⟩ ⟨A9, j, cp⟩ (hO.out _ (Mod.refl _ _)) (by dsimp only; omega) hlz.out t4.out t5.out)
          have hfr : Hid (Fresh w A9) := Lib.hid (fun a ha => Nat.le_of_lt (lo2.out.fr a.block ⟨a, ha, rfl⟩))
          go_wp2_with (refine wpList_step (fun K hK => ?_); rw [if_pos (by rfl)]; refine wp_load_row 30 (.tmp 19) rfl q rfl _ _ _ _ hbq.out Tryz.underlying30 rfl order_size ?_; refine hK _ _ ?_)
          with_reducible refine kR.out.mono ?_
          rintro en w13 ⟨rfl, hm⟩
          dsimp only
          have hbr1 := Lib.hid (hbr.out.mod hm (fun h => h))
          have hbq1 := Lib.hid (hbq.out.mod hm (fun h => h))
          have hO1 : Hid (∀ W', Mod none_ w13 W' → OdM W' ⟨x1, x2, x3, x4, x5, x6, pre, x9, x10, x11⟩ ⟨A9, j, cp⟩) := Lib.hid (fun W' hW => hO.out W' (hm.trans hW))
          have hM1 := Lib.hid (hM.out.trans hm)
          have hnr := Lib.hid (show w.heap.size < q from hqw)
          clear hm hbr hbq hM hO r0 r1 i0 i1 i2 f0 f1 f2
          cases hr : rightO ⟨x1, x2, x3, x4, x5, x6, pre, x9, x10, x11⟩ with
          | false =>
            have hf : Hid (r6Ord b = (od0, 3)) := Lib.hid (by rw [hfin.out, hr]; simp)
            clear hr
            go_wp2_with (refine wpList_store_blk rfl 30 (.tmp 2) (.tmp 139) rfl w.heap.size 0 _ rfl rfl hbr1.out (by simp) order_size (by rfl) #[.int .i64 0, .int .i64 0, .int .i64 0, .string ⟨#[]⟩, .string ⟨#[]⟩, .int .i64 0, .slice none 0 0, .int .i64 0, .int .i64 0, .string ⟨#[]⟩] rfl ?_; intro w14 hb14 hm14; replace hb14 := Lib.hid hb14; replace hm14 := Lib.hid hm14)
            refine ret_row_tmp rfl w.heap.size rfl hb14.out Tryz.underlying30 rfl order_size (.int .i64 3) rfl rfl ?_
            exact ⟨od0, 3, ⟨none, 0, 0⟩, hf.out, rfl, od0_mem _, (fun a ha => by cases ha), hM1.out.in_new (Nat.le_refl _) hm14.out⟩
          | true =>
            have hf : Hid (r6Ord b = (⟨x1, x2, x3, x4, x5, x6, pre, x9, x10, x11⟩, 0)) := Lib.hid (by rw [hfin.out, hr]; simp [dn])
            clear hr
            go_wp2_with (first | (refine wpList_load_row rfl 30 (.tmp 19) rfl q rfl _ _ _ _ hbq1.out Tryz.underlying30 rfl order_size ?_) | (refine wpList_store_blk rfl 30 (.tmp 2) (.tmp 140) rfl w.heap.size 0 _ rfl rfl hbr1.out (by simp) order_size (by rfl) #[.int .i64 x1, .int .i64 x2, .int .i64 x3, .string (txt x4), .string (txt x5), .int .i64 x6, .slice A9 j cp, .int .i64 x9, .int .i64 x10, .string (txt x11)] rfl ?_; intro w14 hb14 hm14; replace hb14 := Lib.hid hb14; replace hm14 := Lib.hid hm14))
            refine ret_row_tmp rfl w.heap.size rfl hb14.out Tryz.underlying30 rfl order_size (.int .i64 0) rfl rfl ?_
            have hO2 : OdM w14 ⟨x1, x2, x3, x4, x5, x6, pre, x9, x10, x11⟩ ⟨A9, j, cp⟩ := ⟨Rd.mod (hO1.out _ (Mod.refl _ _)).rd hm14.out (fun k hk hh => by have : k = w.heap.size := hh; obtain ⟨a, ha, hka⟩ := hk; have := lo2.out.fr a.block ⟨a, ha, rfl⟩; omega), (hO1.out _ (Mod.refl _ _)).cap⟩
            exact ⟨⟨x1, x2, x3, x4, x5, x6, pre, x9, x10, x11⟩, 0, ⟨A9, j, cp⟩, hf.out, rfl, hO2, hfr.out, hM1.out.in_new (Nat.le_refl _) hm14.out⟩
        · have hl3 : (0 : Int) < (l11.length : Int) := by omega
          have hf : Hid (r6Ord b = (od0, 3)) := Lib.hid (by rw [hfin.out, if_pos (.inl (fun hd => hl (by rw [(dn_zero.1 hd).2] <;> rfl)))])
          go_wp2_with (refine wpList_store_blk rfl 30 (.tmp 2) (.tmp 139) rfl w.heap.size 0 _ rfl rfl hbr.out (by simp) order_size (by rfl) #[.int .i64 0, .int .i64 0, .int .i64 0, .string ⟨#[]⟩, .string ⟨#[]⟩, .int .i64 0, .slice none 0 0, .int .i64 0, .int .i64 0, .string ⟨#[]⟩] rfl ?_; intro w14 hb14 hm14; replace hb14 := Lib.hid hb14; replace hm14 := Lib.hid hm14)
          refine ret_row_tmp rfl w.heap.size rfl hb14.out Tryz.underlying30 rfl order_size (.int .i64 3) rfl rfl ?_
          exact ⟨od0, 3, ⟨none, 0, 0⟩, hf.out, rfl, od0_mem _, (fun a ha => by cases ha), hM.out.in_new (Nat.le_refl _) hm14.out⟩
      · have hd2 : ((e11 : Int) != 0) = true := by simp; omega
        have hf : Hid (r6Ord b = (od0, 3)) := Lib.hid (by rw [hfin.out, if_pos (.inl (fun hd => he (dn_zero.1 hd).1))])
        go_wp2_with (refine wpList_store_blk rfl 30 (.tmp 2) (.tmp 139) rfl w.heap.size 0 _ rfl rfl hbr.out (by simp) order_size (by rfl) #[.int .i64 0, .int .i64 0, .int .i64 0, .string ⟨#[]⟩, .string ⟨#[]⟩, .int .i64 0, .slice none 0 0, .int .i64 0, .int .i64 0, .string ⟨#[]⟩] rfl ?_; intro w14 hb14 hm14; replace hb14 := Lib.hid hb14; replace hm14 := Lib.hid hm14)
        refine ret_row_tmp rfl w.heap.size rfl hb14.out Tryz.underlying30 rfl order_size (.int .i64 3) rfl rfl ?_
        exact ⟨od0, 3, ⟨none, 0, 0⟩, hf.out, rfl, od0_mem _, (fun a ha => by cases ha), hM.out.in_new (Nat.le_refl _) hm14.out⟩
end Go.Proofs.YtimlfdihodoolaaGreat
