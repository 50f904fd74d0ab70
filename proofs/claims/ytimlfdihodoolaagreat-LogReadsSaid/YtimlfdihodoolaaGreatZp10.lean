import Derived.Test.YtimlfdihodoolaaGreatZp9
import Derived.Test.YtimlfdihodoolaaGreatZp3
import Derived.Deep.DeepCutAuto
import Derived.Test.YtimlfdihodoolaaGreatZp2
import Derived.Test.YtimlfdihodoolaaGreatZp1
import Derived.Test.YtimlfdihodoolaaGreatRows
import Derived.StillTailTactics
import Derived.Deep.RegionHeld3
import Derived.Handy
/-
  log.Read. No condition.
-/
namespace Go.Proofs.YtimlfdihodoolaaGreat
set_option linter.unusedVariables false
set_option linter.unusedSimpArgs false
open Go.RowKit
def RcPost (w : World) (r : Rc × Nat) (en : Ending) (w' : World) : Prop :=
  ∃ (x : Rc) (f : Nat) (L D : SV), r = (x, f) ∧ en = .returned (.tuple #[.agg #[.int .i64 x.i.r, .int .i64 x.i.n, .int .i64 x.bal, .int .i64 x.st, .int .i64 x.by_, .int .i64 x.e.o.c, .int .i64 x.e.o.s, .int .i64 x.e.o.k, .string (txt x.e.o.acct), .string (txt x.e.o.peer), .int .i64 x.e.o.sum, .slice L.a L.n L.c, .int .i64 x.e.o.per, .int .i64 x.e.o.hold, .string (txt x.e.o.note), .bool x.e.none, .slice D.a D.n D.c], .int .i64 (f : Int)]) ∧ EnM w' x.e L D ∧ Fresh w L.a ∧ Fresh w D.a ∧ Mod none_ w w'
theorem RcPost.zero {w w' : World} {r : Rc × Nat} {en : Ending} (h : r = (rc0, 3)) (he : en = .returned (.tuple #[.agg #[.int .i64 0, .int .i64 0, .int .i64 0, .int .i64 0, .int .i64 0, .int .i64 0, .int .i64 0, .int .i64 0, .string ⟨#[]⟩, .string ⟨#[]⟩, .int .i64 0, .slice none 0 0, .int .i64 0, .int .i64 0, .string ⟨#[]⟩, .bool false, .slice none 0 0], .int .i64 3])) (hm : Mod none_ w w') : RcPost w r en w' :=
  ⟨rc0, 3, ⟨none, 0, 0⟩, ⟨none, 0, 0⟩, h, he, en0_mem _, (fun a ha => by cases ha), (fun a ha => by cases ha), hm⟩
/-- a step of the reader's last look -/
structure EndSt (w : World) (t : TypeId) (z : Array Value) (g B q : Nat) (W : World) (cs : Array Value) : Prop where
  res : Blk W w.heap.size t z
  var : Blk W q t cs
  mod : Mod (only g) w W
  gw : w.heap.size ≠ g
  qg : q ≠ g
theorem FillC.toEnd {w : World} {t : TypeId} {z : Array Value} {g B q : Nat} {W : World} {cs : Array Value} {e : Nat} {l : List UInt8} (h : FillC w t z g B q W cs e l) : EndSt w t z g B q W cs := ⟨h.res, h.var, h.mod, h.gw, h.qg⟩
theorem FillC.after {w : World} {t : TypeId} {z : Array Value} {g B q : Nat} {W W' : World} {cs : Array Value} {e : Nat} {l : List UInt8} (h : FillC w t z g B q W cs e l) (hm : Mod (only g) W W') : EndSt w t z g B q W' cs :=
  ⟨h.res.mod hm (fun hh => h.gw hh), h.var.mod hm (fun hh => h.qg hh), h.mod.trans hm, h.gw, h.qg⟩
theorem EndSt.mod0' {w : World} {t : TypeId} {z : Array Value} {g B q : Nat} {W W' : World} {cs : Array Value} (h : EndSt w t z g B q W cs) (hm : Mod none_ W W') : EndSt w t z g B q W' cs :=
  ⟨h.res.mod hm (fun hh => hh), h.var.mod hm (fun hh => hh), h.mod.trans (hm.any _), h.gw, h.qg⟩
theorem Mod.drop_new {w W : World} {g : Nat} (h : Mod (only g) w W) (hg : w.heap.size ≤ g) : Mod none_ w W := ⟨h.os, h.tape, h.output, h.size, fun k hk _ => h.block k hk (fun hh => by have : k = g := hh; omega)⟩
theorem EnM.safe {W W' : World} {v : En} {L D : SV} (h : EnM W v L D) {P : Nat → Prop} (hm : Mod P W W') (hL : ∀ a, L.a = some a → ¬ P a.block) (hD : ∀ a, D.a = some a → ¬ P a.block) : EnM W' v L D :=
  ⟨⟨Rd.mod h.od.rd hm (fun k hk => by obtain ⟨a, ha, rfl⟩ := hk; exact hL a ha), h.od.cap⟩, Rd.mod h.rd hm (fun k hk => by obtain ⟨a, ha, rfl⟩ := hk; exact hD a ha), h.cap⟩
set_option maxRecDepth 100000 in
set_option maxHeartbeats 8000000 in
theorem logRead_ok (w : World) (A : Option Addr) (n c : Nat) (b : List UInt8) (h : RdB w A n b) (hn : n ≤ 100000000) : Calls Tryz.prog 5 #[.slice A n c] w (RcPost w (rdRec b)) := by
  have hb0 := Blk.new w 37 #[.int .i64 0, .int .i64 0, .int .i64 0, .int .i64 0, .int .i64 0, .int .i64 0, .int .i64 0, .int .i64 0, .string ⟨#[]⟩, .string ⟨#[]⟩, .int .i64 0, .slice none 0 0, .int .i64 0, .int .i64 0, .string ⟨#[]⟩, .bool false, .slice none 0 0]
  have hm0 := (Mod.refl none_ w).alloc (.cells #[.int .i64 0, .int .i64 0, .int .i64 0, .int .i64 0, .int .i64 0, .int .i64 0, .int .i64 0, .int .i64 0, .string ⟨#[]⟩, .string ⟨#[]⟩, .int .i64 0, .slice none 0 0, .int .i64 0, .int .i64 0, .string ⟨#[]⟩, .bool false, .slice none 0 0] 37)
  have kN := new_ok _ A n c b (Rd.mod0 h hm0) (by omega)
  obtain ⟨i, e1, l1, h1⟩ := tri_ (rdIs (0, b))
  obtain ⟨bal, e2, l2, h2⟩ := tri_ (qg 0 1000000 (e1, l1))
  obtain ⟨s3, e3, l3, h3⟩ := tri_ (qg 0 3 (e2, l2))
  obtain ⟨by_, e4, l4, h4⟩ := tri_ (qg 0 1000000 (e3, l3))
  clear h
  have hrr : ∀ p, rdR (0, b) = p → rdRec b = if p.1.2 ≠ 0 ∨ dn p.2.2 p.2.1 ≠ 0 ∨ rightR p.1.1 = false then (rc0, 3) else (p.1.1, 0) := fun p hp => by unfold rdRec; rw [hp]
  have hrt : rdR (0, b) = if s3 = 0 then ((⟨i, bal, s3, by_, en0⟩, 0), e4, l4) else bd rdEn (fun e => pu (⟨i, bal, s3, by_, e.1⟩, e.2)) (e4, l4) := by
    unfold rdR
    rw [bd_of h1, bd_of h2, bd_of h3, bd_of h4]
    split <;> rfl
  replace h1 := Lib.hid h1
  replace h2 := Lib.hid h2
  replace h3 := Lib.hid h3
  replace h4 := Lib.hid h4
  replace hb0 := Lib.hid hb0
  replace hm0 := Lib.hid hm0
  replace hrr := Lib.hid hrr
  replace hrt := Lib.hid hrt
  go_enter Tryz.func5, Tryz.ntmps5
  go_wp2_with fail
  refine kN.mono ?_
  rintro en w1 ⟨g, B, rfl, hR, hg, hB, hB', hm⟩
  dsimp only
  clear kN
  simp only [World.size_alloc] at hg hB
  have hbr := hb0.out.mod hm (fun h => h)
  have hM := (hm0.out.trans hm).any (only g)
  have hgw : w.heap.size ≤ g := by omega
  have hng : ¬ w.heap.size = g := by omega
  clear hm
  replace hbr := Lib.hid hbr
  replace hM := Lib.hid hM
  go_wp2_with fail
  refine (inst_r h1.out hR hB').mono ?_; rintro en w2 ⟨rfl, hR1, hm⟩; dsimp only at hR1 ⊢
  replace hbr := Lib.hid (hbr.out.mod hm (fun hh => hng hh)); replace hM := Lib.hid (hM.out.trans hm); have hsz := hm.size; clear hm hR
  go_wp2_with fail
  refine (lsmall_r h2.out hR1).mono ?_; rintro en w3 ⟨rfl, hR2, hm⟩; dsimp only at hR2 ⊢
  replace hbr := Lib.hid (hbr.out.mod hm (fun hh => hng hh)); replace hM := Lib.hid (hM.out.trans hm); have hsz2 := hm.size; clear hm hR1
  go_wp2_with fail
  refine (lsmall_r h3.out hR2).mono ?_; rintro en w4 ⟨rfl, hR3, hm⟩; dsimp only at hR3 ⊢
  replace hbr := Lib.hid (hbr.out.mod hm (fun hh => hng hh)); replace hM := Lib.hid (hM.out.trans hm); have hsz3 := hm.size; clear hm hR2
  go_wp2_with fail
  refine (lsmall_r h4.out hR3).mono ?_; rintro en w5 ⟨rfl, hR4, hm⟩; dsimp only at hR4 ⊢
  replace hbr := Lib.hid (hbr.out.mod hm (fun hh => hng hh)); replace hM := Lib.hid (hM.out.trans hm); have hsz4 := hm.size; clear hm hR3
  have hgl := hR4.lt
  have hrl := hbr.out.lt
  have hst : FillC w 37 #[.int .i64 0, .int .i64 0, .int .i64 0, .int .i64 0, .int .i64 0, .int .i64 0, .int .i64 0, .int .i64 0, .string ⟨#[]⟩, .string ⟨#[]⟩, .int .i64 0, .slice none 0 0, .int .i64 0, .int .i64 0, .string ⟨#[]⟩, .bool false, .slice none 0 0] g B w5.heap.size (w5.alloc (.cells #[.int .i64 i.r, .int .i64 i.n, .int .i64 bal, .int .i64 s3, .int .i64 by_, .int .i64 0, .int .i64 0, .int .i64 0, .string ⟨#[]⟩, .string ⟨#[]⟩, .int .i64 0, .slice none 0 0, .int .i64 0, .int .i64 0, .string ⟨#[]⟩, .bool false, .slice none 0 0] 37)) #[.int .i64 i.r, .int .i64 i.n, .int .i64 bal, .int .i64 s3, .int .i64 by_, .int .i64 0, .int .i64 0, .int .i64 0, .string ⟨#[]⟩, .string ⟨#[]⟩, .int .i64 0, .slice none 0 0, .int .i64 0, .int .i64 0, .string ⟨#[]⟩, .bool false, .slice none 0 0] e4 l4 :=
    ⟨hR4.mod0 ((Mod.refl none_ w5).alloc _), hbr.out.alloc _, Blk.new w5 _ _, hM.out.alloc _, by omega, by omega, by omega, by omega, by omega, by simp only [World.size_alloc]; omega⟩
  clear hR4 hsz hsz2 hsz3 hsz4 hgl hrl hB' hbr hM
  generalize hq : w5.heap.size = q at hst
  by_cases hs : s3 = 0
  · subst hs
    have hrd : Hid (rdRec b = if dn l4 e4 ≠ 0 ∨ rightR ⟨i, bal, 0, by_, en0⟩ = false then (rc0, 3) else (⟨i, bal, 0, by_, en0⟩, 0)) := Lib.hid (by rw [hrr.out _ hrt.out, if_pos rfl]; simp)
    have hE := Lib.hid (fun (w10 W' : World) (_ : Mod (only g) (w5.alloc (.cells #[.int .i64 i.r, .int .i64 i.n, .int .i64 bal, .int .i64 0, .int .i64 by_, .int .i64 0, .int .i64 0, .int .i64 0, .string ⟨#[]⟩, .string ⟨#[]⟩, .int .i64 0, .slice none 0 0, .int .i64 0, .int .i64 0, .string ⟨#[]⟩, .bool false, .slice none 0 0] 37)) w10) (_ : Mod none_ w10 W') => en0_mem W')
    have hbd : Hid ((0 : Nat) ≤ 140737488355328 ∧ (0 : Nat) ≤ 140737488355328 ∧ (Lit.int .i64 en0.o.k).wf = true ∧ ∀ l ∈ en0.o.legs, (txt l.n).size ≤ maxLen) := Lib.hid ⟨by decide, by decide, by decide, fun l hl => by cases hl⟩
    have hfL : Hid (∀ a, (none : Option Addr) = some a → w.heap.size < a.block) := Lib.hid (fun a ha => by cases ha)
    have hfD : Hid (∀ a, (none : Option Addr) = some a → w.heap.size < a.block) := Lib.hid (fun a ha => by cases ha)
    replace hst := Lib.hid hst
    go_wp2_with fail
    replace hq := Lib.hid hq
    refine (done_ok _ g B e4 l4 hst.out.rd).mono ?_; rintro en w10 ⟨rfl, hm⟩; dsimp only
    have hE1 := Lib.hid (fun W' (h : Mod none_ w10 W') => hE.out w10 W' hm h)
    replace hst := Lib.hid (hst.out.after hm); clear hm hE
    generalize hdn : dn l4 e4 = d at *
    replace hdn := Lib.hid hdn
    by_cases hd : d = 0
    · subst hd
      have kR : Hid (Calls Tryz.prog 15 #[.agg #[.int .i64 i.r, .int .i64 i.n, .int .i64 bal, .int .i64 0, .int .i64 by_, .int .i64 0, .int .i64 0, .int .i64 0, .string ⟨#[]⟩, .string ⟨#[]⟩, .int .i64 0, .slice none 0 0, .int .i64 0, .int .i64 0, .string ⟨#[]⟩, .bool false, .slice none 0 0]] w10 fun e' w' => e' = .returned (.bool (rightR ⟨i, bal, 0, by_, en0⟩)) ∧ Mod none_ w10 w') := Lib.hid (rightR_ok w10 ⟨i, bal, 0, by_, en0⟩ ⟨none, 0, 0⟩ ⟨none, 0, 0⟩ (hE1.out w10 (Mod.refl _ _)) hbd.out.1 hbd.out.2.1 hbd.out.2.2.1 hbd.out.2.2.2)
      go_wp2_with (refine wpList_step (fun K hK => ?_); rw [if_pos (by rfl)]; refine wp_load_row 37 (.tmp 5) rfl q rfl _ _ _ _ hst.out.var Tryz.underlying37 rfl record_size ?_; refine hK _ _ ?_)
      with_reducible refine kR.out.mono ?_
      rintro en w13 ⟨rfl, hm⟩
      dsimp only
      have hE2 := Lib.hid (fun W' (h : Mod none_ w13 W') => hE1.out W' (hm.trans h))
      replace hst := Lib.hid (hst.out.mod0' hm)
      clear hm hE1 kR
      cases hr : rightR ⟨i, bal, 0, by_, en0⟩ with
      | false =>
        have hf : Hid (rdRec b = (rc0, 3)) := Lib.hid (by rw [hrd.out, hr]; simp)
        clear hr
        go_wp2_with (refine wpList_store_blk rfl 37 (.tmp 2) (.tmp 42) rfl w.heap.size 0 _ rfl rfl hst.out.res (by simp) record_size (by rfl) #[.int .i64 0, .int .i64 0, .int .i64 0, .int .i64 0, .int .i64 0, .int .i64 0, .int .i64 0, .int .i64 0, .string ⟨#[]⟩, .string ⟨#[]⟩, .int .i64 0, .slice none 0 0, .int .i64 0, .int .i64 0, .string ⟨#[]⟩, .bool false, .slice none 0 0] rfl ?_; intro w14 hb14 hm14; replace hb14 := Lib.hid hb14; replace hm14 := Lib.hid hm14)
        refine ret_row_tmp rfl w.heap.size rfl hb14.out Tryz.underlying37 rfl record_size (.int .i64 3) rfl rfl ?_
        exact RcPost.zero hf.out rfl ((Mod.drop_new hst.out.mod hgw).in_new (Nat.le_refl _) hm14.out)
      | true =>
        have hf : Hid (rdRec b = (⟨i, bal, 0, by_, en0⟩, 0)) := Lib.hid (by rw [hrd.out, hr]; simp)
        clear hr
        go_wp2_with (first | (refine wpList_load_row rfl 37 (.tmp 5) rfl q rfl _ _ _ _ hst.out.var Tryz.underlying37 rfl record_size ?_) | (refine wpList_store_blk rfl 37 (.tmp 2) (.tmp 43) rfl w.heap.size 0 _ rfl rfl hst.out.res (by simp) record_size (by rfl) #[.int .i64 i.r, .int .i64 i.n, .int .i64 bal, .int .i64 0, .int .i64 by_, .int .i64 0, .int .i64 0, .int .i64 0, .string ⟨#[]⟩, .string ⟨#[]⟩, .int .i64 0, .slice none 0 0, .int .i64 0, .int .i64 0, .string ⟨#[]⟩, .bool false, .slice none 0 0] rfl ?_; intro w14 hb14 hm14; replace hb14 := Lib.hid hb14; replace hm14 := Lib.hid hm14))
        refine ret_row_tmp rfl w.heap.size rfl hb14.out Tryz.underlying37 rfl record_size (.int .i64 0) rfl rfl ?_
        have hEE := hE2.out _ (Mod.refl _ _)
        have hLf := hEE.od.rd
        have hDf := hEE.rd
        have hEf : EnM w14 en0 ⟨none, 0, 0⟩ ⟨none, 0, 0⟩ := ⟨⟨Rd.mod' hLf hm14.out (fun _ k hk hh => by have : k = w.heap.size := hh; obtain ⟨a, ha, hka⟩ := hk; have := hfL.out a ha; omega), hEE.od.cap⟩, Rd.mod' hDf hm14.out (fun _ k hk hh => by have : k = w.heap.size := hh; obtain ⟨a, ha, hka⟩ := hk; have := hfD.out a ha; omega), hEE.cap⟩
        exact ⟨⟨i, bal, 0, by_, en0⟩, 0, ⟨none, 0, 0⟩, ⟨none, 0, 0⟩, hf.out, rfl, hEf, (fun a ha => Nat.le_of_lt (hfL.out a ha)), (fun a ha => Nat.le_of_lt (hfD.out a ha)), (Mod.drop_new hst.out.mod hgw).in_new (Nat.le_refl _) hm14.out⟩
    · have hd2 : ((d : Int) != 0) = true := by simp; omega
      have hf : Hid (rdRec b = (rc0, 3)) := Lib.hid (by rw [hrd.out, if_pos (.inl hd)])
      go_wp2_with (refine wpList_store_blk rfl 37 (.tmp 2) (.tmp 42) rfl w.heap.size 0 _ rfl rfl hst.out.res (by simp) record_size (by rfl) #[.int .i64 0, .int .i64 0, .int .i64 0, .int .i64 0, .int .i64 0, .int .i64 0, .int .i64 0, .int .i64 0, .string ⟨#[]⟩, .string ⟨#[]⟩, .int .i64 0, .slice none 0 0, .int .i64 0, .int .i64 0, .string ⟨#[]⟩, .bool false, .slice none 0 0] rfl ?_; intro w14 hb14 hm14; replace hb14 := Lib.hid hb14; replace hm14 := Lib.hid hm14)
      refine ret_row_tmp rfl w.heap.size rfl hb14.out Tryz.underlying37 rfl record_size (.int .i64 3) rfl rfl ?_
      exact RcPost.zero hf.out rfl ((Mod.drop_new hst.out.mod hgw).in_new (Nat.le_refl _) hm14.out)
  · have hs2 : (s3 != 0) = true := by simpa using hs
    replace hst := Lib.hid hst
    go_wp2_with fail
    replace hq := Lib.hid hq
    refine (entry_ok _ g B e4 l4 hst.out.rd hst.out.bl).mono ?_
    rintro en w6 ⟨v, f, e, l, L, D, he, rfl, hEn, hfL0, hfD0, hR, hm⟩
    dsimp only
    obtain ⟨v1, v2⟩ := rdEn_in he
    obtain ⟨v3, v4, v5⟩ := od_facts v1
    have hbd : Hid (L.n ≤ 140737488355328 ∧ D.n ≤ 140737488355328 ∧ (Lit.int .i64 v.o.k).wf = true ∧ ∀ l ∈ v.o.legs, (txt l.n).size ≤ maxLen) := Lib.hid ⟨by have := hEn.od.rd.len; omega, by have := hEn.rd.len; omega, v4, v5⟩
    have hrd0 : rdRec b = if f ≠ 0 ∨ dn l e ≠ 0 ∨ rightR ⟨i, bal, s3, by_, v⟩ = false then (rc0, 3) else (⟨i, bal, s3, by_, v⟩, 0) :=
      hrr.out ((⟨i, bal, s3, by_, v⟩, f), e, l) (hrt.out.trans (by rw [if_neg hs, bd_of he] <;> rfl))
    have hnn := hst.out.new_ne
    have hfL : Hid (∀ a, L.a = some a → w.heap.size < a.block ∧ g < a.block ∧ q < a.block) := Lib.hid (fun a ha => by have := hfL0 a ha; omega)
    have hfD : Hid (∀ a, D.a = some a → w.heap.size < a.block ∧ g < a.block ∧ q < a.block) := Lib.hid (fun a ha => by have := hfD0 a ha; omega)
    replace hst := Lib.hid (hst.out.call hm hR)
    clear hm hR hfL0 hfD0 hnn v1 v2 v3 v4 v5 he hs2
    replace hrd0 := Lib.hid hrd0
    replace hEn := Lib.hid hEn
    by_cases hf0 : f = 0
    · subst hf0
      go_wp2_with (refine wpList_store_blk rfl 33 (.tmp 29) (.tmp 26) rfl q 5 _ rfl rfl hst.out.var (by simp) entry_size (by rfl) #[.int .i64 i.r, .int .i64 i.n, .int .i64 bal, .int .i64 s3, .int .i64 by_, .int .i64 v.o.c, .int .i64 v.o.s, .int .i64 v.o.k, .string (txt v.o.acct), .string (txt v.o.peer), .int .i64 v.o.sum, .slice L.a L.n L.c, .int .i64 v.o.per, .int .i64 v.o.hold, .string (txt v.o.note), .bool v.none, .slice D.a D.n D.c] rfl ?_; intro w7 hb7 hm7; replace hb7 := Lib.hid hb7; replace hm7 := Lib.hid hm7)
      replace hst := Lib.hid (hst.out.turn hm7.out hb7.out)
      have hE := Lib.hid (fun (w10 W' : World) (h1 : Mod (only g) w7 w10) (h2 : Mod none_ w10 W') => EnM.safe hEn.out (P := fun k => k = q ∨ k = g) ((hm7.out.mono (G := fun k => k = q ∨ k = g) (fun k hk => .inl hk)).trans ((h1.mono (G := fun k => k = q ∨ k = g) (fun k hk => .inr hk)).trans (h2.any _))) (fun a ha hh => by have := hfL.out a ha; omega) (fun a ha hh => by have := hfD.out a ha; omega))
      clear hb7 hm7 hEn
      have hrd : Hid (rdRec b = if dn l e ≠ 0 ∨ rightR ⟨i, bal, s3, by_, v⟩ = false then (rc0, 3) else (⟨i, bal, s3, by_, v⟩, 0)) := Lib.hid (by rw [hrd0.out]; simp)
      refine (done_ok _ g B e l hst.out.rd).mono ?_; rintro en w10 ⟨rfl, hm⟩; dsimp only
      have hE1 := Lib.hid (fun W' (h : Mod none_ w10 W') => hE.out w10 W' hm h)
      replace hst := Lib.hid (hst.out.after hm); clear hm hE
      generalize hdn : dn l e = d at *
      replace hdn := Lib.hid hdn
      by_cases hd : d = 0
      · subst hd
        have kR : Hid (Calls Tryz.prog 15 #[.agg #[.int .i64 i.r, .int .i64 i.n, .int .i64 bal, .int .i64 s3, .int .i64 by_, .int .i64 v.o.c, .int .i64 v.o.s, .int .i64 v.o.k, .string (txt v.o.acct), .string (txt v.o.peer), .int .i64 v.o.sum, .slice L.a L.n L.c, .int .i64 v.o.per, .int .i64 v.o.hold, .string (txt v.o.note), .bool v.none, .slice D.a D.n D.c]] w10 fun e' w' => e' = .returned (.bool (rightR ⟨i, bal, s3, by_, v⟩)) ∧ Mod none_ w10 w') := Lib.hid (rightR_ok w10 ⟨i, bal, s3, by_, v⟩ L D (hE1.out w10 (Mod.refl _ _)) hbd.out.1 hbd.out.2.1 hbd.out.2.2.1 hbd.out.2.2.2)
        go_wp2_with (refine wpList_step (fun K hK => ?_); rw [if_pos (by rfl)]; refine wp_load_row 37 (.tmp 5) rfl q rfl _ _ _ _ hst.out.var Tryz.underlying37 rfl record_size ?_; refine hK _ _ ?_)
        with_reducible refine kR.out.mono ?_
        rintro en w13 ⟨rfl, hm⟩
        dsimp only
        have hE2 := Lib.hid (fun W' (h : Mod none_ w13 W') => hE1.out W' (hm.trans h))
        replace hst := Lib.hid (hst.out.mod0' hm)
        clear hm hE1 kR
        cases hr : rightR ⟨i, bal, s3, by_, v⟩ with
        | false =>
          have hf : Hid (rdRec b = (rc0, 3)) := Lib.hid (by rw [hrd.out, hr]; simp)
          clear hr
          go_wp2_with (refine wpList_store_blk rfl 37 (.tmp 2) (.tmp 42) rfl w.heap.size 0 _ rfl rfl hst.out.res (by simp) record_size (by rfl) #[.int .i64 0, .int .i64 0, .int .i64 0, .int .i64 0, .int .i64 0, .int .i64 0, .int .i64 0, .int .i64 0, .string ⟨#[]⟩, .string ⟨#[]⟩, .int .i64 0, .slice none 0 0, .int .i64 0, .int .i64 0, .string ⟨#[]⟩, .bool false, .slice none 0 0] rfl ?_; intro w14 hb14 hm14; replace hb14 := Lib.hid hb14; replace hm14 := Lib.hid hm14)
          refine ret_row_tmp rfl w.heap.size rfl hb14.out Tryz.underlying37 rfl record_size (.int .i64 3) rfl rfl ?_
          exact RcPost.zero hf.out rfl ((Mod.drop_new hst.out.mod hgw).in_new (Nat.le_refl _) hm14.out)
        | true =>
          have hf : Hid (rdRec b = (⟨i, bal, s3, by_, v⟩, 0)) := Lib.hid (by rw [hrd.out, hr]; simp)
          clear hr
          go_wp2_with (first | (refine wpList_load_row rfl 37 (.tmp 5) rfl q rfl _ _ _ _ hst.out.var Tryz.underlying37 rfl record_size ?_) | (refine wpList_store_blk rfl 37 (.tmp 2) (.tmp 43) rfl w.heap.size 0 _ rfl rfl hst.out.res (by simp) record_size (by rfl) #[.int .i64 i.r, .int .i64 i.n, .int .i64 bal, .int .i64 s3, .int .i64 by_, .int .i64 v.o.c, .int .i64 v.o.s, .int .i64 v.o.k, .string (txt v.o.acct), .string (txt v.o.peer), .int .i64 v.o.sum, .slice L.a L.n L.c, .int .i64 v.o.per, .int .i64 v.o.hold, .string (txt v.o.note), .bool v.none, .slice D.a D.n D.c] rfl ?_; intro w14 hb14 hm14; replace hb14 := Lib.hid hb14; replace hm14 := Lib.hid hm14))
          refine ret_row_tmp rfl w.heap.size rfl hb14.out Tryz.underlying37 rfl record_size (.int .i64 0) rfl rfl ?_
          have hEE := hE2.out _ (Mod.refl _ _)
          have hLf := hEE.od.rd
          have hDf := hEE.rd
          have hEf : EnM w14 v L D := ⟨⟨Rd.mod' hLf hm14.out (fun _ k hk hh => by have : k = w.heap.size := hh; obtain ⟨a, ha, hka⟩ := hk; have := (hfL.out a ha).1; omega), hEE.od.cap⟩, Rd.mod' hDf hm14.out (fun _ k hk hh => by have : k = w.heap.size := hh; obtain ⟨a, ha, hka⟩ := hk; have := (hfD.out a ha).1; omega), hEE.cap⟩
          exact ⟨⟨i, bal, s3, by_, v⟩, 0, L, D, hf.out, rfl, hEf, (fun a ha => Nat.le_of_lt (hfL.out a ha).1), (fun a ha => Nat.le_of_lt (hfD.out a ha).1), (Mod.drop_new hst.out.mod hgw).in_new (Nat.le_refl _) hm14.out⟩
      · have hd2 : ((d : Int) != 0) = true := by simp; omega
        have hf : Hid (rdRec b = (rc0, 3)) := Lib.hid (by rw [hrd.out, if_pos (.inl hd)])
        go_wp2_with (refine wpList_store_blk rfl 37 (.tmp 2) (.tmp 42) rfl w.heap.size 0 _ rfl rfl hst.out.res (by simp) record_size (by rfl) #[.int .i64 0, .int .i64 0, .int .i64 0, .int .i64 0, .int .i64 0, .int .i64 0, .int .i64 0, .int .i64 0, .string ⟨#[]⟩, .string ⟨#[]⟩, .int .i64 0, .slice none 0 0, .int .i64 0, .int .i64 0, .string ⟨#[]⟩, .bool false, .slice none 0 0] rfl ?_; intro w14 hb14 hm14; replace hb14 := Lib.hid hb14; replace hm14 := Lib.hid hm14)
        refine ret_row_tmp rfl w.heap.size rfl hb14.out Tryz.underlying37 rfl record_size (.int .i64 3) rfl rfl ?_
        exact RcPost.zero hf.out rfl ((Mod.drop_new hst.out.mod hgw).in_new (Nat.le_refl _) hm14.out)
    · have hf2 : ((f : Int) != 0) = true := by simp; omega
      have hf : Hid (rdRec b = (rc0, 3)) := Lib.hid (by rw [hrd0.out, if_pos (.inl hf0)])
      go_wp2_with (first | (refine wpList_store_blk rfl 33 (.tmp 29) (.tmp 26) rfl q 5 _ rfl rfl hst.out.var (by simp) entry_size (by rfl) #[.int .i64 i.r, .int .i64 i.n, .int .i64 bal, .int .i64 s3, .int .i64 by_, .int .i64 v.o.c, .int .i64 v.o.s, .int .i64 v.o.k, .string (txt v.o.acct), .string (txt v.o.peer), .int .i64 v.o.sum, .slice L.a L.n L.c, .int .i64 v.o.per, .int .i64 v.o.hold, .string (txt v.o.note), .bool v.none, .slice D.a D.n D.c] rfl ?_; intro w7 hb7 hm7; replace hst := Lib.hid (hst.out.turn hm7 hb7); clear hb7 hm7) | (refine wpList_store_blk rfl 37 (.tmp 2) (.tmp 42) rfl w.heap.size 0 _ rfl rfl hst.out.res (by simp) record_size (by rfl) #[.int .i64 0, .int .i64 0, .int .i64 0, .int .i64 0, .int .i64 0, .int .i64 0, .int .i64 0, .int .i64 0, .string ⟨#[]⟩, .string ⟨#[]⟩, .int .i64 0, .slice none 0 0, .int .i64 0, .int .i64 0, .string ⟨#[]⟩, .bool false, .slice none 0 0] rfl ?_; intro w14 hb14 hm14; replace hb14 := Lib.hid hb14; replace hm14 := Lib.hid hm14))
      refine ret_row_tmp rfl w.heap.size rfl hb14.out Tryz.underlying37 rfl record_size (.int .i64 3) rfl rfl ?_
      exact RcPost.zero hf.out rfl ((Mod.drop_new hst.out.mod hgw).in_new (Nat.le_refl _) hm14.out)
end Go.Proofs.YtimlfdihodoolaaGreat
/-
  The law's few: the first 20 records, with few legs, and Deps. No condition.
-/
namespace Go.Proofs.YtimlfdihodoolaaGreat
set_option linter.unusedVariables false
set_option linter.unusedSimpArgs false
open Go.RowKit
def cutR (x : Rs) : Rs := ⟨⟨x.r.i, x.r.bal, x.r.st, x.r.by_, ⟨⟨x.r.e.o.c, x.r.e.o.s, x.r.e.o.k, x.r.e.o.acct, x.r.e.o.peer, x.r.e.o.sum, x.r.e.o.legs.take 8, x.r.e.o.per, x.r.e.o.hold, x.r.e.o.note⟩, x.r.e.none, x.r.e.deps.take 110⟩⟩, ⟨x.L.a, min x.L.n 8, x.L.c⟩, ⟨x.D.a, min x.D.n 110, x.D.c⟩⟩
def fewL (xs : List Rs) (n : Nat) : List Rs := (xs.take n).map cutR
theorem lgs_take (ls : List Lg) (k : Nat) : (lgs ls).take (k * 2) = lgs (ls.take k) := by
  induction ls generalizing k with
  | nil => simp [lgs]
  | cons l ls ih =>
    cases k with
    | zero => simp [lgs]
    | succ k =>
      show (_ :: _ :: lgs ls).take ((k + 1) * 2) = _ :: _ :: lgs (ls.take k)
      rw [show (k + 1) * 2 = k * 2 + 1 + 1 by omega, List.take_succ_cons, List.take_succ_cons, ih]
theorem iss_take (ls : List Is) (k : Nat) : (iss ls).take (k * 2) = iss (ls.take k) := by
  induction ls generalizing k with
  | nil => simp [iss]
  | cons l ls ih =>
    cases k with
    | zero => simp [iss]
    | succ k =>
      show (_ :: _ :: iss ls).take ((k + 1) * 2) = _ :: _ :: iss (ls.take k)
      rw [show (k + 1) * 2 = k * 2 + 1 + 1 by omega, List.take_succ_cons, List.take_succ_cons, ih]
theorem cut_mem {w : World} {x : Rs} (h : EnM w x.r.e x.L x.D) : EnM w (cutR x).r.e (cutR x).L (cutR x).D := by
  have h1 := Rd.take_ h.od.rd (k := min x.L.n 8) (Nat.min_le_left _ _)
  have h2 := Rd.take_ h.rd (k := min x.D.n 110) (Nat.min_le_left _ _)
  rw [lgs_take] at h1
  rw [iss_take] at h2
  have e1 : x.r.e.o.legs.take (min x.L.n 8) = x.r.e.o.legs.take 8 := by have := h.od.rd.len; rw [← this, List.take_eq_take_iff]; omega
  have e2 : x.r.e.deps.take (min x.D.n 110) = x.r.e.deps.take 110 := by have := h.rd.len; rw [← this, List.take_eq_take_iff]; omega
  rw [e1] at h1
  rw [e2] at h2
  exact ⟨⟨h1, Nat.le_trans (Nat.min_le_left _ _) h.od.cap⟩, h2, Nat.le_trans (Nat.min_le_left _ _) h.cap⟩
theorem cut_ok {x : Rs} (h : RsOk x) : RsOk (cutR x) := by
  obtain ⟨h1, h2, h3, h4⟩ := h
  refine ⟨?_, ?_, h3, fun l hl => h4 l (List.mem_of_mem_take hl)⟩
  · show min x.L.n 8 ≤ _; omega
  · show min x.D.n 110 ≤ _; omega
theorem few_succ {xs : List Rs} {j : Nat} {x : Rs} (h : xs[j]? = some x) : fewL xs (j + 1) = fewL xs j ++ [cutR x] := by
  unfold fewL
  rw [List.take_add_one, h]
  simp
theorem few_len {xs : List Rs} {j : Nat} (h : j ≤ xs.length) : (fewL xs j).length = j := by unfold fewL; simp; omega
end Go.Proofs.YtimlfdihodoolaaGreat
/-
  The checksum, as a function on natural numbers; the table, the bitwise form, and that both are one. No condition.
-/
namespace Go.Proofs.YtimlfdihodoolaaGreat
set_option linter.unusedVariables false
set_option linter.unusedSimpArgs false
def step1 (h : Nat) : Nat := (h / 2) ^^^ (if h % 2 = 1 then 3988292384 else 0)
def stepN : Nat → Nat → Nat
  | 0, h => h
  | n + 1, h => step1 (stepN n h)
def tabN (i : Nat) : Nat := stepN 8 i
def crcStep (h : Nat) (b : UInt8) : Nat := (h / 256) ^^^ tabN ((h % 256) ^^^ b.toNat)
def crcFold (l : List UInt8) : Nat := l.foldl crcStep 4294967295
def crc (l : List UInt8) : Nat := 4294967295 - crcFold l

theorem xor_div2 (a b : Nat) : (a ^^^ b) / 2 = (a / 2) ^^^ (b / 2) := by
  have := Nat.shiftRight_xor_distrib (a := a) (b := b) (i := 1)
  simpa [Nat.shiftRight_eq_div_pow] using this
theorem xor_mod2 (a b : Nat) : (a ^^^ b) % 2 = (a % 2) ^^^ (b % 2) := by
  have := Nat.xor_mod_two_pow (a := a) (b := b) (n := 1)
  simpa using this
theorem step1_lin (a b : Nat) : step1 (a ^^^ b) = step1 a ^^^ step1 b := by
  unfold step1
  rw [xor_div2, xor_mod2]
  rcases Nat.mod_two_eq_zero_or_one a with h | h <;> rcases Nat.mod_two_eq_zero_or_one b with h' | h' <;> simp [h, h']
  · rw [Nat.xor_assoc]
  · rw [Nat.xor_assoc, Nat.xor_assoc, Nat.xor_comm 3988292384 (b / 2)]
  · rw [Nat.xor_assoc, Nat.xor_comm 3988292384, Nat.xor_assoc, Nat.xor_self, Nat.xor_zero]
theorem stepN_lin (n : Nat) : ∀ a b, stepN n (a ^^^ b) = stepN n a ^^^ stepN n b := by
  induction n with
  | zero => intro a b; rfl
  | succ n ih => intro a b; simp only [stepN, ih, step1_lin]
theorem step1_lt (h : Nat) (hh : h < 4294967296) : step1 h < 4294967296 := by
  unfold step1
  have : (h / 2) ^^^ (if h % 2 = 1 then 3988292384 else 0) < 2 ^ 32 := Nat.xor_lt_two_pow (by omega) (by split <;> omega)
  exact this
theorem stepN_lt (n : Nat) : ∀ h, h < 4294967296 → stepN n h < 4294967296 := by
  induction n with
  | zero => intro h hh; exact hh
  | succ n ih => intro h hh; exact step1_lt _ (ih h hh)
theorem step1_even (h : Nat) : step1 (h * 2) = h := by
  unfold step1
  rw [if_neg (by omega), Nat.xor_zero]
  omega
theorem stepN_shift (n : Nat) : ∀ h, stepN n (h * 2 ^ n) = h := by
  induction n with
  | zero => intro h; simp [stepN]
  | succ n ih =>
    intro h
    have e : h * 2 ^ (n + 1) = (h * 2) * 2 ^ n := by rw [Nat.pow_succ]; rw [Nat.mul_assoc, Nat.mul_comm 2]
    rw [stepN, e, ih, step1_even]
theorem tabN_lt (i : Nat) (h : i < 256) : tabN i < 4294967296 := stepN_lt 8 i (by omega)
theorem xor_lt8 (a b : Nat) (ha : a < 256) (hb : b < 256) : a ^^^ b < 256 := Nat.xor_lt_two_pow (n := 8) ha hb
theorem split256 (h : Nat) : h = (h / 256 * 2 ^ 8) ^^^ (h % 256) := by
  have h1 : h / 256 * 2 ^ 8 ^^^ h % 256 = (h / 256 * 2 ^ 8) ||| (h % 256) := by
    apply Nat.eq_of_testBit_eq
    intro i
    rw [Nat.testBit_xor, Nat.testBit_or, Nat.mul_comm, Nat.testBit_two_pow_mul]
    by_cases hi : 8 ≤ i
    · have : (h % 256).testBit i = false := Nat.testBit_lt_two_pow (Nat.lt_of_lt_of_le (Nat.mod_lt _ (by omega)) (Nat.pow_le_pow_right (n := 2) (by omega) hi : 2 ^ 8 ≤ 2 ^ i))
      simp [this]
    · simp [hi]
  rw [h1, or_add _ _ 8 (by omega)]
  omega
/-- The table's step is eight single steps. -/
theorem crcStep_eq (h : Nat) (b : UInt8) : crcStep h b = stepN 8 (h ^^^ b.toNat) := by
  unfold crcStep tabN
  conv => rhs; rw [split256 h, Nat.xor_assoc, stepN_lin, stepN_shift]
theorem crcStep_lt (h : Nat) (b : UInt8) (hh : h < 4294967296) : crcStep h b < 4294967296 := by
  rw [crcStep_eq]
  exact stepN_lt 8 _ (Nat.xor_lt_two_pow (n := 32) hh (by have := b.toNat_lt; omega))
theorem foldl_lt : ∀ (l : List UInt8) (h : Nat), h < 4294967296 → l.foldl crcStep h < 4294967296 := by
  intro l
  induction l with
  | nil => intro h hh; exact hh
  | cons b l ih => intro h hh; exact ih _ (crcStep_lt h b hh)
theorem crcFold_lt (l : List UInt8) : crcFold l < 4294967296 := foldl_lt l _ (by omega)
theorem crc_lt (l : List UInt8) : crc l < 4294967296 := by unfold crc; omega
theorem crcFold_snoc (l : List UInt8) (b : UInt8) : crcFold (l ++ [b]) = crcStep (crcFold l) b := by simp [crcFold]
end Go.Proofs.YtimlfdihodoolaaGreat
/-
  Contracts of the functions of package disk: what each returns, and what becomes of the disk's memory. No condition.
-/
namespace Go.Proofs.YtimlfdihodoolaaGreat
set_option linter.unusedVariables false
set_option linter.unusedSimpArgs false
open Go.RowKit


theorem ret_i {k : IntKind} {a b : Int} (h : a = b) : Ending.returned (.int k a) = .returned (.int k b) := by rw [h]
theorem ret_b {a b : Bool} (h : a = b) : Ending.returned (.bool a) = .returned (.bool b) := by rw [h]

/-- What a disk is. -/
structure DS where
  bytes : List UInt8
  sure : Nat
  room : Nat
  broken : Bool

def DS.fit (D : DS) : Prop := D.sure ≤ D.bytes.length ∧ D.bytes.length ≤ D.room ∧ D.room ≤ 65536

/-- The disk D at block p, its bytes at A. -/
def Dk (w : World) (p : Nat) (A : Option Addr) (c : Nat) (D : DS) : Prop :=
  Blk w p 77 #[.slice A D.bytes.length c, .int .i64 D.sure, .int .i64 D.room, .bool D.broken] ∧ OwB w 5 A D.bytes.length c D.bytes ∧ D.fit

def dkf (p : Nat) (A : Option Addr) : Nat → Prop := fun k => k = p ∨ fp A k
def Nw (w : World) (A A' : Option Addr) : Prop := A' = A ∨ Fresh w A'

section
variable {F : Nat → Prop} {w w' : World} {p : Nat} {A : Option Addr} {c : Nat} {D : DS}
theorem Dk.mod (h : Dk w p A c D) (hm : Mod F w w') (hF : ∀ k, dkf p A k → ¬ F k) : Dk w' p A c D :=
  ⟨h.1.mod hm (hF p (.inl rfl)), h.2.1.mod hm (fun k hk => hF k (.inr hk)), h.2.2⟩
theorem Dk.mod0 (h : Dk w p A c D) (hm : Mod none_ w w') : Dk w' p A c D := h.mod hm fun _ _ hh => hh
theorem Dk.apart (h : Dk w p A c D) : ¬ fp A p := h.2.1.ne_blk h.1 (by decide)
theorem Dk.lt (h : Dk w p A c D) : ∀ k, dkf p A k → k < w.heap.size := by
  rintro k (rfl | hk)
  · exact h.1.lt
  · exact h.2.1.lt k hk
theorem Dk.c0 (h : Dk w p A c D) : w.cell? ⟨p, 0, none⟩ = some (.slice A D.bytes.length c) := h.1.cell 0
theorem Dk.c1 (h : Dk w p A c D) : w.cell? ⟨p, 1, none⟩ = some (.int .i64 D.sure) := h.1.cell 1
theorem Dk.c2 (h : Dk w p A c D) : w.cell? ⟨p, 2, none⟩ = some (.int .i64 D.room) := h.1.cell 2
theorem Dk.c3 (h : Dk w p A c D) : w.cell? ⟨p, 3, none⟩ = some (.bool D.broken) := h.1.cell 3
end

theorem disk_new (r : Int) (w : World) : Calls Tryz.prog 10 #[.int .i64 r] w fun e w' =>
    e = .returned (.pointer (some ⟨w.heap.size, 0, none⟩)) ∧ Dk w' w.heap.size none 0 ⟨[], 0, (min (max r 0) 65536).toNat, false⟩ ∧ Mod none_ w w' := by
  have fin : ∀ (n : Int), n = min (max r 0) 65536 → ∀ w', w' = w.alloc (.cells #[.slice none 0 0, .int .i64 0, .int .i64 n, .bool false] 77) →
      Dk w' w.heap.size none 0 ⟨[], 0, (min (max r 0) 65536).toNat, false⟩ ∧ Mod none_ w w' := by
    rintro n hn w' rfl
    refine ⟨⟨?_, Ow.nil _ _ _, ?_⟩, (Mod.refl _ w).alloc _⟩
    · have e : (((min (max r 0) 65536).toNat : Nat) : Int) = n := by omega
      simp only [e]
      exact Blk.new w _ _
    · simp [DS.fit]; omega
  go_enter Tryz.func10, Tryz.ntmps10
  go_wp2
  all_goals go_ret
  all_goals exact ⟨rfl, fin _ (by omega) _ rfl⟩

theorem disk_broken_nil (w : World) : Calls Tryz.prog 61 #[.pointer none] w fun e w' => e = .returned (.bool true) ∧ w = w' := by
  go_enter Tryz.func61, Tryz.ntmps61
  go_wp2
  go_ret
  exact ⟨rfl, rfl⟩
theorem disk_broken (p : Nat) (b : Bool) (w : World) (h : w.cell? ⟨p, 3, none⟩ = some (.bool b)) : Calls Tryz.prog 61 #[.pointer (some ⟨p, 0, none⟩)] w fun e w' => e = .returned (.bool b) ∧ w = w' := by
  go_enter Tryz.func61, Tryz.ntmps61
  go_wp2
  go_ret
  exact ⟨rfl, rfl⟩
theorem disk_sure_nil (w : World) : Calls Tryz.prog 16 #[.pointer none] w fun e w' => e = .returned (.int .i64 0) ∧ w = w' := by
  go_enter Tryz.func16, Tryz.ntmps16
  go_wp2
  go_ret
  exact ⟨rfl, rfl⟩
theorem disk_sure (p : Nat) (n : Int) (w : World) (h : w.cell? ⟨p, 1, none⟩ = some (.int .i64 n)) : Calls Tryz.prog 16 #[.pointer (some ⟨p, 0, none⟩)] w fun e w' => e = .returned (.int .i64 n) ∧ w = w' := by
  go_enter Tryz.func16, Tryz.ntmps16
  go_wp2
  go_ret
  exact ⟨rfl, rfl⟩
theorem disk_room_nil (w : World) : Calls Tryz.prog 62 #[.pointer none] w fun e w' => e = .returned (.int .i64 0) ∧ w = w' := by
  go_enter Tryz.func62, Tryz.ntmps62
  go_wp2
  go_ret
  exact ⟨rfl, rfl⟩
/-- The room; it draws. -/
theorem disk_room (p : Nat) (A : Option Addr) (n r c : Nat) (w : World) (h0 : w.cell? ⟨p, 0, none⟩ = some (.slice A n c)) (h2 : w.cell? ⟨p, 2, none⟩ = some (.int .i64 r)) (hr : r ≤ 65536) (hn : n ≤ r) :
    Calls Tryz.prog 62 #[.pointer (some ⟨p, 0, none⟩)] w fun e w' => e = .returned (.int .i64 ((r : Int) - n)) ∧ ∃ k, w' = w.drewN k := by
  go_enter Tryz.func62, Tryz.ntmps62
  go_wp2
  go_quiet (fail)
  go_wp2
  go_ret
  exact ⟨rfl, _, rfl⟩
theorem disk_sync_nil (w : World) : Calls Tryz.prog 33 #[.pointer none] w fun e w' => e = .returned (.int .i64 14) ∧ w = w' := by
  go_enter Tryz.func33, Tryz.ntmps33
  go_wp2_with (go_at_call 61; refine (disk_broken_nil _).mono ?_; rintro e w' ⟨rfl, rfl⟩)
  go_ret
  exact ⟨rfl, rfl⟩

theorem Dk.upd {w w' : World} {p : Nat} {A : Option Addr} {c : Nat} {D D' : DS} {cs : Array Value} (h : Dk w p A c D) (hb : Blk w' p 77 cs) (hm : Mod (fun k => k = p) w w')
    (hcs : cs = #[.slice A D'.bytes.length c, .int .i64 D'.sure, .int .i64 D'.room, .bool D'.broken]) (hD : D'.bytes = D.bytes) (hf : D'.fit) : Dk w' p A c D' := by
  refine ⟨hcs ▸ hb, ?_, hf⟩
  rw [hD]
  exact h.2.1.mod hm (fun k hk he => h.apart (he ▸ hk))

section
variable (p : Nat) (A : Option Addr) (c : Nat) (l : List UInt8) (s r : Nat) (w : World)
theorem disk_sync_down (h : Dk w p A c ⟨l, s, r, true⟩) : Calls Tryz.prog 33 #[.pointer (some ⟨p, 0, none⟩)] w fun e w' => e = .returned (.int .i64 14) ∧ w = w' := by
  have h3 := h.c3
  clear h
  go_enter Tryz.func33, Tryz.ntmps33
  go_wp2_with (go_at_call 61; refine (disk_broken p _ _ h3).mono ?_; rintro e w' ⟨rfl, rfl⟩)
  go_ret
  exact ⟨rfl, rfl⟩
theorem disk_sync (h : Dk w p A c ⟨l, s, r, false⟩) : Calls Tryz.prog 33 #[.pointer (some ⟨p, 0, none⟩)] w fun e w' =>
    e = .returned (.int .i64 0) ∧ Dk w' p A c ⟨l, l.length, r, false⟩ ∧ Mod (dkf p A) w w' := by
  have h0 := h.c0
  have h1 := h.c1
  have h3 := h.c3
  have f1 := h.1.frozen 1
  have H := Lib.hid h
  clear h
  go_enter Tryz.func33, Tryz.ntmps33
  go_wp2_with (go_at_call 61; refine (disk_broken p _ _ h3).mono ?_; rintro e w' ⟨rfl, rfl⟩)
  go_ret
  have h := H.out
  exact ⟨rfl, h.upd (h.1.set_ 1 _) ((Mod.refl (fun k => k = p) w).setCell (p := ⟨p, 1, none⟩) (.inl rfl) _) rfl rfl ⟨Nat.le_refl _, h.2.2.2⟩, (Mod.refl _ w).setCell (.inl (.inl rfl)) _⟩

/-- slices.Clone: the bytes, in a row of its own. -/
theorem clone_any (B : Option Addr) (n d : Nat) (h : RdB w B n l) (hn : n ≤ 140737488351232) : Calls Tryz.prog 34 #[.slice B n d] w fun e w' =>
    ∃ A' c', e = .returned (.slice A' n c') ∧ OwB w' 5 A' n c' l ∧ Fresh w A' ∧ Mod none_ w w' := by
  obtain ⟨i0, hi, hz0, hz1, hz2⟩ := info_parts u8info
  have hq := fun (w : World) (a : Option Addr) (n c : Nat) => Lib.run_eql_slice_nil (P := Tryz.prog) w 22 _ a n c 0 0 Tryz.underlying22
  rcases B with _ | a
  · have hl : l = [] := by
      rcases Nat.eq_zero_or_pos n with h0 | h0
      · exact List.eq_nil_of_length_eq_zero (by rw [h.len, h0])
      · obtain ⟨ad, h, _⟩ := h.2 h0; cases h
    have hn0 : n = 0 := by rw [← h.len, hl] <;> rfl
    subst hl hn0
    clear h hn
    go_enter Tryz.func34, Tryz.ntmps34
    go_wp2
    go_ret
    exact ⟨none, 0, rfl, Ow.nil _ _ _, (fun _ h => by cases h), Mod.refl _ _⟩
  · go_enter Tryz.func34, Tryz.ntmps34
    go_wp2_with (at_builtin; refine wpList_append_ow rfl (.tmp 5) (.tmp 6) 22 rfl 5 i0 _ 1 1 Tryz.underlying22 hi hz0 hz1 hz2 rfl (by omega) (some ⟨w.heap.size, 0, none⟩) 0 0 [] rfl ?_ (some a) n d (bvs l) rfl ?_ (bvs_one l) (by omega) (by omega) ?_)
    · exact Ow.new w _ 1 0 #[] (Nat.zero_le _) rfl
    · exact Rd.alloc h _
    · intro A' c' w1 hown hmod hA'
      go_wp2
      go_ret
      refine ⟨A', c', rfl, hown, ?_, ((Mod.refl none_ w).alloc (.cells #[] 5)).then hmod ?_⟩
      · rintro b hb
        rcases hA' with rfl | rfl <;> cases hb <;> simp
      · rintro k hk ⟨b, hb, rfl⟩
        cases hb
        simp at hk

/-- Bytes. -/
theorem disk_bytes_nil : Calls Tryz.prog 13 #[.pointer none] w fun e w' => e = .returned (.slice none 0 0) ∧ w = w' := by
  go_enter Tryz.func13, Tryz.ntmps13
  go_wp2
  go_ret
  exact ⟨rfl, rfl⟩
theorem disk_bytes (D : DS) (h : Dk w p A c D) : Calls Tryz.prog 13 #[.pointer (some ⟨p, 0, none⟩)] w fun e w' =>
    ∃ A' c', e = .returned (.slice A' D.bytes.length c') ∧ OwB w' 5 A' D.bytes.length c' D.bytes ∧ Fresh w A' ∧ Mod none_ w w' := by
  have h0 := h.c0
  have hr : RdB w A D.bytes.length D.bytes := h.2.1.rd
  have hlen : D.bytes.length ≤ 65536 := Nat.le_trans h.2.2.2.1 h.2.2.2.2
  clear h
  go_enter Tryz.func13, Tryz.ntmps13
  go_wp2_with (go_at_call 34; refine (clone_any D.bytes _ A _ _ hr (by omega)).mono ?_; rintro e w1 ⟨A', c', rfl, h1, h2, h3⟩)
  go_ret
  exact ⟨A', c', rfl, h1, h2, h3⟩

/-- Append. -/
theorem disk_append_nil (v : Value) : Calls Tryz.prog 32 #[.pointer none, v] w fun e w' => e = .returned (.int .i64 14) ∧ w = w' := by
  go_enter Tryz.func32, Tryz.ntmps32
  go_wp2_with (go_at_call 61; refine (disk_broken_nil _).mono ?_; rintro e w' ⟨rfl, rfl⟩)
  go_ret
  exact ⟨rfl, rfl⟩
theorem disk_append_down (v : Value) (h : Dk w p A c ⟨l, s, r, true⟩) : Calls Tryz.prog 32 #[.pointer (some ⟨p, 0, none⟩), v] w fun e w' => e = .returned (.int .i64 14) ∧ w = w' := by
  have h3 := h.c3
  clear h
  go_enter Tryz.func32, Tryz.ntmps32
  go_wp2_with (go_at_call 61; refine (disk_broken p _ _ h3).mono ?_; rintro e w' ⟨rfl, rfl⟩)
  go_ret
  exact ⟨rfl, rfl⟩
theorem disk_append_full (h : Dk w p A c ⟨l, s, r, false⟩) (B : Option Addr) (n d : Nat) (hn : r < l.length + n) : Calls Tryz.prog 32 #[.pointer (some ⟨p, 0, none⟩), .slice B n d] w fun e w' =>
    e = .returned (.int .i64 5) ∧ ∃ k, w' = w.drewN k := by
  have h0 := h.c0
  have h2 := h.c2
  have h3 := h.c3
  have hr : r ≤ 65536 := h.2.2.2.2
  have hl : l.length ≤ r := h.2.2.2.1
  clear h
  go_enter Tryz.func32, Tryz.ntmps32
  go_wp2_with (first
    | (go_at_call 61; refine (disk_broken p _ _ h3).mono ?_; rintro e w' ⟨rfl, rfl⟩)
    | (go_at_call 62; refine (disk_room p _ _ _ _ _ h0 h2 hr hl).mono ?_; rintro e w' ⟨rfl, k, rfl⟩))
  go_ret
  exact ⟨rfl, _, rfl⟩
set_option maxRecDepth 100000 in
theorem disk_append (h : Dk w p A c ⟨l, s, r, false⟩) (B : Option Addr) (n d : Nat) (b : List UInt8) (hb : RdB w B n b) (hn : l.length + n ≤ r) : Calls Tryz.prog 32 #[.pointer (some ⟨p, 0, none⟩), .slice B n d] w fun e w' =>
    e = .returned (.int .i64 0) ∧ ∃ A', (∃ c', Dk w' p A' c' ⟨l ++ b, s, r, false⟩) ∧ Nw w A A' ∧ Mod (dkf p A) w w' := by
  obtain ⟨i0, hi, hz0, hz1, hz2⟩ := info_parts u8info
  have h0 := h.c0
  have h2 := h.c2
  have h3 := h.c3
  have hr : r ≤ 65536 := h.2.2.2.2
  have hl : l.length ≤ r := h.2.2.2.1
  have H := Lib.hid h
  clear h
  go_enter Tryz.func32, Tryz.ntmps32
  go_wp2_with (first
    | (go_at_call 61; refine (disk_broken p _ _ h3).mono ?_; rintro e w' ⟨rfl, rfl⟩)
    | (go_at_call 62; refine (disk_room p _ _ _ _ _ h0 h2 hr hl).mono ?_; rintro e w' ⟨rfl, k, rfl⟩)
    | (at_builtin; refine wpList_append_ow rfl (.tmp 18) (.tmp 19) 22 rfl 5 i0 _ 1 1 Tryz.underlying22 hi hz0 hz1 hz2 rfl (by omega) A l.length c (bvs l) rfl ?_ B n d (bvs b) rfl ?_ (bvs_one b) (by omega) (by omega) ?_))
  · exact H.out.2.1
  · exact hb
  · intro A' c' w1 hown hmod hA'
    have h := H.out
    have hb1 : Blk w1 p _ _ := h.1.mod (w := w.drewN k) hmod h.apart
    have c0 := hb1.cell 0
    have f0 := hb1.frozen 0
    have Hb1 := Lib.hid hb1
    have Hown := Lib.hid hown
    have Hmod := Lib.hid hmod
    clear h hb1 hown hmod
    go_wp2
    go_ret
    have h := H.out
    have hown := Hown.out
    have hmod := Hmod.out
    have hnA : ¬ fp A' p := hown.ne_blk Hb1.out (by decide)
    refine ⟨rfl, A', ⟨c', ?_, ?_, ?_⟩, ?_, ?_⟩
    · have e : (l ++ b).length = l.length + n := by rw [List.length_append, hb.len]
      show Blk _ _ _ #[.slice A' (l ++ b).length c', _, _, _]
      rw [e]
      exact Hb1.out.set_ 0 _
    · have e : (l ++ b).length = l.length + n := by rw [List.length_append, hb.len]
      show Ow _ _ _ _ (l ++ b).length _ _
      rw [e, bvs_append]
      exact hown.mod ((Mod.refl (fun k => k = p) w1).setCell (p := ⟨p, 0, none⟩) (.inl rfl) _) (fun i hi he => hnA (he ▸ hi))
    · have := h.2.2
      have := hb.len
      simp only [DS.fit, List.length_append] at *
      omega
    · rcases hA' with rfl | rfl
      · exact .inl rfl
      · exact .inr fun a ha => by cases ha; simp
    · have h1 : Mod (dkf p A) w w1 := ((Mod.refl (dkf p A) w).drewN k).then hmod fun i _ hi => .inr hi
      exact h1.setCell (.inl (.inl rfl)) _

/-- Up: what is kept, and spoiled. -/
def spoil1 (sure keep : Nat) (l : List UInt8) (x : Int × UInt8) : List UInt8 := if 0 ≤ x.1 ∧ x.1 < keep then l.set (sure + x.1.toNat) x.2 else l
def spoils_ (sure keep : Nat) (l : List UInt8) (xs : List (Int × UInt8)) : List UInt8 := xs.foldl (spoil1 sure keep) l
theorem spoil1_length (sure keep : Nat) (l : List UInt8) (x : Int × UInt8) : (spoil1 sure keep l x).length = l.length := by unfold spoil1; split <;> simp
theorem spoils_length (sure keep : Nat) (xs : List (Int × UInt8)) : ∀ l, (spoils_ sure keep l xs).length = l.length := by
  induction xs with
  | nil => intro l; rfl
  | cons x xs ih => intro l; exact (ih _).trans (spoil1_length _ _ _ _)
def upKeep (l : List UInt8) (s : Nat) (k : Int) : Nat := (min (max k 0) ((l.length : Int) - s)).toNat
def spv (xs : List (Int × UInt8)) : List Value := xs.flatMap fun x => [.int .i64 x.1, bv x.2]

end
end Go.Proofs.YtimlfdihodoolaaGreat
/-
  Contracts of frame.fits, frame.table, frame.Sum. No condition.
-/
namespace Go.Proofs.YtimlfdihodoolaaGreat
set_option linter.unusedVariables false
set_option linter.unusedSimpArgs false
open Go.RowKit



theorem fits_yes (n : Int) (w : World) (h1 : 1 ≤ n) (h2 : n ≤ 4096) : Calls Tryz.prog 53 #[.int .i64 n] w fun e w' => e = .returned (.bool true) ∧ w = w' := by
  go_enter Tryz.func53, Tryz.ntmps53
  go_wp2
  go_ret
  exact ⟨rfl, rfl⟩
theorem fits_no (n : Int) (w : World) (h : n < 1 ∨ 4096 < n) : Calls Tryz.prog 53 #[.int .i64 n] w fun e w' => e = .returned (.bool false) ∧ w = w' := by
  rcases h with h | h
  · go_enter Tryz.func53, Tryz.ntmps53
    go_wp2
    go_ret
    exact ⟨rfl, rfl⟩
  · have h1 : 1 ≤ n := by omega
    go_enter Tryz.func53, Tryz.ntmps53
    go_wp2
    go_ret
    exact ⟨ret_b (by simp; omega), rfl⟩

/-- The table with its first j places filled. -/
def tabCells (j : Nat) : Array Value := ((List.range 256).map fun i => Value.int .u32 (if i < j then (tabN i : Int) else 0)).toArray
theorem tabCells_size (j : Nat) : (tabCells j).size = 256 := by simp [tabCells]
theorem tabCells_get (j i : Nat) (hi : i < 256) : (tabCells j)[i]? = some (.int .u32 (if i < j then (tabN i : Int) else 0)) := by
  simp [tabCells, hi]
theorem tabCells_set (j : Nat) (hj : j < 256) : (tabCells j).setIfInBounds j (.int .u32 (tabN j : Int)) = tabCells (j + 1) := by
  apply Array.ext_getElem?
  intro i
  rw [Array.getElem?_setIfInBounds]
  by_cases h : j = i
  · subst h
    rw [if_pos rfl, if_pos (by rw [tabCells_size]; exact hj), tabCells_get _ _ hj, if_pos (by omega)]
  · rw [if_neg h]
    rcases Nat.lt_or_ge i 256 with hi | hi
    · rw [tabCells_get _ _ hi, tabCells_get _ _ hi]
      by_cases h2 : i < j
      · rw [if_pos h2, if_pos (by omega)]
      · rw [if_neg h2, if_neg (by omega)]
    · rw [Array.getElem?_eq_none (by rw [tabCells_size]; exact hi), Array.getElem?_eq_none (by rw [tabCells_size]; exact hi)]

/-- A new variable, whatever its size. -/
theorem wpList_alloc_zero {P : Program} {w : World} {ops : Array Oper} {rest : List Oper} {o : Oper} {a : Act} {Q : Exit → Act → World → Prop} (hgd : o.guard = none) (t : TypeId) (ho : o.op = .alloc t)
    (i : TypeInfo) (z : Value) (hi : P.info? t = some i) (hz : i.zero = some z)
    (h : wpList P ops Q rest (a.put o.dst (.pointer (some ⟨w.heap.size, 0, none⟩))) (w.alloc (.cells z.cells t))) : wpList P ops Q (o :: rest) a w :=
  wpList_plain hgd fun K hK => by
    unfold Oper.wp execOp
    simp only [ho]
    simp [Instr.alloc, zeroValue, typeInfo, hi, hz, newVar, newRow, newObj]
    exact hK _ _ h

theorem tabinfo : (Tryz.prog.info? 135).map (fun i => (i.zero, i.size, i.bytes)) = some (some (.agg (tabCells 0)), 256, 1024) := by kernel_rfl

theorem step_bitsF (h : Nat) (hh : h < 4294967296) : bits .xor .u32 ((h : Int) / 2) (bits .and .u32 3988292384 (-bits .and .u32 (h : Int) 1 % 4294967296)) = ((step1 h : Nat) : Int) := by
  have e1 : bits .and .u32 (h : Int) 1 = ((h % 2 : Nat) : Int) := by
    have := ba32 h 1 hh (by omega)
    rw [Nat.and_one_is_mod] at this
    exact this
  have e2 : ((h : Int) / 2) = ((h / 2 : Nat) : Int) := by omega
  rw [e1, e2]
  unfold step1
  rcases Nat.mod_two_eq_zero_or_one h with h0 | h0
  · rw [h0, if_neg (by omega)]
    have e3 : bits .and .u32 3988292384 (-((0 : Nat) : Int) % 4294967296) = ((0 : Nat) : Int) := by
      have := ba32 3988292384 0 (by omega) (by omega)
      simpa using this
    rw [e3]
    exact bx32 _ _ (by omega) (by omega)
  · rw [h0, if_pos rfl]
    have e3 : bits .and .u32 3988292384 (-((1 : Nat) : Int) % 4294967296) = ((3988292384 : Nat) : Int) := by
      have := ba32 3988292384 4294967295 (by omega) (by omega)
      have e4 : -((1 : Nat) : Int) % 4294967296 = ((4294967295 : Nat) : Int) := by omega
      rw [e4]
      have e5 : (3988292384 &&& 4294967295 : Nat) = 3988292384 := by decide
      rw [e5] at this
      exact this
    rw [e3]
    exact bx32 _ _ (by omega) (by omega)

theorem u32_eq {a b : Int} (h : a = b) : Value.int .u32 a = Value.int .u32 b := by rw [h]

set_option maxRecDepth 100000 in
theorem table_ok (w : World) : Calls Tryz.prog 79 #[] w fun e w' => e = .returned (.pointer (some ⟨w.heap.size, 0, none⟩)) ∧ w' = w.alloc (.cells (tabCells 256) 135) := by
  obtain ⟨i0, hi, hz0, hz1, hz2⟩ := info_parts tabinfo
  go_enter Tryz.func79, Tryz.ntmps79
  go_wp2_with (refine wpList_alloc_zero rfl 135 rfl i0 _ hi hz0 ?_)
  go_loopw [4] (fun i wr => ∃ (j : Nat), i = .int .i64 j ∧ j ≤ 256 ∧ wr = w.alloc (.cells (tabCells j) 135)) (fun i _ => 256 - (intOf i).toNat)
  case atStart => exact ⟨0, rfl, by omega, rfl⟩
  case round =>
    obtain ⟨j, rfl, hj, rfl⟩ := hrel
    by_cases hj2 : j < 256
    · go_wp2_with fail
      go_loop [3, 9] (fun h4 i => ∃ (k : Nat), h4 = .int .u32 (stepN k j : Nat) ∧ i = .int .i64 k ∧ k ≤ 8) (fun _ i => 8 - (intOf i).toNat)
      case atStart => exact ⟨0, rfl, rfl, by omega⟩
      case round =>
        obtain ⟨k, rfl, rfl, hk⟩ := hrel
        by_cases hk2 : k < 8
        · have hlt := stepN_lt k j (by omega)
          have hs : stepN (k + 1) j = step1 (stepN k j) := rfl
          have hb := step_bitsF (stepN k j) hlt
          rw [← hs] at hb
          replace hb := Lib.hid hb
          clear hs
          go_wp2
          go_round
          case rel => exact ⟨k + 1, u32_eq hb.out, by go_num, by omega⟩
          case measure => simp [intOf]; omega
        · have hk3 : k = 8 := by omega
          subst hk3
          have hg := tabCells_get j j hj2
          rw [if_neg (by omega)] at hg
          have hlt := stepN_lt 8 j (by omega)
          have hset := Lib.hid (tabCells_set j hj2)
          go_wp2
          go_roundw
          case rel => exact ⟨j + 1, by go_num, by omega, by rw [← hset.out] <;> rfl⟩
          case measure => simp [intOf]; omega
    · have hj3 : j = 256 := by omega
      subst hj3
      go_wp2
      go_ret
      exact ⟨rfl, rfl⟩

theorem not_nat (q : Nat) (hq : q < 4294967296) : 4294967295 ^^^ q = 4294967295 - q := by
  have h := BitVec.toNat_not (x := BitVec.ofNat 32 q)
  rw [BitVec.not_def, BitVec.toNat_xor, BitVec.toNat_ofNat, Nat.mod_eq_of_lt (by omega : q < 2 ^ 32)] at h
  have e : (BitVec.allOnes 32).toNat = 4294967295 := by decide
  rw [e] at h
  exact h
theorem not32 (q : Nat) (hq : q < 4294967296) : bits .xor .u32 IntKind.u32.max (q : Int) = ((4294967295 - q : Nat) : Int) := by
  have e : IntKind.u32.max = ((4294967295 : Nat) : Int) := by decide
  rw [e, bx32 4294967295 q (by omega) hq, not_nat q hq]

set_option maxRecDepth 100000 in
theorem sum_ok (w : World) (A : Option Addr) (n c : Nat) (l : List UInt8) (h : RdB w A n l) (hn : n ≤ 140737488351232) : Calls Tryz.prog 54 #[.slice A n c] w fun e w' => e = .returned (.int .u32 (crc l : Nat)) ∧ Mod none_ w w' := by
  have hl := Lib.hid h.len
  have H := Lib.hid h
  clear h
  go_enter Tryz.func54, Tryz.ntmps54
  go_wp2_with fail
  refine (table_ok w).mono ?_
  rintro e w1 ⟨rfl, hw1⟩
  have hb : Blk w1 w.heap.size 135 (tabCells 256) := by rw [hw1]; exact Blk.new w _ _
  have hm : Mod none_ w w1 := by rw [hw1]; exact (Mod.refl _ w).alloc _
  have hr := Lib.hid (H.out.mod0 hm)
  have hbt : ∀ i, i < 256 → w1.cell? ⟨w.heap.size, i, none⟩ = some (.int .u32 (tabN i : Nat)) := fun i hi => by
    rw [hb.cell, tabCells_get 256 i hi, if_pos hi]
  replace hb := Lib.hid hb
  replace hbt := Lib.hid hbt
  replace hm := Lib.hid hm
  clear hw1
  go_wp2_with fail
  go_loop [4, 10] (fun h4 i => ∃ (j : Nat), h4 = .int .u32 (crcFold (l.take j) : Nat) ∧ i = .int .i64 j ∧ j ≤ n) (fun _ i => n - (intOf i).toNat)
  case atStart => exact ⟨0, rfl, rfl, by omega⟩
  case round =>
    obtain ⟨j, rfl, rfl, hj⟩ := hrel
    by_cases hlt : j < n
    · obtain ⟨g, o, rfl, hc⟩ := hr.out.form (by omega) (by omega)
      have hjl : j < l.length := by have := hl.out; omega
      have hcj := hc j _ (bvs_get hjl)
      have hsn : crcFold (l.take (j + 1)) = crcStep (crcFold (l.take j)) l[j] := by
        rw [← crcFold_snoc, List.take_add_one, List.getElem?_eq_getElem hjl] <;> rfl
      have hft := crcFold_lt (l.take j)
      clear hc
      generalize l[j] = b at *
      replace hsn := Lib.hid hsn
      generalize crcFold (l.take j) = q at *
      have hbl := b.toNat_lt
      have hx : bits .xor .u8 ((q : Int) % 256) (b.toNat : Int) = (((q % 256) ^^^ b.toNat : Nat) : Int) := bx8 (q % 256) b.toNat (by omega) (by omega)
      have hxl := xor_lt8 (q % 256) b.toNat (by omega) (by omega)
      obtain ⟨x, hxx⟩ : ∃ x, x = (q % 256) ^^^ b.toNat := ⟨_, rfl⟩
      rw [← hxx] at hx hxl
      have hct := hbt.out x hxl
      have hx2 : bits .xor .u32 ((q : Int) / 256) (tabN x : Nat) = ((crcStep q b : Nat) : Int) := by
        have := bx32 (q / 256) (tabN x) (by omega) (tabN_lt x hxl)
        rw [hxx] at this ⊢
        exact this
      replace hxx := Lib.hid hxx
      go_wp2
      go_round
      case rel => exact ⟨j + 1, by rw [hsn.out], by go_num, by omega⟩
      case measure => simp [intOf]; omega
    · have hjn : j = n := by omega
      have e : l.take j = l := List.take_of_length_le (by have := hl.out; omega)
      have hft := crcFold_lt (l.take j)
      rw [e] at hft ⊢
      clear e
      have hnot := Lib.hid (not32 (crcFold l) hft)
      go_wp2
      go_ret
      exact ⟨ret_i hnot.out, hm.out⟩
end Go.Proofs.YtimlfdihodoolaaGreat
/-
  The contract of frame.Frame. No condition.
-/
namespace Go.Proofs.YtimlfdihodoolaaGreat
set_option linter.unusedVariables false
set_option linter.unusedSimpArgs false
open Go.RowKit

/-- The head of a frame. -/
def fhead (l : List UInt8) : List UInt8 := [by_ l.length, by_ (l.length / 256), by_ (crc l), by_ (crc l / 256), by_ (crc l / 65536), by_ (crc l / 16777216)]
def frameOf (l : List UInt8) : List UInt8 := fhead l ++ l
theorem frameOf_length (l : List UInt8) : (frameOf l).length = 6 + l.length := by simp [frameOf, fhead]; omega
def fitsB (n : Nat) : Bool := decide (1 ≤ n ∧ n ≤ 4096)

theorem frame_no (w : World) (A : Option Addr) (n c : Nat) (hn : n < 1 ∨ 4096 < n) : Calls Tryz.prog 27 #[.slice A n c] w fun e w' => e = .returned (.tuple #[.slice none 0 0, .int .i64 1]) ∧ w = w' := by
  have H := Lib.hid (show (n : Int) < 1 ∨ 4096 < (n : Int) by omega)
  clear hn
  go_enter Tryz.func27, Tryz.ntmps27
  go_wp2_with (go_at_call 53; refine (fits_no _ _ H.out).mono ?_; rintro e w1 ⟨rfl, rfl⟩)
  go_ret2
  exact ⟨rfl, rfl⟩

set_option maxHeartbeats 1000000 in
theorem frame_yes (w : World) (A : Option Addr) (n c : Nat) (l : List UInt8) (h : RdB w A n l) (h1 : 1 ≤ n) (h2 : n ≤ 4096) : Calls Tryz.prog 27 #[.slice A n c] w fun e w' =>
    ∃ A' c', e = .returned (.tuple #[.slice A' (6 + n) c', .int .i64 0]) ∧ OwB w' 5 A' (6 + n) c' (frameOf l) ∧ Fresh w A' ∧ Mod none_ w w' := by
  have H := Lib.hid h
  have hl := Lib.hid h.len
  have hq := crc_lt l
  clear h
  go_enter Tryz.func27, Tryz.ntmps27
  go_wp2_with (first
    | (go_at_call 53; refine (fits_yes _ _ (by omega) (by omega)).mono ?_; rintro e w1 ⟨rfl, rfl⟩)
    | (go_at_call 54; refine (sum_ok _ A n c l H.out (by omega)).mono ?_; rintro e w1 ⟨rfl, hm1⟩; have Hm1 := Lib.hid hm1; clear hm1))
  have hhead : bvs (fhead l) = [.int .u8 ((n : Int) % 256), .int .u8 ((n : Int) / 256), .int .u8 ((crc l : Int) % 256), .int .u8 ((crc l : Int) / 256 % 256), .int .u8 ((crc l : Int) / 65536 % 256), .int .u8 ((crc l : Int) / 16777216)] := by
    have e := hl.out
    simp only [bvs, fhead, bv, List.map_cons, List.map_nil, by_toNat, e]
    have x1 : ((n / 256 % 256 : Nat) : Int) = (n : Int) / 256 := by omega
    have x2 : ((crc l / 16777216 % 256 : Nat) : Int) = (crc l : Int) / 16777216 := by omega
    rw [x1, x2]
    rfl
  have hh : ∀ w2, w2 = (w1.alloc (.cells #[.int .u8 ((n : Int) % 256), .int .u8 ((n : Int) / 256), .int .u8 ((crc l : Int) % 256), .int .u8 ((crc l : Int) / 256 % 256), .int .u8 ((crc l : Int) / 65536 % 256), .int .u8 ((crc l : Int) / 16777216)] 5)).alloc (.cells #[.slice (some ⟨w1.heap.size, 0, none⟩) 6 6, .slice A n c] 22) →
      Rd w2 1 (some ⟨w1.heap.size + 1, 0, none⟩) 2 [.slice (some ⟨w1.heap.size, 0, none⟩) 6 6, .slice A n c] ∧ RdB w2 (some ⟨w1.heap.size, 0, none⟩) 6 (fhead l) ∧ RdB w2 A n l ∧ Mod none_ w w2 := by
    rintro w2 rfl
    refine ⟨rdn (w1.alloc _) _ 1 2 _ _ (0, 0) (by simp) rfl, ?_, Rd.mod0 H.out ((Hm1.out.alloc _).alloc _), (Hm1.out.alloc _).alloc _⟩
    show Rd _ _ _ _ (bvs (fhead l))
    rw [hhead]
    exact Rd.alloc (rdn w1 _ 1 6 _ _ (0, 0) rfl rfl) _
  obtain ⟨g1, g2, g3, g4⟩ := hh _ rfl
  refine (concat2_ok _ (w1.heap.size + 1) (some ⟨w1.heap.size, 0, none⟩) A 6 n 6 c (fhead l) l g1 g2 g3 (by omega)).mono ?_
  rintro e w3 ⟨A3, c3, rfl, ho3, hf3, hm3⟩
  have hm4 := Lib.hid (g4.trans hm3)
  have hf4 := Lib.hid (Fresh.later hf3 g4.size)
  have ho4 := Lib.hid ho3
  clear hhead hh g1 g2 g3 g4 ho3 hf3 hm3
  go_wp2
  go_ret2
  exact ⟨A3, c3, rfl, ho4.out, hf4.out, hm4.out⟩
end Go.Proofs.YtimlfdihodoolaaGreat
