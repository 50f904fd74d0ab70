import Derived.Test.YtfkfiokkjjnhiaaGreatUp37
import Derived.Test.YtfkfiokkjjnhiaaGreatUp39
import Derived.Test.YtfkfiokkjjnhiaaGreatUp36
import Derived.Test.YtfkfiokkjjnhiaaGreatUp38
import Derived.Test.YtfkfiokkjjnhiaaGreatUp34
set_option linter.unusedVariables false
set_option linter.unusedSimpArgs false
set_option maxHeartbeats 16000000
namespace Go.Proofs.YtfkfiokkjjnhiaaGreat
open Go.RowKit
def TakeGPost (w : World) (col : Col) (k : Nat) (b : RpB) (me : Int) (R : Option Addr → Nat → Nat → RpS → Col → World → Prop) (e : Ending) (w' : World) : Prop :=
 ∃ A m c X' col', e = .returned (.tuple #[.slice A m c, .int .i64 0]) ∧ RpM w' col' k b me 3 X' ∧ R A m c X' col' w' ∧ Ext w col col' ∧ Mod (owns col k) w w'
set_option maxRecDepth 100000
theorem takeG_ok (w : World) (col : Col) (k : Nat) (b : RpB) (me frm : Int) (X : RpS) (h : RpM w col k b me 3 X) (hf0 : 0 ≤ frm) (hf3 : frm < 3) (hfm : frm ≠ me) (y : Rs) (hget : (findI X.S i1).getD (slV (slZ i1)) = slV y) (hyb : y.r.bal = 0) (hwl : X.Wt.length + 1 < maxLen)
  (hcn : ∀ j, w.heap.size ≤ j → col j = (99, 0)) (hk9 : k < 49) (R : Option Addr → Nat → Nat → RpS → Col → World → Prop)
  (hH : ∀ W, RpM W col k b me 3 { X with Wt := putI' i1 (.int .i64 0) X.Wt } → Mod (own col k) w W → Calls Tryz.prog 194 #[.pointer (some ⟨b.q, 0, none⟩), .agg #[.int .i64 frm, .int .i64 me, .int .i64 9, .int .i64 i1.r, .int .i64 i1.n, .int .i64 0, .int .i64 0, .int .i64 0, .int .i64 en0.o.c, .int .i64 en0.o.s, .int .i64 en0.o.k, .string (txt en0.o.acct), .string (txt en0.o.peer), .int .i64 en0.o.sum, .slice L0.a L0.n L0.c, .int .i64 en0.o.per, .int .i64 en0.o.hold, .string (txt en0.o.note), .bool en0.none, .slice L0.a L0.n L0.c]] W (TakeGPost W col k b me R))
  (hR : ∀ A m c X' col' W W', RpM W col' k b me 3 X' → R A m c X' col' W → Mod (· = b.q) W W' → R A m c X' col' W') :
  Calls Tryz.prog 68 #[.pointer (some ⟨b.q, 0, none⟩), .agg #[.int .i64 frm, .int .i64 me, .int .i64 9, .int .i64 i1.r, .int .i64 i1.n, .int .i64 0, .int .i64 0, .int .i64 0, .int .i64 en0.o.c, .int .i64 en0.o.s, .int .i64 en0.o.k, .string (txt en0.o.acct), .string (txt en0.o.peer), .int .i64 en0.o.sum, .slice L0.a L0.n L0.c, .int .i64 en0.o.per, .int .i64 en0.o.hold, .string (txt en0.o.note), .bool en0.none, .slice L0.a L0.n L0.c]] w (TakeGPost w col k b me R) := by
 have hlq := h.q.lt
 obtain ⟨w0, hw0⟩ : ∃ w0, w0 = (w.alloc (.cells #[.int .i64 frm, .int .i64 me, .int .i64 9, .int .i64 i1.r, .int .i64 i1.n, .int .i64 0, .int .i64 0, .int .i64 0, .int .i64 en0.o.c, .int .i64 en0.o.s, .int .i64 en0.o.k, .string (txt en0.o.acct), .string (txt en0.o.peer), .int .i64 en0.o.sum, .slice L0.a L0.n L0.c, .int .i64 en0.o.per, .int .i64 en0.o.hold, .string (txt en0.o.note), .bool en0.none, .slice L0.a L0.n L0.c] 66)) := ⟨_, rfl⟩
 have hs0 : w0.heap.size = w.heap.size + 1 := by rw [hw0]; simp
 have hm0 : Mod none_ w w0 := by rw [hw0]; exact (Mod.refl none_ w).alloc _
 have hbm : Blk w0 w.heap.size 66 #[.int .i64 frm, .int .i64 me, .int .i64 9, .int .i64 i1.r, .int .i64 i1.n, .int .i64 0, .int .i64 0, .int .i64 0, .int .i64 en0.o.c, .int .i64 en0.o.s, .int .i64 en0.o.k, .string (txt en0.o.acct), .string (txt en0.o.peer), .int .i64 en0.o.sum, .slice L0.a L0.n L0.c, .int .i64 en0.o.per, .int .i64 en0.o.hold, .string (txt en0.o.note), .bool en0.none, .slice L0.a L0.n L0.c] := by rw [hw0]; exact Blk.new w _ _
 have hr0 := zH (h.mod0 hm0)
 have kF := zH (fitsG_ok w0.drew b.q me frm ((hr0.out.mod0 (Mod.refl none_ w0).drew).q.cell_ rfl) ((hr0.out.mod0 (Mod.refl none_ w0).drew).q.cell_ rfl) hf0 hf3 hfm)
 replace hm0 := zH hm0
 replace hbm := zH hbm
 replace h := zH h
 replace hget := zH hget
 replace hyb := zH hyb
 replace hcn := zH hcn
 replace hH := zH hH
 replace hR := zH hR
 replace hf0 := zH hf0
 replace hf3 := zH hf3
 replace hfm := zH hfm
 go_enter Tryz.func68, Tryz.ntmps68
 go_upto_region 1 with fail
 rw [← hw0]
 replace hw0 := zH hw0
 refine wp_region_held_drew (S := fun W => Mod none_ w0 W) (by kernel_rfl) (Mod.refl none_ w0).drew (fun hHeld => ?_)
 refine tkZ 0 ?_ rfl ?_ ?_
 rotate_left
 ·intro W hSw; (try dsimp only at hSw); go_simp; (try with_reducible rfl)
 try simp only [Act.put, q1Z, q2Z, q3Z, q4Z, q5Z, q6Z]
 refine tkZ 1 ?_ rfl ?_ ?_
 rotate_left
 ·intro W hSw; (try dsimp only at hSw); go_simp; (try with_reducible rfl)
 try simp only [Act.put, q1Z, q2Z, q3Z, q4Z, q5Z, q6Z]
 refine tkZ 2 ?_ rfl ?_ ?_
 rotate_left
 ·intro W hSw; (try dsimp only at hSw); go_simp; (try with_reducible rfl)
 try simp only [Act.put, q1Z, q2Z, q3Z, q4Z, q5Z, q6Z]
 refine tkZ 3 ?_ rfl ?_ ?_
 rotate_left
 ·intro W hSw; (try dsimp only at hSw); go_simp; (try with_reducible rfl)
 try simp only [Act.put, q1Z, q2Z, q3Z, q4Z, q5Z, q6Z]
 refine wpAnyH_take (i := 4) rfl (by kernel_rfl) (by kernel_rfl) (by kernel_rfl) (fun _ _ _ h => h) (yieldsIf_load_mid (by rfl) 66 (.tmp 3) rfl w.heap.size 0 rfl [.int .i64 frm, .int .i64 me, .int .i64 9, .int .i64 i1.r, .int .i64 i1.n, .int .i64 0, .int .i64 0, .int .i64 0, .int .i64 en0.o.c, .int .i64 en0.o.s, .int .i64 en0.o.k, .string (txt en0.o.acct), .string (txt en0.o.peer), .int .i64 en0.o.sum, .slice L0.a L0.n L0.c, .int .i64 en0.o.per, .int .i64 en0.o.hold, .string (txt en0.o.note), .bool en0.none, .slice L0.a L0.n L0.c] _ (fun W hW => Blk.range (hbm.out.mod hW (fun h => h)) 0 _ rfl) Tryz.underlying66 rfl msg_size) (by assumption) ?_
 try simp only [Act.put, q1Z, q2Z, q3Z, q4Z, q5Z, q6Z]
 refine rdZ 5 rfl (fun K hK => ?_)
 go_simp
 refine kF.out.mono ?_
 rintro e w1 ⟨rfl, hm1⟩
 dsimp only
 have hm1' := (Mod.refl none_ w0).drew.trans hm1
 refine hK.out _ _ (hm1') (fun hHeld => ?_)
 clear hK K
 try simp only [Act.put, q1Z, q2Z, q3Z, q4Z, q5Z, q6Z]
 refine tkZ 6 ?_ rfl ?_ ?_
 rotate_left
 ·intro W hSw; (try dsimp only at hSw); go_simp; (try with_reducible rfl)
 try simp only [Act.put, q1Z, q2Z, q3Z, q4Z, q5Z, q6Z]
 refine tkZ 7 ?_ rfl ?_ ?_
 rotate_left
 ·intro W hSw; (try dsimp only at hSw); go_simp; (try with_reducible rfl)
 try simp only [Act.put, q1Z, q2Z, q3Z, q4Z, q5Z, q6Z]
 refine tkZ 8 ?_ rfl ?_ ?_
 rotate_left
 ·intro W hSw; (try dsimp only at hSw); go_simp; (try with_reducible rfl)
 try simp only [Act.put, q1Z, q2Z, q3Z, q4Z, q5Z, q6Z]
 have hnf : ∀ W, (binOp .eql 209 (.func (.func 194) #[] #[]) .nilFunc).run Tryz.prog W = .ok (.bool false) W := fun _ => rfl
 refine tkZ 10 ?_ rfl ?_ ?_
 rotate_left
 ·intro W hSw; (try dsimp only at hSw); go_simp; (try with_reducible rfl)
 try simp only [Act.put, q1Z, q2Z, q3Z, q4Z, q5Z, q6Z]
 refine tkZ 11 ?_ rfl ?_ ?_
 rotate_left
 ·intro W hSw; have c2 : W.cell? ⟨w.heap.size, 2, none⟩ = some (.int .i64 9) := (hbm.out.mod hSw (fun h => h)).cell_ rfl; go_simp; (try with_reducible rfl)
 try simp only [Act.put, q1Z, q2Z, q3Z, q4Z, q5Z, q6Z]
 refine rdZ 9 rfl (fun K hK => ?_)
 go_simp
 refine (takers_ok _).mono ?_
 rintro e w2 ⟨bt, rfl, hbt, hm2⟩
 dsimp only
 have hm2' := hm1'.trans hm2
 refine hK.out _ _ (hm2') (fun hHeld => ?_)
 clear hK K
 try simp only [Act.put, q1Z, q2Z, q3Z, q4Z, q5Z, q6Z]
 have lk1 := takers_look hbt (k := 9) (by decide) (v := .func (.func 194) #[] #[]) (by rfl)
 refine rdZ 12 rfl (fun K hK => ?_)
 go_simp
 refine hK.out _ _ (hm2') (fun hHeld => ?_)
 clear hK K
 try simp only [Act.put, q1Z, q2Z, q3Z, q4Z, q5Z, q6Z]
 refine tkZ 13 ?_ rfl ?_ ?_
 rotate_left
 ·intro W hSw; (try dsimp only at hSw); go_simp; (try with_reducible rfl)
 try simp only [Act.put, q1Z, q2Z, q3Z, q4Z, q5Z, q6Z]
 refine tkZ 14 ?_ rfl ?_ ?_
 rotate_left
 ·intro W hSw; (try dsimp only at hSw); go_simp; (try with_reducible rfl)
 try simp only [Act.put, q1Z, q2Z, q3Z, q4Z, q5Z, q6Z]
 refine wpAnyH_done (by kernel_rfl) ?_ _
 clear hHeld hm1 hm1' hm2 hbt lk1
 have hM2 := zH (hm0.out.trans hm2')
 have hbm2 := hbm.out.mod hm2' (fun h => h)
 have hr2 := hr0.out.mod0 hm2'
 have hs2 : w.heap.size + 1 ≤ w2.heap.size := by have := hm2'.size; omega
 clear hm2' hr0 kF hnf
 obtain ⟨w3, hrun3, hwt3, hm3, hs3⟩ := MapK.store_run (w := w2.drew) (hr2.wt.mod (Mod.refl none_ w2).drew (fun h => h)) Tryz.underlying85 hwl i1_in (.int .i64 0)
 unfold isVal at hrun3
 have hm23 : Mod (· = b.wt) w2 w3 := (Mod.refl (· = b.wt) w2).drew.trans hm3
 have hr3 := zH (hr2.set_wt hm23 (Off.one hr2.lies (by simp [RpB.all])) hwt3)
 have hwtl : b.wt < w.heap.size := (h.out.lies (b.wt, 6) (by simp [RpB.all])).1
 have hbm3 := zH (hbm2.mod hm23 (fun e => by have e2 : w.heap.size = b.wt := e; omega))
 have hM3 := zH ((hM2.out.any (own col k)).trans (hm23.mono (fun j hj => own_one h.out.lies (c := 6) (by simp [RpB.all]) j hj)))
 have q7 : w2.cell? ⟨b.q, 7, none⟩ = some (.map (some b.wt)) := hr2.q.cell_ rfl
 have lq2 := hr2.q.lt
 have lm2 := hbm2.lt
 have m3 : w2.cell? ⟨w.heap.size, 3, none⟩ = some (.int .i64 i1.r) := hbm2.cell_ rfl
 have m4 : w2.cell? ⟨w.heap.size, 4, none⟩ = some (.int .i64 i1.n) := hbm2.cell_ rfl
 have hs3' : w2.heap.size ≤ w3.heap.size := hm23.size
 clear hm3 hm23 hs3 hwt3
 replace hr2 := zH hr2
 replace hbm2 := zH hbm2
 go_upto_region 3 with fail
 refine wp_region_still_tail 6 (by kernel_rfl) (by kernel_rfl) ?_
 simp only [List.take_succ_cons, List.take_zero, List.drop_succ_cons, List.drop_zero]
 change wpStill _ _ (World.drew _) _ _ _
 repeat still_step
 refine wpStill_nil ?_
 change wpList _ _ _ _ _ (World.drew _)
 go_upto_region 4 with fail
 clear q7 lq2 lm2 m3 m4 hrun3
 obtain ⟨⟨yi, yb, ys, yy, ye⟩, yL, yD⟩ := y
 have hyb' : yb = 0 := hyb.out
 subst hyb'
 have hzs := zH (Blk.new w3.drew 55 #[.int .i64 0, .int .i64 0, .int .i64 0, .int .i64 0, .int .i64 0, .int .i64 0, .string ⟨#[]⟩, .string ⟨#[]⟩, .int .i64 0, .slice none 0 0, .int .i64 0, .int .i64 0, .string ⟨#[]⟩, .bool false, .slice none 0 0])
 have hma := zH ((Mod.refl none_ w3).drew.alloc (.cells #[.int .i64 0, .int .i64 0, .int .i64 0, .int .i64 0, .int .i64 0, .int .i64 0, .string ⟨#[]⟩, .string ⟨#[]⟩, .int .i64 0, .slice none 0 0, .int .i64 0, .int .i64 0, .string ⟨#[]⟩, .bool false, .slice none 0 0] 55))
 refine wp_region_held_drew (S := fun W => Mod none_ w3 W) (by kernel_rfl) (Mod.refl none_ w3).drew (fun hHeld => ?_)
 refine tkZ 0 ?_ rfl ?_ ?_
 rotate_left
 ·intro W hSw; (try dsimp only at hSw); go_simp; (try with_reducible rfl)
 try simp only [Act.put, q1Z, q2Z, q3Z, q4Z, q5Z, q6Z]
 refine tkZ 1 ?_ rfl ?_ ?_
 rotate_left
 ·intro W hSw; (try dsimp only at hSw); go_simp; (try with_reducible rfl)
 try simp only [Act.put, q1Z, q2Z, q3Z, q4Z, q5Z, q6Z]
 refine tkZ 2 ?_ rfl ?_ ?_
 rotate_left
 ·intro W hSw; (try dsimp only at hSw); go_simp; (try with_reducible rfl)
 try simp only [Act.put, q1Z, q2Z, q3Z, q4Z, q5Z, q6Z]
 refine tkZ 3 ?_ rfl ?_ ?_
 rotate_left
 ·intro W hSw; have c3 : W.cell? ⟨b.q, 3, none⟩ = some (.map (some b.sl)) := (hr3.out.q.mod hSw (fun h => h)).cell_ rfl; go_simp; (try with_reducible rfl)
 try simp only [Act.put, q1Z, q2Z, q3Z, q4Z, q5Z, q6Z]
 refine tkZ 4 ?_ rfl ?_ ?_
 rotate_left
 ·intro W hSw; (try dsimp only at hSw); go_simp; (try with_reducible rfl)
 try simp only [Act.put, q1Z, q2Z, q3Z, q4Z, q5Z, q6Z]
 refine wpAnyH_take (i := 5) rfl (by kernel_rfl) (by kernel_rfl) (by kernel_rfl) (fun _ _ _ h => h) (yieldsIf_load_mid (by rfl) 27 (.tmp 33) rfl w.heap.size 3 rfl [.int .i64 i1.r, .int .i64 i1.n] _ (fun W hW => Blk.range (hbm3.out.mod hW (fun h => h)) 3 _ rfl) Tryz.underlying27 rfl inst_size) (by assumption) ?_
 try simp only [Act.put, q1Z, q2Z, q3Z, q4Z, q5Z, q6Z]
 refine tkZ 6 ?_ rfl ?_ ?_
 rotate_left
 ·intro W hSw; have lk := (hr3.out.sl.mod hSw (fun h => h)).get_run (t := 82) Tryz.underlying82 (zeroSl_run _) i1_in; dsimp only at lk; rw [hget.out] at lk; unfold slV isVal at lk; go_simp; (try with_reducible rfl)
 try simp only [Act.put, q1Z, q2Z, q3Z, q4Z, q5Z, q6Z]
 refine rdZ 7 rfl (fun K hK => ?_)
 go_simp
 refine hK.out _ _ (hma.out) (fun hHeld => ?_)
 clear hK K
 try simp only [Act.put, q1Z, q2Z, q3Z, q4Z, q5Z, q6Z]
 refine rdZ 8 rfl (fun K hK => ?_)
 refine step_store_blk rfl 55 (.tmp 6) (.tmp 35) rfl w3.heap.size 0 _ rfl rfl hzs.out (by simp) slot_size (by rfl) #[.int .i64 0, .int .i64 ys, .int .i64 yy, .int .i64 ye.o.c, .int .i64 ye.o.s, .int .i64 ye.o.k, .string (txt ye.o.acct), .string (txt ye.o.peer), .int .i64 ye.o.sum, .slice yL.a yL.n yL.c, .int .i64 ye.o.per, .int .i64 ye.o.hold, .string (txt ye.o.note), .bool ye.none, .slice yD.a yD.n yD.c] rfl ?_
 intro w4 hb4 hm4
 have hm4' := hma.out.in_new (g := w3.heap.size) (Nat.le_refl _) hm4
 refine hK.out _ _ (hm4') (fun hHeld => ?_)
 clear hK K
 try simp only [Act.put, q1Z, q2Z, q3Z, q4Z, q5Z, q6Z]
 refine wpAnyH_done (by kernel_rfl) ?_ _
 clear hHeld hzs hma hm4
 have hr4 := zH (hr3.out.mod0 hm4')
 have hM4 := zH (hM3.out.trans (hm4'.any _))
 have hbm4 := hbm3.out.mod hm4' (fun h => h)
 have s0 : w4.cell? ⟨w3.heap.size, 0, none⟩ = some (.int .i64 0) := hb4.cell_ rfl
 have s1 : w4.cell? ⟨w3.heap.size, 1, none⟩ = some (.int .i64 ys) := hb4.cell_ rfl
 have m2 : w4.cell? ⟨w.heap.size, 2, none⟩ = some (.int .i64 9) := hbm4.cell_ rfl
 have m5 : w4.cell? ⟨w.heap.size, 5, none⟩ = some (.int .i64 0) := hbm4.cell_ rfl
 have lb4 := hb4.lt
 have lm4 := hbm4.lt
 skip
 clear hm4' hr3 hbm3
 replace hbm4 := zH hbm4
 replace hb4 := zH hb4
 go_upto_region 11 with fail
 have hno : Hid (¬ owns col k w.heap.size) := zH (by
  intro hh
  have e1 := hcn.out w.heap.size (Nat.le_refl _)
  rcases hh with hh | hh <;> rw [e1] at hh <;> simp at hh <;> omega)
 refine wp_region_held_drew (S := fun W => Mod (owns col k) w4 W) (by kernel_rfl) (Mod.refl (owns col k) w4).drew (fun hHeld => ?_)
 refine tkZ 0 ?_ rfl ?_ ?_
 rotate_left
 ·intro W hSw; (try dsimp only at hSw); go_simp; (try with_reducible rfl)
 try simp only [Act.put, q1Z, q2Z, q3Z, q4Z, q5Z, q6Z]
 refine tkZ 2 ?_ rfl ?_ ?_
 rotate_left
 ·intro W hSw; (try dsimp only at hSw); go_simp; (try with_reducible rfl)
 try simp only [Act.put, q1Z, q2Z, q3Z, q4Z, q5Z, q6Z]
 refine tkZ 3 ?_ rfl ?_ ?_
 rotate_left
 ·intro W hSw; have c2 : W.cell? ⟨w.heap.size, 2, none⟩ = some (.int .i64 9) := (hbm4.out.mod hSw hno.out).cell_ rfl; go_simp; (try with_reducible rfl)
 try simp only [Act.put, q1Z, q2Z, q3Z, q4Z, q5Z, q6Z]
 refine tkZ 5 ?_ rfl ?_ ?_
 rotate_left
 ·intro W hSw; (try dsimp only at hSw); go_simp; (try with_reducible rfl)
 try simp only [Act.put, q1Z, q2Z, q3Z, q4Z, q5Z, q6Z]
 refine wpAnyH_take (i := 6) rfl (by kernel_rfl) (by kernel_rfl) (by kernel_rfl) (fun _ _ _ h => h) (yieldsIf_load_mid (by rfl) 66 (.tmp 3) rfl w.heap.size 0 rfl [.int .i64 frm, .int .i64 me, .int .i64 9, .int .i64 i1.r, .int .i64 i1.n, .int .i64 0, .int .i64 0, .int .i64 0, .int .i64 en0.o.c, .int .i64 en0.o.s, .int .i64 en0.o.k, .string (txt en0.o.acct), .string (txt en0.o.peer), .int .i64 en0.o.sum, .slice L0.a L0.n L0.c, .int .i64 en0.o.per, .int .i64 en0.o.hold, .string (txt en0.o.note), .bool en0.none, .slice L0.a L0.n L0.c] _ (fun W hW => Blk.range (hbm4.out.mod hW hno.out) 0 _ rfl) Tryz.underlying66 rfl msg_size) (by assumption) ?_
 try simp only [Act.put, q1Z, q2Z, q3Z, q4Z, q5Z, q6Z]
 refine rdZ 1 rfl (fun K hK => ?_)
 go_simp
 refine (takers_ok _).mono ?_
 rintro e w5 ⟨bt5, rfl, hbt5, hm5⟩
 dsimp only
 have hm5' := (Mod.refl none_ w4).drew.trans hm5
 refine hK.out _ _ ((hm5'.any _)) (fun hHeld => ?_)
 clear hK K
 try simp only [Act.put, q1Z, q2Z, q3Z, q4Z, q5Z, q6Z]
 have lk5 := takers_look hbt5 (k := 9) (by decide) (v := .func (.func 194) #[] #[]) (by rfl)
 refine rdZ 4 rfl (fun K hK => ?_)
 go_simp
 refine hK.out _ _ ((hm5'.any _)) (fun hHeld => ?_)
 clear hK K
 try simp only [Act.put, q1Z, q2Z, q3Z, q4Z, q5Z, q6Z]
 refine rdZ 7 rfl (fun K hK => ?_)
 go_simp
 refine (hH.out w5 (hr4.out.mod0 hm5') (hM4.out.trans (hm5'.any _))).mono ?_
 rintro e w6 ⟨A6, n6, c6, X6, col6, rfl, hr6, hR6, hx6, hm6⟩
 dsimp only
 have hm6' := (hm5'.any (owns col k)).trans hm6
 refine hK.out _ _ (hm6') (fun hHeld => ?_)
 clear hK K
 try simp only [Act.put, q1Z, q2Z, q3Z, q4Z, q5Z, q6Z]
 refine tkZ 8 ?_ rfl ?_ ?_
 rotate_left
 ·intro W hSw; (try dsimp only at hSw); go_simp; (try with_reducible rfl)
 try simp only [Act.put, q1Z, q2Z, q3Z, q4Z, q5Z, q6Z]
 refine tkZ 9 ?_ rfl ?_ ?_
 rotate_left
 ·intro W hSw; (try dsimp only at hSw); go_simp; (try with_reducible rfl)
 try simp only [Act.put, q1Z, q2Z, q3Z, q4Z, q5Z, q6Z]
 refine rdZ 10 rfl (fun K hK => ?_)
 go_simp
 refine (anew0_ok w6 col6 k b me 3 X6 hr6 A6 n6 c6).mono ?_
 rintro e w7 ⟨rfl, hr7, hm7⟩
 dsimp only
 have hm7' : Mod (owns col k) w4 w7 := hm6'.trans (hm7.mono (fun j hj => own_owns (own_one h.out.lies (c := 0) (by simp [RpB.all]) j hj)))
 refine hK.out _ _ (hm7') (fun hHeld => ?_)
 clear hK K
 try simp only [Act.put, q1Z, q2Z, q3Z, q4Z, q5Z, q6Z]
 refine tkZ 11 ?_ rfl ?_ ?_
 rotate_left
 ·intro W hSw; (try dsimp only at hSw); go_simp; (try with_reducible rfl)
 try simp only [Act.put, q1Z, q2Z, q3Z, q4Z, q5Z, q6Z]
 refine tkZ 12 ?_ rfl ?_ ?_
 rotate_left
 ·intro W hSw; (try dsimp only at hSw); go_simp; (try with_reducible rfl)
 try simp only [Act.put, q1Z, q2Z, q3Z, q4Z, q5Z, q6Z]
 refine rdZ 13 rfl (fun K hK => ?_)
 go_simp
 refine hK.out _ _ (hm7') (fun hHeld => ?_)
 clear hK K
 try simp only [Act.put, q1Z, q2Z, q3Z, q4Z, q5Z, q6Z]
 refine rdZ 14 rfl (fun K hK => ?_)
 go_simp
 refine hK.out _ _ (hm7') (fun hHeld => ?_)
 clear hK K
 try simp only [Act.put, q1Z, q2Z, q3Z, q4Z, q5Z, q6Z]
 refine wpAnyH_done (by kernel_rfl) ?_ _
 clear hHeld
 have hR7 := zH (hR.out _ _ _ _ _ _ _ hr6 hR6 hm7)
 have hX7 := zH (show Ext w col col6 from fun j hj => hx6 j (Nat.lt_of_lt_of_le (Nat.lt_of_lt_of_le hj hM4.out.size) hm5'.size))
 have hM7 := zH ((hM4.out.mono (fun j hj => own_owns hj)).trans hm7')
 clear hm5 hm5' hm6 hm6' hm7 hm7' hx6 hR6 lk5 hbt5
 replace hr7 := zH hr7
 replace hr6 := zH hr6
 go_wp2_with fail
 go_ret2
 exact ⟨A6, n6, c6, X6, col6, rfl, hr7.out, hR7.out, hX7.out, hM7.out⟩
def RM (P : List Ms → RpS → Col → World → Prop) (A : Option Addr) (m c : Nat) (X' : RpS) (col' : Col) (W : World) : Prop := ∃ l, OwM W A m c l ∧ m ≤ 2 ∧ P l X' col' W
theorem tk_of {W : World} {c1 : Col} {i : Nat} {bi : RpB} {P : List Ms → RpS → Col → World → Prop} {e : Ending} {w' : World}
  (h : ∃ A m c X' col', e = .returned (.tuple #[.slice A m c, .int .i64 0]) ∧ RpM w' col' i bi (i : Int) 3 X' ∧ RM P A m c X' col' w' ∧ Ext W c1 col' ∧ Mod (owns c1 i) W w') : TkPost W c1 i bi P e w' := by
 obtain ⟨A, m, c, X', col', he, hr, ⟨l, ho, hm, hP⟩, hx, hM⟩ := h
 exact ⟨A, m, c, l, X', col', he, Ow.rd ho, hm, hr, hP, hx, hM⟩
theorem RM.stay {P : List Ms → RpS → Col → World → Prop} (hPs : ∀ l X, Still (P l X)) {k : Nat} (hk : k < 49) {b : RpB} {me : Int} (A : Option Addr) (m c : Nat) (X' : RpS) (col' : Col) (W W' : World) (h : RpM W col' k b me 3 X') (hR : RM P A m c X' col' W) (hm : Mod (· = b.q) W W') : RM P A m c X' col' W' := by
 obtain ⟨l, ho, hm2, hP⟩ := hR
 refine ⟨l, Ow.mod ho hm (fun q hq hh => Ow.ne_blk ho h.q (by decide) (by have e2 : q = b.q := hh; rwa [e2] at hq)), hm2, hPs l X' col' W col' W' _ hP (Ext.refl _ _) hm (fun j _ hh => ?_)⟩
 have e2 : j = b.q := hh
 rw [e2, (h.lies (b.q, 0) (by simp [RpB.all])).2]
 show k ≠ 51
 omega
def WtOk (X : RpS) : Prop := X.Wt = [] ∨ X.Wt = [(i1, .int .i64 0)]
theorem WtOk.put {X : RpS} (h : WtOk X) : putI' i1 (.int .i64 0) X.Wt = [(i1, .int .i64 0)] := by
 rcases h with h | h <;> rw [h] <;> rfl
theorem WtOk.len {X : RpS} (h : WtOk X) : X.Wt.length + 1 < maxLen := by
 rcases h with h | h <;> rw [h] <;> decide
theorem findI_one (i : Is) (v z : Value) : (findI [(i, v)] i).getD z = v := by
 unfold findI; simp
theorem Still.and {G H : Col → World → Prop} (hG : Still G) (hH : Still H) : Still (fun c w => G c w ∧ H c w) :=
 fun c w1 c' w2 F h he hm hf => ⟨hG c w1 c' w2 F h.1 he hm hf, hH c w1 c' w2 F h.2 he hm hf⟩
theorem Still.const (p : Prop) : Still (fun _ _ => p) := fun _ _ _ _ _ h _ _ _ => h
theorem Still.ex {α : Type} {G : α → Col → World → Prop} (h : ∀ a, Still (G a)) : Still (fun c w => ∃ a, G a c w) :=
 fun c w1 c' w2 F ⟨a, ha⟩ he hm hf => ⟨a, h a c w1 c' w2 F ha he hm hf⟩
def Dlv (w : World) (nb : Nat) (Q : World → Prop) : Prop :=
 Calls Tryz.prog 37 #[.pointer (some ⟨nb, 0, none⟩), .int .i64 0, .bool false] w fun e w' => e = .returned (.tuple #[]) ∧ Q w'
theorem preStep (w : World) (col : Col) (nb : Nat) (RA DA : Option Addr) (rc dc : Nat) (MA : Option Addr) (mn mc : Nat) (i : Nat) (D : SV) (ms : List Ms) (b : Nat → RpB) (X : Nat → RpS)
  (h : NetS w col nb RA DA rc dc MA (mn + 1) mc (ms1 1 (i : Int) 1 0 D :: ms) b X) (hmn : mn ≤ 10) (hi : i = 0 ∨ i = 2) (hD : D.n = 0) (hB : Blank (X i)) (hW : WtOk (X i)) (G : Col → World → Prop) (hG : G col w) (hGs : Still G) :
  Dlv w nb fun w' => ∃ MA' mn' mc' D' X' c', D'.n = 0 ∧ NetS w' c' nb RA DA rc dc MA' mn' mc' (ms ++ [ms1 (i : Int) 1 2 1 D']) b (setF X i X') ∧ Heard X' D' ∧ WtOk X' ∧ G c' w' ∧ Ext w col c' ∧ Mod (fun j => (col j).1 < 55) w w' := by
 have hi3 : i < 3 := by omega
 have hi1 : (1 : Int) ≠ (i : Int) := by omega
 obtain ⟨P, hP⟩ : ∃ P : List Ms → RpS → Col → World → Prop, P = fun l X' c W => (∃ D', D'.n = 0 ∧ l = [ms1 (i : Int) 1 2 1 D'] ∧ Heard X' D' ∧ WtOk X') ∧ G c W := ⟨_, rfl⟩
 have hPs : ∀ l X, Still (P l X) := by rw [hP]; exact fun l X => (Still.const _).and hGs
 refine (deliver_ok w col nb RA DA rc dc MA mn mc _ ms b X h hmn i hi3 rfl G hG hGs P hPs ?_).mono ?_
 ·intro W c1 hr hGW hcn
  refine (takeP_ok W c1 i (b i) (i : Int) 1 (X i) hr (by omega) (by omega) hi1 D hD (slZ i1) (by rw [hB.S]; rfl) rfl (by decide) hW.len hcn (by omega) (RM P) ?_ (fun A m c X' col' W W' => RM.stay hPs (by omega) A m c X' col' W W')).mono (fun e w' hh => tk_of hh)
  intro W2 hr2 hm2
  refine (pre_ok W2 c1 i (b i) (i : Int) _ hr2 D hD ⟨hB.S, hB.Ld, hB.Tl, hB.K, hB.D, hB.T, hB.C, hB.ln, hB.lv, hB.l⟩ (by omega) (fun j hj => hcn j (Nat.le_trans hm2.size hj))).mono ?_
  rintro e w' ⟨A, c, D', X', col', he, hD', ho, hr', hH, _, _, hwt, hx, hm⟩
  refine ⟨A, 1, c, X', col', he, hr', ⟨_, ho, by omega, ?_⟩, hx, hm.mono (fun j hj => own_owns hj)⟩
  rw [hP]
  refine ⟨⟨D', hD', rfl, hH, .inr (by rw [hwt]; exact hW.put)⟩, ?_⟩
  have hG2 := hGs c1 W c1 W2 _ hGW (Ext.refl _ _) hm2 (fun j _ hh => by unfold own at hh; omega)
  exact hGs c1 W2 col' w' _ hG2 hx hm (fun j _ hh => by unfold own at hh; omega)
 ·rintro e w' ⟨he, MA', mn', mc', l, X', c', hN, hPl, hx, hm⟩
  rw [hP] at hPl
  obtain ⟨⟨D', hD', rfl, hH, hW'⟩, hG'⟩ := hPl
  exact ⟨he, MA', mn', mc', D', X', c', hD', hN, hH, hW', hG', hx, hm⟩
theorem comStep (w : World) (col : Col) (nb : Nat) (RA DA : Option Addr) (rc dc : Nat) (MA : Option Addr) (mn mc : Nat) (i : Nat) (D D0 : SV) (ms : List Ms) (b : Nat → RpB) (X : Nat → RpS)
  (h : NetS w col nb RA DA rc dc MA (mn + 1) mc (ms1 1 (i : Int) 5 0 D :: ms) b X) (hmn : mn ≤ 10) (hi : i = 0 ∨ i = 2) (hD : D.n = 0) (h0 : D0.n = 0) (hB : Heard (X i) D0) (hW : WtOk (X i)) (G : Col → World → Prop) (hG : G col w) (hGs : Still G) :
  Dlv w nb fun w' => ∃ MA' mn' mc' X' c', NetS w' c' nb RA DA rc dc MA' mn' mc' (ms ++ [msG (i : Int) 1]) b (setF X i X') ∧ (X'.S = [(i1, slV (sl1 3 D))] ∧ X'.ln = 1 ∧ (∀ u ∈ X'.lv, u.oneCell' = true)) ∧ WtOk X' ∧ G c' w' ∧ Ext w col c' ∧ Mod (fun j => (col j).1 < 55) w w' := by
 have hi3 : i < 3 := by omega
 have hi1 : (1 : Int) ≠ (i : Int) := by omega
 obtain ⟨P, hP⟩ : ∃ P : List Ms → RpS → Col → World → Prop, P = fun l X' c W => (l = [msG (i : Int) 1] ∧ (X'.S = [(i1, slV (sl1 3 D))] ∧ X'.ln = 1 ∧ (∀ u ∈ X'.lv, u.oneCell' = true)) ∧ WtOk X') ∧ G c W := ⟨_, rfl⟩
 have hPs : ∀ l X, Still (P l X) := by rw [hP]; exact fun l X => (Still.const _).and hGs
 refine (deliver_ok w col nb RA DA rc dc MA mn mc _ ms b X h hmn i hi3 rfl G hG hGs P hPs ?_).mono ?_
 ·intro W c1 hr hGW hcn
  refine (takeC_ok W c1 i (b i) (i : Int) 1 (X i) hr (by omega) (by omega) hi1 D hD (sl1 1 D0) (by rw [hB.S]; exact findI_one _ _ _) rfl hW.len hcn (by omega) (RM P) ?_ (fun A m c X' col' W W' => RM.stay hPs (by omega) A m c X' col' W W')).mono (fun e w' hh => tk_of hh)
  intro W2 hr2 hm2
  refine (commitR_ok W2 c1 i (b i) (i : Int) _ hr2 D0 D h0 hD ⟨hB.S, hB.K, hB.D, hB.T, hB.C, hB.ln, hB.lv, hB.l⟩ hi1 (by omega) (fun j hj => hcn j (Nat.le_trans hm2.size hj))).mono ?_
  rintro e w' ⟨A, c, X', col', he, ho, hr', hS, _, hx, hm⟩
  refine ⟨A, 1, c, X', col', he, hr', ⟨_, ho, by omega, ?_⟩, hx, hm.mono (fun j hj => own_owns hj)⟩
  rw [hP]
  refine ⟨⟨rfl, ⟨hS.S, hS.ln, hS.one⟩, .inr (by rw [hS.Wt]; exact hW.put)⟩, ?_⟩
  have hG2 := hGs c1 W c1 W2 _ hGW (Ext.refl _ _) hm2 (fun j _ hh => by unfold own at hh; omega)
  exact hGs c1 W2 col' w' _ hG2 hx hm (fun j _ hh => by unfold own at hh; omega)
 ·rintro e w' ⟨he, MA', mn', mc', l, X', c', hN, hPl, hx, hm⟩
  rw [hP] at hPl
  obtain ⟨⟨rfl, hS, hW'⟩, hG'⟩ := hPl
  exact ⟨he, MA', mn', mc', X', c', hN, hS, hW', hG', hx, hm⟩
theorem Lead.still (p hm : Nat) (D : SV) (H : List IntV) : Still (fun c w => Lead w c p hm D H) := by
 intro c w1 c' w2 F h he hmm hf
 have lp := h.ld.blk.lt
 have lh := h.hd.lt
 exact ⟨⟨h.ld.blk.mod hmm (fun hh => hf p lp hh (by rw [h.cp]))⟩, h.hd.mod hmm (fun hh => hf hm lh hh (by rw [h.ch])), (he p lp).trans h.cp, (he hm lh).trans h.ch⟩
structure Tld (w : World) (col : Col) (g : Nat) (L : List IntV) : Prop where
 m : MapN w g L
 c : col g = (51, 20)
theorem Tld.still (g : Nat) (L : List IntV) : Still (fun c w => Tld w c g L) := by
 intro c w1 c' w2 F h he hmm hf
 have lg := h.m.lt
 exact ⟨h.m.mod hmm (fun hh => hf g lg hh (by rw [h.c])), (he g lg).trans h.c⟩
structure LeadX (X : RpS) (p : Nat) (D : SV) : Prop where
 hd : Heard X D
 tl : X.Tl = []
 ld : X.Ld = [(i1, .pointer (some ⟨p, 0, none⟩))]
theorem LeadX.wt {X : RpS} {p : Nat} {D : SV} (h : LeadX X p D) (L : List InstV) : LeadX { X with Wt := L } p D := ⟨⟨h.hd.S, h.hd.K, h.hd.D, h.hd.T, h.hd.C, h.hd.ln, h.hd.lv, h.hd.l⟩, h.tl, h.ld⟩
def sv (D : SV) : Value := .slice D.a D.n D.c
theorem ok2Step (w : World) (col : Col) (nb : Nat) (RA DA : Option Addr) (rc dc : Nat) (MA : Option Addr) (mn mc : Nat) (p hm : Nat) (D D0 : SV) (ms : List Ms) (b : Nat → RpB) (X : Nat → RpS)
  (h : NetS w col nb RA DA rc dc MA (mn + 1) mc (ms1 0 1 2 1 D0 :: ms) b X) (hmn : mn ≤ 10) (hD : D.n = 0) (h0 : D0.n = 0) (hB : LeadX (X 1) p D) (hW : WtOk (X 1)) (hL : Lead w col p hm D [(1, sv D)]) :
  Dlv w nb fun w' => ∃ MA' mn' mc' X' c', NetS w' c' nb RA DA rc dc MA' mn' mc' (ms ++ []) b (setF X 1 X') ∧ LeadX X' p D ∧ WtOk X' ∧ Lead w' c' p hm D [(0, sv D0), (1, sv D)] ∧ Ext w col c' ∧ Mod (fun j => (col j).1 < 55) w w' := by
 obtain ⟨P, hP⟩ : ∃ P : List Ms → RpS → Col → World → Prop, P = fun l X' c W => (l = [] ∧ LeadX X' p D ∧ WtOk X') ∧ Lead W c p hm D [(0, sv D0), (1, sv D)] := ⟨_, rfl⟩
 have hPs : ∀ l X, Still (P l X) := by rw [hP]; exact fun l X => (Still.const _).and (Lead.still _ _ _ _)
 refine (deliver_ok w col nb RA DA rc dc MA mn mc _ ms b X h hmn 1 (by omega) rfl _ hL (Lead.still p hm D _) P hPs ?_).mono ?_
 ·intro W c1 hr hGW hcn
  refine (takeO_ok W c1 1 (b 1) 1 0 (X 1) hr (by omega) (by omega) (by decide) D0 h0 (sl1 1 D) (by rw [hB.hd.S]; exact findI_one _ _ _) rfl hW.len hcn (by omega) (RM P) ?_ (fun A m c X' col' W W' => RM.stay hPs (by omega) A m c X' col' W W')).mono (fun e w' hh => tk_of hh)
  intro W2 hr2 hm2
  have hG2 := Lead.still p hm D _ c1 W c1 W2 _ hGW (Ext.refl _ _) hm2 (fun j _ hh => by unfold own at hh; omega)
  refine (preOK2_ok W2 c1 1 (b 1) _ hr2 D D D0 0 hD p hm hG2.ld hB.ld [(1, sv D)] hG2.hd rfl (fun v hv => by rw [List.mem_singleton.1 hv]; exact ⟨D.a, D.c, by unfold sv; rw [hD]⟩) (by show 2 < maxLen; decide) (by decide) h0 hG2.ch).mono ?_
  rintro e w' ⟨he, hM, hmd⟩
  refine ⟨none, 0, 0, _, c1, he, hr2.far hmd (fun j hj hh c _ e => by have e2 : j = hm := hh; rw [e2, hG2.ch] at e; cases e), ⟨[], Ow.nil _ _ _, by omega, ?_⟩, Ext.refl _ _, hmd.mono (fun j hj => by have e2 : j = hm := hj; rw [e2]; exact .inr (by rw [hG2.ch]))⟩
  rw [hP]
  refine ⟨⟨rfl, hB.wt _, .inr hW.put⟩, ⟨⟨hG2.ld.blk.mod hmd (fun e => by have e2 : p = hm := e; have := hG2.cp; rw [e2, hG2.ch] at this; cases this)⟩, hM, hG2.cp, hG2.ch⟩⟩
 ·rintro e w' ⟨he, MA', mn', mc', l, X', c', hN, hPl, hx, hmm⟩
  rw [hP] at hPl
  obtain ⟨⟨rfl, hS, hW'⟩, hG'⟩ := hPl
  exact ⟨he, MA', mn', mc', X', c', hN, hS, hW', hG', hx, hmm⟩
theorem ok3Step (w : World) (col : Col) (nb : Nat) (RA DA : Option Addr) (rc dc : Nat) (MA : Option Addr) (mn mc : Nat) (p hm : Nat) (D D0 D2 : SV) (ms : List Ms) (b : Nat → RpB) (X : Nat → RpS)
  (h : NetS w col nb RA DA rc dc MA (mn + 1) mc (ms1 2 1 2 1 D2 :: ms) b X) (hmn : mn ≤ 10) (hD : D.n = 0) (h0 : D0.n = 0) (h2 : D2.n = 0) (hB : LeadX (X 1) p D) (hW : WtOk (X 1)) (hL : Lead w col p hm D [(0, sv D0), (1, sv D)]) :
  Dlv w nb fun w' => ∃ MA' mn' mc' g X' c', NetS w' c' nb RA DA rc dc MA' mn' mc' (ms ++ [ms1 1 0 5 0 D, ms1 1 2 5 0 D]) b (setF X 1 X') ∧ X'.S = [(i1, slV (sl1 3 D))] ∧ X'.Tl = [(i1, .map (some g))] ∧ WtOk X' ∧ Tld w' c' g [] ∧ Ext w col c' ∧ Mod (fun j => (col j).1 < 55) w w' := by
 obtain ⟨P, hP⟩ : ∃ P : List Ms → RpS → Col → World → Prop, P = fun l X' c W => ∃ g, (l = [ms1 1 0 5 0 D, ms1 1 2 5 0 D] ∧ X'.S = [(i1, slV (sl1 3 D))] ∧ X'.Tl = [(i1, .map (some g))] ∧ WtOk X') ∧ Tld W c g [] := ⟨_, rfl⟩
 have hPs : ∀ l X, Still (P l X) := by rw [hP]; exact fun l X => Still.ex (fun g => (Still.const _).and (Tld.still _ _))
 refine (deliver_ok w col nb RA DA rc dc MA mn mc _ ms b X h hmn 1 (by omega) rfl _ hL (Lead.still p hm D _) P hPs ?_).mono ?_
 ·intro W c1 hr hGW hcn
  refine (takeO_ok W c1 1 (b 1) 1 2 (X 1) hr (by omega) (by omega) (by decide) D2 h2 (sl1 1 D) (by rw [hB.hd.S]; exact findI_one _ _ _) rfl hW.len hcn (by omega) (RM P) ?_ (fun A m c X' col' W W' => RM.stay hPs (by omega) A m c X' col' W W')).mono (fun e w' hh => tk_of hh)
  intro W2 hr2 hm2
  have hG2 := Lead.still p hm D _ c1 W c1 W2 _ hGW (Ext.refl _ _) hm2 (fun j _ hh => by unfold own at hh; omega)
  have hB2 := hB.wt (putI' i1 (.int .i64 0) (X 1).Wt)
  refine (preOK3_ok W2 c1 1 (b 1) _ hr2 D D D2 2 hD p hm hG2.ld hB.ld [(0, sv D0), (1, sv D)] hG2.hd rfl (fun v hv => by
   rcases List.mem_cons.1 hv with rfl | hv
   ·exact ⟨D0.a, D0.c, by unfold sv; rw [h0]⟩
   ·rw [List.mem_singleton.1 hv]; exact ⟨D.a, D.c, by unfold sv; rw [hD]⟩) (by show 3 < maxLen; decide) (by decide) h2 hB2.hd hD hB.tl (by omega) (fun j hj => hcn j (Nat.le_trans hm2.size hj)) hG2.cp hG2.ch).mono ?_
  rintro e w' ⟨A, c, g, X', col', he, ho, hr', hS, htl, hg, hcg, hx, hmd⟩
  refine ⟨A, 2, c, X', col', he, hr', ⟨_, ho, by omega, ?_⟩, hx, hmd⟩
  rw [hP]
  exact ⟨g, ⟨rfl, hS.S, htl, .inr (by rw [hS.Wt]; exact hW.put)⟩, hg, hcg⟩
 ·rintro e w' ⟨he, MA', mn', mc', l, X', c', hN, hPl, hx, hmm⟩
  rw [hP] at hPl
  obtain ⟨g, ⟨rfl, hS, htl, hW'⟩, hG'⟩ := hPl
  exact ⟨he, MA', mn', mc', g, X', c', hN, hS, htl, hW', hG', hx, hmm⟩
theorem got1Step (w : World) (col : Col) (nb : Nat) (RA DA : Option Addr) (rc dc : Nat) (MA : Option Addr) (mn mc : Nat) (g : Nat) (D : SV) (ms : List Ms) (b : Nat → RpB) (X : Nat → RpS)
  (h : NetS w col nb RA DA rc dc MA (mn + 1) mc (msG 0 1 :: ms) b X) (hmn : mn ≤ 10) (hS : (X 1).S = [(i1, slV (sl1 3 D))]) (htl : (X 1).Tl = [(i1, .map (some g))]) (hW : WtOk (X 1)) (hT : Tld w col g []) :
  Dlv w nb fun w' => ∃ MA' mn' mc' X' c', NetS w' c' nb RA DA rc dc MA' mn' mc' (ms ++ []) b (setF X 1 X') ∧ X'.S = [(i1, slV (sl1 3 D))] ∧ X'.Tl = [(i1, .map (some g))] ∧ WtOk X' ∧ Tld w' c' g [(0, .bool true)] ∧ Ext w col c' ∧ Mod (fun j => (col j).1 < 55) w w' := by
 obtain ⟨P, hP⟩ : ∃ P : List Ms → RpS → Col → World → Prop, P = fun l X' c W => (l = [] ∧ X'.S = [(i1, slV (sl1 3 D))] ∧ X'.Tl = [(i1, .map (some g))] ∧ WtOk X') ∧ Tld W c g [(0, .bool true)] := ⟨_, rfl⟩
 have hPs : ∀ l X, Still (P l X) := by rw [hP]; exact fun l X => (Still.const _).and (Tld.still _ _)
 refine (deliver_ok w col nb RA DA rc dc MA mn mc _ ms b X h hmn 1 (by omega) rfl _ hT (Tld.still g _) P hPs ?_).mono ?_
 ·intro W c1 hr hGW hcn
  refine (takeG_ok W c1 1 (b 1) 1 0 (X 1) hr (by omega) (by omega) (by decide) (sl1 3 D) (by rw [hS]; exact findI_one _ _ _) rfl hW.len hcn (by omega) (RM P) ?_ (fun A m c X' col' W W' => RM.stay hPs (by omega) A m c X' col' W W')).mono (fun e w' hh => tk_of hh)
  intro W2 hr2 hm2
  have hG2 := Tld.still g _ c1 W c1 W2 _ hGW (Ext.refl _ _) hm2 (fun j _ hh => by unfold own at hh; omega)
  refine (got1_ok W2 c1 1 (b 1) _ hr2 g htl [] hG2.m hG2.c 0 (by decide) rfl (by decide)).mono ?_
  rintro e w' ⟨he, hr', hM, hm⟩
  refine ⟨none, 0, 0, _, c1, he, hr', ⟨[], Ow.nil _ _ _, by omega, ?_⟩, Ext.refl _ _, hm⟩
  rw [hP]
  exact ⟨⟨rfl, hS, htl, .inr hW.put⟩, hM, hG2.c⟩
 ·rintro e w' ⟨he, MA', mn', mc', l, X', c', hN, hPl, hx, hmm⟩
  rw [hP] at hPl
  obtain ⟨⟨rfl, hS', htl', hW'⟩, hG'⟩ := hPl
  exact ⟨he, MA', mn', mc', X', c', hN, hS', htl', hW', hG', hx, hmm⟩
theorem got2Step (w : World) (col : Col) (nb : Nat) (RA DA : Option Addr) (rc dc : Nat) (MA : Option Addr) (mn mc : Nat) (g : Nat) (D : SV) (ms : List Ms) (b : Nat → RpB) (X : Nat → RpS)
  (h : NetS w col nb RA DA rc dc MA (mn + 1) mc (msG 2 1 :: ms) b X) (hmn : mn ≤ 10) (hS : (X 1).S = [(i1, slV (sl1 3 D))]) (htl : (X 1).Tl = [(i1, .map (some g))]) (hW : WtOk (X 1)) (hT : Tld w col g [(0, .bool true)]) :
  Dlv w nb fun w' => ∃ MA' mn' mc' X' c', NetS w' c' nb RA DA rc dc MA' mn' mc' (ms ++ []) b (setF X 1 X') ∧ Ext w col c' ∧ Mod (fun j => (col j).1 < 55) w w' := by
 obtain ⟨P, hP⟩ : ∃ P : List Ms → RpS → Col → World → Prop, P = fun l X' c W => l = [] := ⟨_, rfl⟩
 have hPs : ∀ l X, Still (P l X) := by rw [hP]; exact fun l X => Still.const _
 refine (deliver_ok w col nb RA DA rc dc MA mn mc _ ms b X h hmn 1 (by omega) rfl _ hT (Tld.still g _) P hPs ?_).mono ?_
 ·intro W c1 hr hGW hcn
  refine (takeG_ok W c1 1 (b 1) 1 2 (X 1) hr (by omega) (by omega) (by decide) (sl1 3 D) (by rw [hS]; exact findI_one _ _ _) rfl hW.len hcn (by omega) (RM P) ?_ (fun A m c X' col' W W' => RM.stay hPs (by omega) A m c X' col' W W')).mono (fun e w' hh => tk_of hh)
  intro W2 hr2 hm2
  have hG2 := Tld.still g _ c1 W c1 W2 _ hGW (Ext.refl _ _) hm2 (fun j _ hh => by unfold own at hh; omega)
  refine (got2_ok W2 c1 1 (b 1) _ hr2 g htl [(0, .bool true)] hG2.m hG2.c 2 (by decide) rfl (by decide)).mono ?_
  rintro e w' ⟨he, hr', hm⟩
  refine ⟨none, 0, 0, _, c1, he, hr', ⟨[], Ow.nil _ _ _, by omega, ?_⟩, Ext.refl _ _, hm⟩
  rw [hP]
 ·rintro e w' ⟨he, MA', mn', mc', l, X', c', hN, hPl, hx, hmm⟩
  rw [hP] at hPl
  subst hPl
  exact ⟨he, MA', mn', mc', X', c', hN, hx, hmm⟩
end Go.Proofs.YtfkfiokkjjnhiaaGreat
