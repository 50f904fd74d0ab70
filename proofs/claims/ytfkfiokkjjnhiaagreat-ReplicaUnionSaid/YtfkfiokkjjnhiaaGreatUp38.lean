import Derived.Test.YtfkfiokkjjnhiaaGreatUp33
import Derived.Test.YtfkfiokkjjnhiaaGreatUp37
set_option linter.unusedVariables false
set_option linter.unusedSimpArgs false
set_option maxHeartbeats 16000000
namespace Go.Proofs.YtfkfiokkjjnhiaaGreat
open Go.RowKit
set_option maxRecDepth 100000
theorem fitsC_ok (w : World) (q : Nat) (me frm : Int) (c0 : w.cell? ⟨q, 0, none⟩ = some (.int .i64 me)) (c1 : w.cell? ⟨q, 1, none⟩ = some (.int .i64 3)) (hf0 : 0 ≤ frm) (hf3 : frm < 3) (hfm : frm ≠ me) (Dm : SV) (hDm : Dm.n = 0) :
  Calls Tryz.prog 138 #[.pointer (some ⟨q, 0, none⟩), .agg #[.int .i64 frm, .int .i64 me, .int .i64 5, .int .i64 i1.r, .int .i64 i1.n, .int .i64 0, .int .i64 0, .int .i64 0, .int .i64 e1.o.c, .int .i64 e1.o.s, .int .i64 e1.o.k, .string (txt e1.o.acct), .string (txt e1.o.peer), .int .i64 e1.o.sum, .slice L0.a L0.n L0.c, .int .i64 e1.o.per, .int .i64 e1.o.hold, .string (txt e1.o.note), .bool e1.none, .slice Dm.a Dm.n Dm.c]] w fun e w' => e = .returned (.bool true) ∧ Mod none_ w w' := by
 have hlq := World.block_lt_of_cell? w _ c0
 dsimp only at hlq
 obtain ⟨w0, hw0⟩ : ∃ w0, w0 = (w.alloc (.cells #[.int .i64 frm, .int .i64 me, .int .i64 5, .int .i64 i1.r, .int .i64 i1.n, .int .i64 0, .int .i64 0, .int .i64 0, .int .i64 e1.o.c, .int .i64 e1.o.s, .int .i64 e1.o.k, .string (txt e1.o.acct), .string (txt e1.o.peer), .int .i64 e1.o.sum, .slice L0.a L0.n L0.c, .int .i64 e1.o.per, .int .i64 e1.o.hold, .string (txt e1.o.note), .bool e1.none, .slice Dm.a Dm.n Dm.c] 66)) := ⟨_, rfl⟩
 have hm0 : Mod none_ w w0 := by rw [hw0]; exact (Mod.refl none_ w).alloc _
 have hbm : Blk w0 w.heap.size 66 #[.int .i64 frm, .int .i64 me, .int .i64 5, .int .i64 i1.r, .int .i64 i1.n, .int .i64 0, .int .i64 0, .int .i64 0, .int .i64 e1.o.c, .int .i64 e1.o.s, .int .i64 e1.o.k, .string (txt e1.o.acct), .string (txt e1.o.peer), .int .i64 e1.o.sum, .slice L0.a L0.n L0.c, .int .i64 e1.o.per, .int .i64 e1.o.hold, .string (txt e1.o.note), .bool e1.none, .slice Dm.a Dm.n Dm.c] := by rw [hw0]; exact Blk.new w _ _
 have q0 : w0.cell? ⟨q, 0, none⟩ = some (.int .i64 me) := hm0.cell_some c0 (fun h => h)
 have q1 : w0.cell? ⟨q, 1, none⟩ = some (.int .i64 3) := hm0.cell_some c1 (fun h => h)
 have lq0 := World.block_lt_of_cell? w0 _ q0
 dsimp only at lq0
 have lm0 := hbm.lt
 have m0 : w0.cell? ⟨w.heap.size, 0, none⟩ = some (.int .i64 frm) := hbm.cell_ rfl
 have m1 : w0.cell? ⟨w.heap.size, 1, none⟩ = some (.int .i64 me) := hbm.cell_ rfl
 have m3 : w0.cell? ⟨w.heap.size, 3, none⟩ = some (.int .i64 i1.r) := hbm.cell_ rfl
 have g1 : decide (frm < 0) = false := by simpa using hf0
 have g1' : decide (0 ≤ frm) = true := by simpa using hf0
 have g2 : decide (3 ≤ frm) = false := by simpa using hf3
 have g2' : decide (frm < 3) = true := by simpa using hf3
 have g3 : (frm == me) = false := by simpa using hfm
 have g3' : decide (frm = me) = false := by simpa using hfm
 have g4 : decide (3 ≤ i1.r) = false := by decide
 have g4' : ¬ (3 ≤ i1.r) := by decide
 have g4'' : decide (i1.r < 3) = true := by decide
 have hrr : rightR ⟨i1, 0, 2, 0, e1⟩ = true := by decide +kernel
 have kR := zH (fun W => show Calls Tryz.prog 180 #[.agg #[.int .i64 i1.r, .int .i64 i1.n, .int .i64 0, .int .i64 2, .int .i64 0, .int .i64 e1.o.c, .int .i64 e1.o.s, .int .i64 e1.o.k, .string (txt e1.o.acct), .string (txt e1.o.peer), .int .i64 e1.o.sum, .slice L0.a L0.n L0.c, .int .i64 e1.o.per, .int .i64 e1.o.hold, .string (txt e1.o.note), .bool e1.none, .slice Dm.a Dm.n Dm.c]] W (fun e' w' => e' = .returned (.bool true) ∧ Mod none_ W w') from by
  have := rightR_ok W ⟨i1, 0, 2, 0, e1⟩ L0 Dm (e1_mem W hDm) (by show (0 : Nat) ≤ _; omega) (by rw [hDm]; omega) (by decide) (fun l hl => by cases hl)
  rw [hrr] at this
  exact this)
 clear hrr
 replace hm0 := zH hm0
 replace hbm := zH hbm
 replace hDm := zH hDm
 go_enter Tryz.func138, Tryz.ntmps138
 go_upto_region 1 with fail
 rw [← hw0]
 replace hw0 := zH hw0
 go_quiet (fail)
 go_upto_region 3 with fail
 obtain ⟨w1, hw1⟩ : ∃ w1, w1 = w0.drewN nq := ⟨_, rfl⟩
 rw [← hw1]
 have hm1 : Mod none_ w0 w1 := by rw [hw1]; exact (Mod.refl none_ w0).drewN _
 have hbm1 := hbm.out.mod hm1 (fun h => h)
 have hM1 := zH (hm0.out.trans hm1)
 have n2 : w1.cell? ⟨w.heap.size, 2, none⟩ = some (.int .i64 5) := hbm1.cell_ rfl
 have n4 : w1.cell? ⟨w.heap.size, 5, none⟩ = some (.int .i64 0) := hbm1.cell_ rfl
 have n5 : w1.cell? ⟨w.heap.size, 6, none⟩ = some (.int .i64 0) := hbm1.cell_ rfl
 have n6 : w1.cell? ⟨w.heap.size, 7, none⟩ = some (.int .i64 0) := hbm1.cell_ rfl
 have n18 : w1.cell? ⟨w.heap.size, 18, none⟩ = some (.bool false) := hbm1.cell_ rfl
 have lm1 := hbm1.lt
 have hz := zH (Blk.new w1 55 #[.int .i64 0, .int .i64 0, .int .i64 0, .int .i64 0, .int .i64 0, .int .i64 0, .string ⟨#[]⟩, .string ⟨#[]⟩, .int .i64 0, .slice none 0 0, .int .i64 0, .int .i64 0, .string ⟨#[]⟩, .bool false, .slice none 0 0])
 have hma := zH ((Mod.refl none_ w1).alloc (.cells #[.int .i64 0, .int .i64 0, .int .i64 0, .int .i64 0, .int .i64 0, .int .i64 0, .string ⟨#[]⟩, .string ⟨#[]⟩, .int .i64 0, .slice none 0 0, .int .i64 0, .int .i64 0, .string ⟨#[]⟩, .bool false, .slice none 0 0] 55))
 clear hm1 q0 q1 lq0 m0 m1 m3
 replace hw1 := zH hw1
 replace hbm1 := zH hbm1
 go_upto_region 4 with (first
  | (refine wpList_load_blk rfl 53 (.tmp 53) rfl w.heap.size 8 rfl (hbm1.out) [.int .i64 e1.o.c, .int .i64 e1.o.s, .int .i64 e1.o.k, .string (txt e1.o.acct), .string (txt e1.o.peer), .int .i64 e1.o.sum, .slice L0.a L0.n L0.c, .int .i64 e1.o.per, .int .i64 e1.o.hold, .string (txt e1.o.note), .bool e1.none, .slice Dm.a Dm.n Dm.c] rfl Tryz.underlying53 rfl entry_size ?_)
  | (refine wpList_store_blk rfl 55 (.tmp 5) (.tmp 55) rfl w1.heap.size 0 _ rfl rfl hz.out (by simp) slot_size (by rfl) #[.int .i64 0, .int .i64 0, .int .i64 0, .int .i64 e1.o.c, .int .i64 e1.o.s, .int .i64 e1.o.k, .string (txt e1.o.acct), .string (txt e1.o.peer), .int .i64 e1.o.sum, .slice L0.a L0.n L0.c, .int .i64 e1.o.per, .int .i64 e1.o.hold, .string (txt e1.o.note), .bool e1.none, .slice Dm.a Dm.n Dm.c] rfl ?_; intro w2 hb2 hm2; go_frame))
 have hm2' := hma.out.any (only w1.heap.size) |>.trans hm2
 clear hm2
 have hM2 := zH (hM1.out.then hm2' (fun j hj e => by have e2 : j = w1.heap.size := e; have := hM1.out.size; omega))
 have hbm2 := hbm1.out.mod hm2' (fun e => by have e2 : w.heap.size = w1.heap.size := e; omega)
 clear hm2' n2 n4 n5 n6 n18 hma hz
 have y2 : w2.cell? ⟨w.heap.size, 2, none⟩ = some (.int .i64 5) := hbm2.cell_ rfl
 have y3 : w2.cell? ⟨w.heap.size, 3, none⟩ = some (.int .i64 i1.r) := hbm2.cell_ rfl
 have y4 : w2.cell? ⟨w.heap.size, 4, none⟩ = some (.int .i64 i1.n) := hbm2.cell_ rfl
 have y5 : w2.cell? ⟨w.heap.size, 5, none⟩ = some (.int .i64 0) := hbm2.cell_ rfl
 have y18 : w2.cell? ⟨w.heap.size, 18, none⟩ = some (.bool false) := hbm2.cell_ rfl
 have ly := hbm2.lt
 have lb2 := hb2.lt
 have hs2 : Hid (w.heap.size < w1.heap.size) := zH lm1
 have f1 := hb2.frozen 1
 have e1_ := hb2.cell_ (i := 1) rfl
 have hb3 := hb2.set_ 1 (.int .i64 2)
 simp only [List.setIfInBounds_toArray, List.set_cons_succ, List.set_cons_zero] at hb3
 obtain ⟨w3, hw3⟩ : ∃ w3, w3 = (w2.setCell ⟨w1.heap.size, 1, none⟩ (.int .i64 2)) := ⟨_, rfl⟩
 have hm23 : Mod (only w1.heap.size) w2 w3 := by rw [hw3]; exact Mod.setCell (Mod.refl (only w1.heap.size) w2) (p := ⟨w1.heap.size, 1, none⟩) (.inl rfl) _
 rw [← hw3] at hb3
 have lb3 := hb3.lt
 have f2 := hb3.frozen 2
 have e2_ := hb3.cell_ (i := 2) rfl
 have hb4 := hb3.set_ 2 (.int .i64 0)
 simp only [List.setIfInBounds_toArray, List.set_cons_succ, List.set_cons_zero] at hb4
 obtain ⟨w4, hw4⟩ : ∃ w4, w4 = (w3.setCell ⟨w1.heap.size, 2, none⟩ (.int .i64 0)) := ⟨_, rfl⟩
 have hm34 : Mod (only w1.heap.size) w3 w4 := by rw [hw4]; exact Mod.setCell (Mod.refl (only w1.heap.size) w3) (p := ⟨w1.heap.size, 2, none⟩) (.inl rfl) _
 rw [← hw4] at hb4
 have hbm2' := zH hbm2
 replace hb2 := zH hb2
 replace hb3 := zH hb3
 replace hb4 := zH hb4
 replace hw3 := zH hw3
 replace hw4 := zH hw4
 replace hm23 := zH hm23
 replace hm34 := zH hm34
 replace hbm2 := zH hbm2
 go_upto_region 8 with fail
 refine wp_region_held_drew (S := fun W => Mod (only w1.heap.size) w2 W) (by kernel_rfl) (Mod.refl (only w1.heap.size) w2).drew (fun hHeld => ?_)
 refine tkZ 0 ?_ rfl ?_ ?_
 rotate_left
 ·intro W hSw; (try dsimp only at hSw); go_simp; (try with_reducible rfl)
 try simp only [Act.put, q1Z, q2Z, q3Z, q4Z, q5Z, q6Z]
 refine tkZ 1 ?_ rfl ?_ ?_
 rotate_left
 ·intro W hSw; have c5 : W.cell? ⟨w.heap.size, 5, none⟩ = some (.int .i64 0) := (hbm2'.out.mod hSw (fun e => by have e2 : w.heap.size = w1.heap.size := e; have := hs2.out; omega)).cell_ rfl; go_simp; (try with_reducible rfl)
 try simp only [Act.put, q1Z, q2Z, q3Z, q4Z, q5Z, q6Z]
 refine tkZ 2 ?_ rfl ?_ ?_
 rotate_left
 ·intro W hSw; (try dsimp only at hSw); go_simp; (try with_reducible rfl)
 try simp only [Act.put, q1Z, q2Z, q3Z, q4Z, q5Z, q6Z]
 refine rdZ 3 rfl (fun K hK => ?_)
 go_simp
 rw [← hw3.out]
 refine hK.out _ _ (hm23.out.drew) (fun hHeld => ?_)
 clear hK K
 try simp only [Act.put, q1Z, q2Z, q3Z, q4Z, q5Z, q6Z]
 refine tkZ 4 ?_ rfl ?_ ?_
 rotate_left
 ·intro W hSw; (try dsimp only at hSw); go_simp; (try with_reducible rfl)
 try simp only [Act.put, q1Z, q2Z, q3Z, q4Z, q5Z, q6Z]
 refine rdZ 5 rfl (fun K hK => ?_)
 go_simp
 rw [← hw4.out]
 have hm24 := hm23.out.trans hm34.out
 refine hK.out _ _ (hm24.drew) (fun hHeld => ?_)
 clear hK K
 try simp only [Act.put, q1Z, q2Z, q3Z, q4Z, q5Z, q6Z]
 refine wpAnyH_done (by kernel_rfl) ?_ _
 clear hHeld y2 y3 y4 y5 y18 ly f1 e1_ f2 e2_
 have hM4 := zH (hM2.out.then hm24.drew (fun j hj e => by have e2 : j = w1.heap.size := e; have := hs2.out; have := hM1.out.size; omega))
 have hbm4 := hbm2'.out.mod hm24 (fun e => by have e2 : w.heap.size = w1.heap.size := e; have := hs2.out; omega)
 have y2 : w4.cell? ⟨w.heap.size, 2, none⟩ = some (.int .i64 5) := hbm4.cell_ rfl
 have y3 : w4.cell? ⟨w.heap.size, 3, none⟩ = some (.int .i64 i1.r) := hbm4.cell_ rfl
 have y4 : w4.cell? ⟨w.heap.size, 4, none⟩ = some (.int .i64 i1.n) := hbm4.cell_ rfl
 have y5 : w4.cell? ⟨w.heap.size, 5, none⟩ = some (.int .i64 0) := hbm4.cell_ rfl
 have y18 : w4.cell? ⟨w.heap.size, 18, none⟩ = some (.bool false) := hbm4.cell_ rfl
 have ly := hbm4.lt
 have lb4 := hb4.out.lt
 have hb4d : Hid (Blk w4.drew w1.heap.size 55 #[.int .i64 0, .int .i64 2, .int .i64 0, .int .i64 e1.o.c, .int .i64 e1.o.s, .int .i64 e1.o.k, .string (txt e1.o.acct), .string (txt e1.o.peer), .int .i64 e1.o.sum, .slice L0.a L0.n L0.c, .int .i64 e1.o.per, .int .i64 e1.o.hold, .string (txt e1.o.note), .bool e1.none, .slice Dm.a Dm.n Dm.c]) := zH hb4.out
 replace hbm4 := zH hbm4
 go_upto_region 17 with fail
 go_wp2_with (refine wpList_step (fun K hK => ?_); rw [if_pos (by rfl)]; refine wp_load_mid 55 (.tmp 5) rfl w1.heap.size 0 rfl [.int .i64 0, .int .i64 2, .int .i64 0, .int .i64 e1.o.c, .int .i64 e1.o.s, .int .i64 e1.o.k, .string (txt e1.o.acct), .string (txt e1.o.peer), .int .i64 e1.o.sum, .slice L0.a L0.n L0.c, .int .i64 e1.o.per, .int .i64 e1.o.hold, .string (txt e1.o.note), .bool e1.none, .slice Dm.a Dm.n Dm.c] _ (Blk.range hb4d.out 0 _ rfl) Tryz.underlying55 rfl slot_size ?_; refine hK _ _ ?_)
 refine (kR.out _).mono ?_
 rintro e w9 ⟨rfl, hm9⟩
 dsimp only
 have hend := zH (hM4.out.trans hm9)
 clear hm9
 go_wp2_with fail
 go_ret
 exact ⟨rfl, hend.out⟩
def TakeCPost (w : World) (col : Col) (k : Nat) (b : RpB) (me : Int) (R : Option Addr → Nat → Nat → RpS → Col → World → Prop) (e : Ending) (w' : World) : Prop :=
 ∃ A m c X' col', e = .returned (.tuple #[.slice A m c, .int .i64 0]) ∧ RpM w' col' k b me 3 X' ∧ R A m c X' col' w' ∧ Ext w col col' ∧ Mod (owns col k) w w'
theorem takeC_ok (w : World) (col : Col) (k : Nat) (b : RpB) (me frm : Int) (X : RpS) (h : RpM w col k b me 3 X) (hf0 : 0 ≤ frm) (hf3 : frm < 3) (hfm : frm ≠ me) (Dm : SV) (hDm : Dm.n = 0) (y : Rs) (hget : (findI X.S i1).getD (slV (slZ i1)) = slV y) (hyb : y.r.bal = 0) (hwl : X.Wt.length + 1 < maxLen)
  (hcn : ∀ j, w.heap.size ≤ j → col j = (99, 0)) (hk9 : k < 49) (R : Option Addr → Nat → Nat → RpS → Col → World → Prop)
  (hH : ∀ W, RpM W col k b me 3 { X with Wt := putI' i1 (.int .i64 0) X.Wt } → Mod (own col k) w W → Calls Tryz.prog 190 #[.pointer (some ⟨b.q, 0, none⟩), .agg #[.int .i64 frm, .int .i64 me, .int .i64 5, .int .i64 i1.r, .int .i64 i1.n, .int .i64 0, .int .i64 0, .int .i64 0, .int .i64 e1.o.c, .int .i64 e1.o.s, .int .i64 e1.o.k, .string (txt e1.o.acct), .string (txt e1.o.peer), .int .i64 e1.o.sum, .slice L0.a L0.n L0.c, .int .i64 e1.o.per, .int .i64 e1.o.hold, .string (txt e1.o.note), .bool e1.none, .slice Dm.a Dm.n Dm.c]] W (TakeCPost W col k b me R))
  (hR : ∀ A m c X' col' W W', RpM W col' k b me 3 X' → R A m c X' col' W → Mod (· = b.q) W W' → R A m c X' col' W') :
  Calls Tryz.prog 68 #[.pointer (some ⟨b.q, 0, none⟩), .agg #[.int .i64 frm, .int .i64 me, .int .i64 5, .int .i64 i1.r, .int .i64 i1.n, .int .i64 0, .int .i64 0, .int .i64 0, .int .i64 e1.o.c, .int .i64 e1.o.s, .int .i64 e1.o.k, .string (txt e1.o.acct), .string (txt e1.o.peer), .int .i64 e1.o.sum, .slice L0.a L0.n L0.c, .int .i64 e1.o.per, .int .i64 e1.o.hold, .string (txt e1.o.note), .bool e1.none, .slice Dm.a Dm.n Dm.c]] w (TakeCPost w col k b me R) := by
 have hlq := h.q.lt
 obtain ⟨w0, hw0⟩ : ∃ w0, w0 = (w.alloc (.cells #[.int .i64 frm, .int .i64 me, .int .i64 5, .int .i64 i1.r, .int .i64 i1.n, .int .i64 0, .int .i64 0, .int .i64 0, .int .i64 e1.o.c, .int .i64 e1.o.s, .int .i64 e1.o.k, .string (txt e1.o.acct), .string (txt e1.o.peer), .int .i64 e1.o.sum, .slice L0.a L0.n L0.c, .int .i64 e1.o.per, .int .i64 e1.o.hold, .string (txt e1.o.note), .bool e1.none, .slice Dm.a Dm.n Dm.c] 66)) := ⟨_, rfl⟩
 have hs0 : w0.heap.size = w.heap.size + 1 := by rw [hw0]; simp
 have hm0 : Mod none_ w w0 := by rw [hw0]; exact (Mod.refl none_ w).alloc _
 have hbm : Blk w0 w.heap.size 66 #[.int .i64 frm, .int .i64 me, .int .i64 5, .int .i64 i1.r, .int .i64 i1.n, .int .i64 0, .int .i64 0, .int .i64 0, .int .i64 e1.o.c, .int .i64 e1.o.s, .int .i64 e1.o.k, .string (txt e1.o.acct), .string (txt e1.o.peer), .int .i64 e1.o.sum, .slice L0.a L0.n L0.c, .int .i64 e1.o.per, .int .i64 e1.o.hold, .string (txt e1.o.note), .bool e1.none, .slice Dm.a Dm.n Dm.c] := by rw [hw0]; exact Blk.new w _ _
 have hr0 := zH (h.mod0 hm0)
 have kF := zH (fitsC_ok w0.drew b.q me frm ((hr0.out.mod0 (Mod.refl none_ w0).drew).q.cell_ rfl) ((hr0.out.mod0 (Mod.refl none_ w0).drew).q.cell_ rfl) hf0 hf3 hfm Dm hDm)
 replace hm0 := zH hm0
 replace hbm := zH hbm
 replace h := zH h
 replace hget := zH hget
 replace hyb := zH hyb
 replace hcn := zH hcn
 replace hH := zH hH
 replace hR := zH hR
 replace hDm := zH hDm
 replace hf0 := zH hf0
 replace hf3 := zH hf3
 replace hfm := zH hfm
 go_enter Tryz.func68, Tryz.ntmps68
 go_upto_region 1 with fail
 rw [← hw0]
 replace hw0 := zH hw0
 refine wp_region_held_drew (S := fun W => Mod none_ w0 W) (by kernel_rfl) (Mod.refl none_ w0).drew (fun hHeld => ?_)
 refine tkZ 0 ?_ rfl ?_ ?_
 rotate_left
 ·intro W hSw; (try dsimp only at hSw); go_simp; (try with_reducible rfl)
 try simp only [Act.put, q1Z, q2Z, q3Z, q4Z, q5Z, q6Z]
 refine tkZ 1 ?_ rfl ?_ ?_
 rotate_left
 ·intro W hSw; (try dsimp only at hSw); go_simp; (try with_reducible rfl)
 try simp only [Act.put, q1Z, q2Z, q3Z, q4Z, q5Z, q6Z]
 refine tkZ 2 ?_ rfl ?_ ?_
 rotate_left
 ·intro W hSw; (try dsimp only at hSw); go_simp; (try with_reducible rfl)
 try simp only [Act.put, q1Z, q2Z, q3Z, q4Z, q5Z, q6Z]
 refine tkZ 3 ?_ rfl ?_ ?_
 rotate_left
 ·intro W hSw; (try dsimp only at hSw); go_simp; (try with_reducible rfl)
 try simp only [Act.put, q1Z, q2Z, q3Z, q4Z, q5Z, q6Z]
 refine wpAnyH_take (i := 4) rfl (by kernel_rfl) (by kernel_rfl) (by kernel_rfl) (fun _ _ _ h => h) (yieldsIf_load_mid (by rfl) 66 (.tmp 3) rfl w.heap.size 0 rfl [.int .i64 frm, .int .i64 me, .int .i64 5, .int .i64 i1.r, .int .i64 i1.n, .int .i64 0, .int .i64 0, .int .i64 0, .int .i64 e1.o.c, .int .i64 e1.o.s, .int .i64 e1.o.k, .string (txt e1.o.acct), .string (txt e1.o.peer), .int .i64 e1.o.sum, .slice L0.a L0.n L0.c, .int .i64 e1.o.per, .int .i64 e1.o.hold, .string (txt e1.o.note), .bool e1.none, .slice Dm.a Dm.n Dm.c] _ (fun W hW => Blk.range (hbm.out.mod hW (fun h => h)) 0 _ rfl) Tryz.underlying66 rfl msg_size) (by assumption) ?_
 try simp only [Act.put, q1Z, q2Z, q3Z, q4Z, q5Z, q6Z]
 refine rdZ 5 rfl (fun K hK => ?_)
 go_simp
 refine kF.out.mono ?_
 rintro e w1 ⟨rfl, hm1⟩
 dsimp only
 have hm1' := (Mod.refl none_ w0).drew.trans hm1
 refine hK.out _ _ (hm1') (fun hHeld => ?_)
 clear hK K
 try simp only [Act.put, q1Z, q2Z, q3Z, q4Z, q5Z, q6Z]
 refine tkZ 6 ?_ rfl ?_ ?_
 rotate_left
 ·intro W hSw; (try dsimp only at hSw); go_simp; (try with_reducible rfl)
 try simp only [Act.put, q1Z, q2Z, q3Z, q4Z, q5Z, q6Z]
 refine tkZ 7 ?_ rfl ?_ ?_
 rotate_left
 ·intro W hSw; (try dsimp only at hSw); go_simp; (try with_reducible rfl)
 try simp only [Act.put, q1Z, q2Z, q3Z, q4Z, q5Z, q6Z]
 refine tkZ 8 ?_ rfl ?_ ?_
 rotate_left
 ·intro W hSw; (try dsimp only at hSw); go_simp; (try with_reducible rfl)
 try simp only [Act.put, q1Z, q2Z, q3Z, q4Z, q5Z, q6Z]
 have hnf : ∀ W, (binOp .eql 209 (.func (.func 190) #[] #[]) .nilFunc).run Tryz.prog W = .ok (.bool false) W := fun _ => rfl
 refine tkZ 10 ?_ rfl ?_ ?_
 rotate_left
 ·intro W hSw; (try dsimp only at hSw); go_simp; (try with_reducible rfl)
 try simp only [Act.put, q1Z, q2Z, q3Z, q4Z, q5Z, q6Z]
 refine tkZ 11 ?_ rfl ?_ ?_
 rotate_left
 ·intro W hSw; have c2 : W.cell? ⟨w.heap.size, 2, none⟩ = some (.int .i64 5) := (hbm.out.mod hSw (fun h => h)).cell_ rfl; go_simp; (try with_reducible rfl)
 try simp only [Act.put, q1Z, q2Z, q3Z, q4Z, q5Z, q6Z]
 refine rdZ 9 rfl (fun K hK => ?_)
 go_simp
 refine (takers_ok _).mono ?_
 rintro e w2 ⟨bt, rfl, hbt, hm2⟩
 dsimp only
 have hm2' := hm1'.trans hm2
 refine hK.out _ _ (hm2') (fun hHeld => ?_)
 clear hK K
 try simp only [Act.put, q1Z, q2Z, q3Z, q4Z, q5Z, q6Z]
 have lk1 := takers_look hbt (k := 5) (by decide) (v := .func (.func 190) #[] #[]) (by rfl)
 refine rdZ 12 rfl (fun K hK => ?_)
 go_simp
 refine hK.out _ _ (hm2') (fun hHeld => ?_)
 clear hK K
 try simp only [Act.put, q1Z, q2Z, q3Z, q4Z, q5Z, q6Z]
 refine tkZ 13 ?_ rfl ?_ ?_
 rotate_left
 ·intro W hSw; (try dsimp only at hSw); go_simp; (try with_reducible rfl)
 try simp only [Act.put, q1Z, q2Z, q3Z, q4Z, q5Z, q6Z]
 refine tkZ 14 ?_ rfl ?_ ?_
 rotate_left
 ·intro W hSw; (try dsimp only at hSw); go_simp; (try with_reducible rfl)
 try simp only [Act.put, q1Z, q2Z, q3Z, q4Z, q5Z, q6Z]
 refine wpAnyH_done (by kernel_rfl) ?_ _
 clear hHeld hm1 hm1' hm2 hbt lk1
 have hM2 := zH (hm0.out.trans hm2')
 have hbm2 := hbm.out.mod hm2' (fun h => h)
 have hr2 := hr0.out.mod0 hm2'
 have hs2 : w.heap.size + 1 ≤ w2.heap.size := by have := hm2'.size; omega
 clear hm2' hr0 kF hnf
 obtain ⟨w3, hrun3, hwt3, hm3, hs3⟩ := MapK.store_run (w := w2.drew) (hr2.wt.mod (Mod.refl none_ w2).drew (fun h => h)) Tryz.underlying85 hwl i1_in (.int .i64 0)
 unfold isVal at hrun3
 have hm23 : Mod (· = b.wt) w2 w3 := (Mod.refl (· = b.wt) w2).drew.trans hm3
 have hr3 := zH (hr2.set_wt hm23 (Off.one hr2.lies (by simp [RpB.all])) hwt3)
 have hwtl : b.wt < w.heap.size := (h.out.lies (b.wt, 6) (by simp [RpB.all])).1
 have hbm3 := zH (hbm2.mod hm23 (fun e => by have e2 : w.heap.size = b.wt := e; omega))
 have hM3 := zH ((hM2.out.any (own col k)).trans (hm23.mono (fun j hj => own_one h.out.lies (c := 6) (by simp [RpB.all]) j hj)))
 have q7 : w2.cell? ⟨b.q, 7, none⟩ = some (.map (some b.wt)) := hr2.q.cell_ rfl
 have lq2 := hr2.q.lt
 have lm2 := hbm2.lt
 have m3 : w2.cell? ⟨w.heap.size, 3, none⟩ = some (.int .i64 i1.r) := hbm2.cell_ rfl
 have m4 : w2.cell? ⟨w.heap.size, 4, none⟩ = some (.int .i64 i1.n) := hbm2.cell_ rfl
 have hs3' : w2.heap.size ≤ w3.heap.size := hm23.size
 clear hm3 hm23 hs3 hwt3
 replace hr2 := zH hr2
 replace hbm2 := zH hbm2
 go_upto_region 3 with fail
 refine wp_region_still_tail 6 (by kernel_rfl) (by kernel_rfl) ?_
 simp only [List.take_succ_cons, List.take_zero, List.drop_succ_cons, List.drop_zero]
 change wpStill _ _ (World.drew _) _ _ _
 repeat still_step
 refine wpStill_nil ?_
 change wpList _ _ _ _ _ (World.drew _)
 go_upto_region 4 with fail
 clear q7 lq2 lm2 m3 m4 hrun3
 obtain ⟨⟨yi, yb, ys, yy, ye⟩, yL, yD⟩ := y
 have hyb' : yb = 0 := hyb.out
 subst hyb'
 have hzs := zH (Blk.new w3.drew 55 #[.int .i64 0, .int .i64 0, .int .i64 0, .int .i64 0, .int .i64 0, .int .i64 0, .string ⟨#[]⟩, .string ⟨#[]⟩, .int .i64 0, .slice none 0 0, .int .i64 0, .int .i64 0, .string ⟨#[]⟩, .bool false, .slice none 0 0])
 have hma := zH ((Mod.refl none_ w3).drew.alloc (.cells #[.int .i64 0, .int .i64 0, .int .i64 0, .int .i64 0, .int .i64 0, .int .i64 0, .string ⟨#[]⟩, .string ⟨#[]⟩, .int .i64 0, .slice none 0 0, .int .i64 0, .int .i64 0, .string ⟨#[]⟩, .bool false, .slice none 0 0] 55))
 refine wp_region_held_drew (S := fun W => Mod none_ w3 W) (by kernel_rfl) (Mod.refl none_ w3).drew (fun hHeld => ?_)
 refine tkZ 0 ?_ rfl ?_ ?_
 rotate_left
 ·intro W hSw; (try dsimp only at hSw); go_simp; (try with_reducible rfl)
 try simp only [Act.put, q1Z, q2Z, q3Z, q4Z, q5Z, q6Z]
 refine tkZ 1 ?_ rfl ?_ ?_
 rotate_left
 ·intro W hSw; (try dsimp only at hSw); go_simp; (try with_reducible rfl)
 try simp only [Act.put, q1Z, q2Z, q3Z, q4Z, q5Z, q6Z]
 refine tkZ 2 ?_ rfl ?_ ?_
 rotate_left
 ·intro W hSw; (try dsimp only at hSw); go_simp; (try with_reducible rfl)
 try simp only [Act.put, q1Z, q2Z, q3Z, q4Z, q5Z, q6Z]
 refine tkZ 3 ?_ rfl ?_ ?_
 rotate_left
 ·intro W hSw; have c3 : W.cell? ⟨b.q, 3, none⟩ = some (.map (some b.sl)) := (hr3.out.q.mod hSw (fun h => h)).cell_ rfl; go_simp; (try with_reducible rfl)
 try simp only [Act.put, q1Z, q2Z, q3Z, q4Z, q5Z, q6Z]
 refine tkZ 4 ?_ rfl ?_ ?_
 rotate_left
 ·intro W hSw; (try dsimp only at hSw); go_simp; (try with_reducible rfl)
 try simp only [Act.put, q1Z, q2Z, q3Z, q4Z, q5Z, q6Z]
 refine wpAnyH_take (i := 5) rfl (by kernel_rfl) (by kernel_rfl) (by kernel_rfl) (fun _ _ _ h => h) (yieldsIf_load_mid (by rfl) 27 (.tmp 33) rfl w.heap.size 3 rfl [.int .i64 i1.r, .int .i64 i1.n] _ (fun W hW => Blk.range (hbm3.out.mod hW (fun h => h)) 3 _ rfl) Tryz.underlying27 rfl inst_size) (by assumption) ?_
 try simp only [Act.put, q1Z, q2Z, q3Z, q4Z, q5Z, q6Z]
 refine tkZ 6 ?_ rfl ?_ ?_
 rotate_left
 ·intro W hSw; have lk := (hr3.out.sl.mod hSw (fun h => h)).get_run (t := 82) Tryz.underlying82 (zeroSl_run _) i1_in; dsimp only at lk; rw [hget.out] at lk; unfold slV isVal at lk; go_simp; (try with_reducible rfl)
 try simp only [Act.put, q1Z, q2Z, q3Z, q4Z, q5Z, q6Z]
 refine rdZ 7 rfl (fun K hK => ?_)
 go_simp
 refine hK.out _ _ (hma.out) (fun hHeld => ?_)
 clear hK K
 try simp only [Act.put, q1Z, q2Z, q3Z, q4Z, q5Z, q6Z]
 refine rdZ 8 rfl (fun K hK => ?_)
 refine step_store_blk rfl 55 (.tmp 6) (.tmp 35) rfl w3.heap.size 0 _ rfl rfl hzs.out (by simp) slot_size (by rfl) #[.int .i64 0, .int .i64 ys, .int .i64 yy, .int .i64 ye.o.c, .int .i64 ye.o.s, .int .i64 ye.o.k, .string (txt ye.o.acct), .string (txt ye.o.peer), .int .i64 ye.o.sum, .slice yL.a yL.n yL.c, .int .i64 ye.o.per, .int .i64 ye.o.hold, .string (txt ye.o.note), .bool ye.none, .slice yD.a yD.n yD.c] rfl ?_
 intro w4 hb4 hm4
 have hm4' := hma.out.in_new (g := w3.heap.size) (Nat.le_refl _) hm4
 refine hK.out _ _ (hm4') (fun hHeld => ?_)
 clear hK K
 try simp only [Act.put, q1Z, q2Z, q3Z, q4Z, q5Z, q6Z]
 refine wpAnyH_done (by kernel_rfl) ?_ _
 clear hHeld hzs hma hm4
 have hr4 := zH (hr3.out.mod0 hm4')
 have hM4 := zH (hM3.out.trans (hm4'.any _))
 have hbm4 := hbm3.out.mod hm4' (fun h => h)
 have s0 : w4.cell? ⟨w3.heap.size, 0, none⟩ = some (.int .i64 0) := hb4.cell_ rfl
 have s1 : w4.cell? ⟨w3.heap.size, 1, none⟩ = some (.int .i64 ys) := hb4.cell_ rfl
 have m2 : w4.cell? ⟨w.heap.size, 2, none⟩ = some (.int .i64 5) := hbm4.cell_ rfl
 have m5 : w4.cell? ⟨w.heap.size, 5, none⟩ = some (.int .i64 0) := hbm4.cell_ rfl
 have lb4 := hb4.lt
 have lm4 := hbm4.lt
 skip
 clear hm4' hr3 hbm3
 replace hbm4 := zH hbm4
 replace hb4 := zH hb4
 go_upto_region 11 with fail
 have hno : Hid (¬ owns col k w.heap.size) := zH (by
  intro hh
  have e1 := hcn.out w.heap.size (Nat.le_refl _)
  rcases hh with hh | hh <;> rw [e1] at hh <;> simp at hh <;> omega)
 refine wp_region_held_drew (S := fun W => Mod (owns col k) w4 W) (by kernel_rfl) (Mod.refl (owns col k) w4).drew (fun hHeld => ?_)
 refine tkZ 0 ?_ rfl ?_ ?_
 rotate_left
 ·intro W hSw; (try dsimp only at hSw); go_simp; (try with_reducible rfl)
 try simp only [Act.put, q1Z, q2Z, q3Z, q4Z, q5Z, q6Z]
 refine tkZ 2 ?_ rfl ?_ ?_
 rotate_left
 ·intro W hSw; (try dsimp only at hSw); go_simp; (try with_reducible rfl)
 try simp only [Act.put, q1Z, q2Z, q3Z, q4Z, q5Z, q6Z]
 refine tkZ 3 ?_ rfl ?_ ?_
 rotate_left
 ·intro W hSw; have c2 : W.cell? ⟨w.heap.size, 2, none⟩ = some (.int .i64 5) := (hbm4.out.mod hSw hno.out).cell_ rfl; go_simp; (try with_reducible rfl)
 try simp only [Act.put, q1Z, q2Z, q3Z, q4Z, q5Z, q6Z]
 refine tkZ 5 ?_ rfl ?_ ?_
 rotate_left
 ·intro W hSw; (try dsimp only at hSw); go_simp; (try with_reducible rfl)
 try simp only [Act.put, q1Z, q2Z, q3Z, q4Z, q5Z, q6Z]
 refine wpAnyH_take (i := 6) rfl (by kernel_rfl) (by kernel_rfl) (by kernel_rfl) (fun _ _ _ h => h) (yieldsIf_load_mid (by rfl) 66 (.tmp 3) rfl w.heap.size 0 rfl [.int .i64 frm, .int .i64 me, .int .i64 5, .int .i64 i1.r, .int .i64 i1.n, .int .i64 0, .int .i64 0, .int .i64 0, .int .i64 e1.o.c, .int .i64 e1.o.s, .int .i64 e1.o.k, .string (txt e1.o.acct), .string (txt e1.o.peer), .int .i64 e1.o.sum, .slice L0.a L0.n L0.c, .int .i64 e1.o.per, .int .i64 e1.o.hold, .string (txt e1.o.note), .bool e1.none, .slice Dm.a Dm.n Dm.c] _ (fun W hW => Blk.range (hbm4.out.mod hW hno.out) 0 _ rfl) Tryz.underlying66 rfl msg_size) (by assumption) ?_
 try simp only [Act.put, q1Z, q2Z, q3Z, q4Z, q5Z, q6Z]
 refine rdZ 1 rfl (fun K hK => ?_)
 go_simp
 refine (takers_ok _).mono ?_
 rintro e w5 ⟨bt5, rfl, hbt5, hm5⟩
 dsimp only
 have hm5' := (Mod.refl none_ w4).drew.trans hm5
 refine hK.out _ _ ((hm5'.any _)) (fun hHeld => ?_)
 clear hK K
 try simp only [Act.put, q1Z, q2Z, q3Z, q4Z, q5Z, q6Z]
 have lk5 := takers_look hbt5 (k := 5) (by decide) (v := .func (.func 190) #[] #[]) (by rfl)
 refine rdZ 4 rfl (fun K hK => ?_)
 go_simp
 refine hK.out _ _ ((hm5'.any _)) (fun hHeld => ?_)
 clear hK K
 try simp only [Act.put, q1Z, q2Z, q3Z, q4Z, q5Z, q6Z]
 refine rdZ 7 rfl (fun K hK => ?_)
 go_simp
 refine (hH.out w5 (hr4.out.mod0 hm5') (hM4.out.trans (hm5'.any _))).mono ?_
 rintro e w6 ⟨A6, n6, c6, X6, col6, rfl, hr6, hR6, hx6, hm6⟩
 dsimp only
 have hm6' := (hm5'.any (owns col k)).trans hm6
 refine hK.out _ _ (hm6') (fun hHeld => ?_)
 clear hK K
 try simp only [Act.put, q1Z, q2Z, q3Z, q4Z, q5Z, q6Z]
 refine tkZ 8 ?_ rfl ?_ ?_
 rotate_left
 ·intro W hSw; (try dsimp only at hSw); go_simp; (try with_reducible rfl)
 try simp only [Act.put, q1Z, q2Z, q3Z, q4Z, q5Z, q6Z]
 refine tkZ 9 ?_ rfl ?_ ?_
 rotate_left
 ·intro W hSw; (try dsimp only at hSw); go_simp; (try with_reducible rfl)
 try simp only [Act.put, q1Z, q2Z, q3Z, q4Z, q5Z, q6Z]
 refine rdZ 10 rfl (fun K hK => ?_)
 go_simp
 refine (anew0_ok w6 col6 k b me 3 X6 hr6 A6 n6 c6).mono ?_
 rintro e w7 ⟨rfl, hr7, hm7⟩
 dsimp only
 have hm7' : Mod (owns col k) w4 w7 := hm6'.trans (hm7.mono (fun j hj => own_owns (own_one h.out.lies (c := 0) (by simp [RpB.all]) j hj)))
 refine hK.out _ _ (hm7') (fun hHeld => ?_)
 clear hK K
 try simp only [Act.put, q1Z, q2Z, q3Z, q4Z, q5Z, q6Z]
 refine tkZ 11 ?_ rfl ?_ ?_
 rotate_left
 ·intro W hSw; (try dsimp only at hSw); go_simp; (try with_reducible rfl)
 try simp only [Act.put, q1Z, q2Z, q3Z, q4Z, q5Z, q6Z]
 refine tkZ 12 ?_ rfl ?_ ?_
 rotate_left
 ·intro W hSw; (try dsimp only at hSw); go_simp; (try with_reducible rfl)
 try simp only [Act.put, q1Z, q2Z, q3Z, q4Z, q5Z, q6Z]
 refine rdZ 13 rfl (fun K hK => ?_)
 go_simp
 refine hK.out _ _ (hm7') (fun hHeld => ?_)
 clear hK K
 try simp only [Act.put, q1Z, q2Z, q3Z, q4Z, q5Z, q6Z]
 refine rdZ 14 rfl (fun K hK => ?_)
 go_simp
 refine hK.out _ _ (hm7') (fun hHeld => ?_)
 clear hK K
 try simp only [Act.put, q1Z, q2Z, q3Z, q4Z, q5Z, q6Z]
 refine wpAnyH_done (by kernel_rfl) ?_ _
 clear hHeld
 have hR7 := zH (hR.out _ _ _ _ _ _ _ hr6 hR6 hm7)
 have hX7 := zH (show Ext w col col6 from fun j hj => hx6 j (Nat.lt_of_lt_of_le (Nat.lt_of_lt_of_le hj hM4.out.size) hm5'.size))
 have hM7 := zH ((hM4.out.mono (fun j hj => own_owns hj)).trans hm7')
 clear hm5 hm5' hm6 hm6' hm7 hm7' hx6 hR6 lk5 hbt5
 replace hr7 := zH hr7
 replace hr6 := zH hr6
 go_wp2_with fail
 go_ret2
 exact ⟨A6, n6, c6, X6, col6, rfl, hr7.out, hR7.out, hX7.out, hM7.out⟩
end Go.Proofs.YtfkfiokkjjnhiaaGreat
