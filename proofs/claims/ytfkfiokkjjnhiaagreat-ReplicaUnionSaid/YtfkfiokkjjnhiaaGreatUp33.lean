import Derived.Test.YtfkfiokkjjnhiaaGreatUp32
set_option linter.unusedVariables false
set_option linter.unusedSimpArgs false
set_option maxHeartbeats 16000000
namespace Go.Proofs.YtfkfiokkjjnhiaaGreat
open Go.RowKit
def CommitPost (w : World) (col : Col) (k : Nat) (b : RpB) (me : Int) (X : RpS) (D : SV) (e : Ending) (w' : World) : Prop :=
 ∃ A c X' col', e = .returned (.tuple #[.slice A 1 c, .int .i64 0]) ∧ OwM w' A 1 c [msG me 1] ∧ RpM w' col' k b me 3 X' ∧ Stood X X' D ∧ X'.Tl = X.Tl ∧ Ext w col col' ∧ Mod (own col k) w w'
set_option maxRecDepth 100000
theorem commitR_ok (w : World) (col : Col) (k : Nat) (b : RpB) (me : Int) (X : RpS) (h : RpM w col k b me 3 X) (D0 Dm : SV) (h0 : D0.n = 0) (hDm : Dm.n = 0) (hX : Heard X D0) (hme : i1.r ≠ me) (hk9 : k ≠ 99) (hcn : ∀ j, w.heap.size ≤ j → col j = (99, 0)) :
  Calls Tryz.prog 190 #[.pointer (some ⟨b.q, 0, none⟩), .agg #[.int .i64 1, .int .i64 me, .int .i64 5, .int .i64 i1.r, .int .i64 i1.n, .int .i64 0, .int .i64 0, .int .i64 0, .int .i64 e1.o.c, .int .i64 e1.o.s, .int .i64 e1.o.k, .string (txt e1.o.acct), .string (txt e1.o.peer), .int .i64 e1.o.sum, .slice L0.a L0.n L0.c, .int .i64 e1.o.per, .int .i64 e1.o.hold, .string (txt e1.o.note), .bool e1.none, .slice Dm.a Dm.n Dm.c]] w (CommitPost w col k b me X Dm) := by
 have hlq := h.q.lt
 obtain ⟨w0, hw0⟩ : ∃ w0, w0 = (w.alloc (.cells #[.int .i64 1, .int .i64 me, .int .i64 5, .int .i64 i1.r, .int .i64 i1.n, .int .i64 0, .int .i64 0, .int .i64 0, .int .i64 e1.o.c, .int .i64 e1.o.s, .int .i64 e1.o.k, .string (txt e1.o.acct), .string (txt e1.o.peer), .int .i64 e1.o.sum, .slice L0.a L0.n L0.c, .int .i64 e1.o.per, .int .i64 e1.o.hold, .string (txt e1.o.note), .bool e1.none, .slice Dm.a Dm.n Dm.c] 66)) := ⟨_, rfl⟩
 have hm0 : Mod none_ w w0 := by rw [hw0]; exact (Mod.refl none_ w).alloc _
 have hbm : Blk w0 w.heap.size 66 #[.int .i64 1, .int .i64 me, .int .i64 5, .int .i64 i1.r, .int .i64 i1.n, .int .i64 0, .int .i64 0, .int .i64 0, .int .i64 e1.o.c, .int .i64 e1.o.s, .int .i64 e1.o.k, .string (txt e1.o.acct), .string (txt e1.o.peer), .int .i64 e1.o.sum, .slice L0.a L0.n L0.c, .int .i64 e1.o.per, .int .i64 e1.o.hold, .string (txt e1.o.note), .bool e1.none, .slice Dm.a Dm.n Dm.c] := by rw [hw0]; exact Blk.new w _ _
 have hr0 := h.mod0 hm0
 have lk : ∀ q, (Instr.lookup 82 (.map (some b.sl)) (.agg #[.int .i64 i1.r, .int .i64 i1.n]) false).run Tryz.prog (w0.drewN q) = .ok (.agg #[.int .i64 0, .int .i64 1, .int .i64 0, .int .i64 e1.o.c, .int .i64 e1.o.s, .int .i64 e1.o.k, .string (txt e1.o.acct), .string (txt e1.o.peer), .int .i64 e1.o.sum, .slice L0.a L0.n L0.c, .int .i64 e1.o.per, .int .i64 e1.o.hold, .string (txt e1.o.note), .bool e1.none, .slice D0.a D0.n D0.c]) (w0.drewN q) := by
  intro q
  have := (hr0.sl.mod ((Mod.refl none_ w0).drewN q) (fun h => h)).get_run (t := 82) Tryz.underlying82 (zeroSl_run _) i1_in
  rw [hX.S] at this
  exact this
 have hfl : ∀ W, (Instr.field 55 (.agg #[.int .i64 0, .int .i64 1, .int .i64 0, .int .i64 e1.o.c, .int .i64 e1.o.s, .int .i64 e1.o.k, .string (txt e1.o.acct), .string (txt e1.o.peer), .int .i64 e1.o.sum, .slice L0.a L0.n L0.c, .int .i64 e1.o.per, .int .i64 e1.o.hold, .string (txt e1.o.note), .bool e1.none, .slice D0.a D0.n D0.c]) 1).run Tryz.prog W = .ok (.int .i64 1) W := fun _ => rfl
 have q3 : w0.cell? ⟨b.q, 3, none⟩ = some (.map (some b.sl)) := hr0.q.cell_ rfl
 have lq0 := hr0.q.lt
 have lm0 := hbm.lt
 have m3 : w0.cell? ⟨w.heap.size, 3, none⟩ = some (.int .i64 i1.r) := hbm.cell_ rfl
 have m4 : w0.cell? ⟨w.heap.size, 4, none⟩ = some (.int .i64 i1.n) := hbm.cell_ rfl
 replace hm0 := zH hm0
 replace hbm := zH hbm
 replace h := zH h
 replace hr0 := zH hr0
 replace hX := zH hX
 replace h0 := zH h0
 replace hDm := zH hDm
 replace hme := zH hme
 replace hcn := zH hcn
 go_enter Tryz.func190, Tryz.ntmps190
 go_upto_region 1 with fail
 rw [← hw0]
 replace hw0 := zH hw0
 go_quiet (fail)
 go_upto_region 2 with fail
 obtain ⟨w1, hw1⟩ : ∃ w1, w1 = w0.drewN nq := ⟨_, rfl⟩
 rw [← hw1]
 have hm1 : Mod none_ w0 w1 := by rw [hw1]; exact (Mod.refl none_ w0).drewN _
 have hbm1 := zH (hbm.out.mod hm1 (fun h => h))
 have hM1 := zH (hm0.out.trans hm1)
 have kS := zH (standNo_ok w1 col k b me 3 X (h.out.mod0 hM1.out) D0 Dm h0.out hDm.out hX.out hme.out hk9)
 clear lk hfl q3 lq0 m3 m4 hm1
 replace hw1 := zH hw1
 go_wp2_with (first
  | (refine wpList_load_blk rfl 53 (.tmp 19) rfl w.heap.size 8 rfl hbm1.out [.int .i64 e1.o.c, .int .i64 e1.o.s, .int .i64 e1.o.k, .string (txt e1.o.acct), .string (txt e1.o.peer), .int .i64 e1.o.sum, .slice L0.a L0.n L0.c, .int .i64 e1.o.per, .int .i64 e1.o.hold, .string (txt e1.o.note), .bool e1.none, .slice Dm.a Dm.n Dm.c] rfl Tryz.underlying53 rfl entry_size ?_)
  | (refine wpList_load_blk rfl 27 (.tmp 17) rfl w.heap.size 3 rfl hbm1.out [.int .i64 i1.r, .int .i64 i1.n] rfl Tryz.underlying27 rfl inst_size ?_))
 refine kS.out.mono ?_
 rintro e w2 ⟨rfl, X', col2, hr2, hst, htl2, hx2, hm2⟩
 dsimp only
 have hno : ¬ own col k w.heap.size := by unfold own; rw [hcn.out _ (Nat.le_refl _)]; exact fun e => hk9 e.symm
 have hbm2 := zH (hbm1.out.mod hm2 hno)
 have hM2 := zH ((hM1.out.any (own col k)).trans hm2)
 have hX2 := zH (show Ext w col col2 from fun j hj => hx2 j (Nat.lt_of_lt_of_le hj hM1.out.size))
 have kB := zH (show Calls Tryz.prog 140 #[.pointer (some ⟨b.q, 0, none⟩), .agg #[.int .i64 1, .int .i64 me, .int .i64 5, .int .i64 i1.r, .int .i64 i1.n, .int .i64 0, .int .i64 0, .int .i64 0, .int .i64 e1.o.c, .int .i64 e1.o.s, .int .i64 e1.o.k, .string (txt e1.o.acct), .string (txt e1.o.peer), .int .i64 e1.o.sum, .slice L0.a L0.n L0.c, .int .i64 e1.o.per, .int .i64 e1.o.hold, .string (txt e1.o.note), .bool e1.none, .slice Dm.a Dm.n Dm.c], .int .i64 9, .agg #[.int .i64 0, .int .i64 0, .int .i64 0, .int .i64 0, .int .i64 0, .int .i64 0, .string ⟨#[]⟩, .string ⟨#[]⟩, .int .i64 0, .slice none 0 0, .int .i64 0, .int .i64 0, .string ⟨#[]⟩, .bool false, .slice none 0 0]] w2 _ from back_ok w2 b.q me (hr2.q.cell_ rfl) (ms1 1 me 5 0 Dm) 9 (slZ i1))
 clear hm2 hx2 kS hno
 replace hr2 := zH hr2
 replace hst := zH hst
 replace htl2 := zH htl2
 go_wp2_with (refine wpList_load_blk rfl 66 (.tmp 3) rfl w.heap.size 0 rfl hbm2.out [.int .i64 1, .int .i64 me, .int .i64 5, .int .i64 i1.r, .int .i64 i1.n, .int .i64 0, .int .i64 0, .int .i64 0, .int .i64 e1.o.c, .int .i64 e1.o.s, .int .i64 e1.o.k, .string (txt e1.o.acct), .string (txt e1.o.peer), .int .i64 e1.o.sum, .slice L0.a L0.n L0.c, .int .i64 e1.o.per, .int .i64 e1.o.hold, .string (txt e1.o.note), .bool e1.none, .slice Dm.a Dm.n Dm.c] rfl Tryz.underlying66 rfl msg_size ?_)
 refine kB.out.mono ?_
 rintro e w3 ⟨A3, c3, rfl, ho3, hf3, hm3⟩
 dsimp only
 replace ho3 := zH ho3
 replace hf3 := zH hf3
 replace hm3 := zH hm3
 go_wp2_with fail
 go_ret2
 exact ⟨A3, c3, X', col2, rfl, ho3.out, hr2.out.mod0 hm3.out, hst.out, htl2.out, hX2.out, hM2.out.trans (hm3.out.any _)⟩
theorem got1_ok (w : World) (col : Col) (k : Nat) (b : RpB) (X : RpS) (h : RpM w col k b 1 3 X) (g : Nat) (htl : X.Tl = [(i1, .map (some g))]) (G : List IntV) (hg : MapN w g G) (hcg : col g = (50 + k, 20)) (frm : Int) (hfr : inN frm) (hGl : (putN frm (.bool true) G).length = 1) (hGm : G.length + 1 < maxLen) :
  Calls Tryz.prog 194 #[.pointer (some ⟨b.q, 0, none⟩), .agg #[.int .i64 frm, .int .i64 1, .int .i64 9, .int .i64 i1.r, .int .i64 i1.n, .int .i64 0, .int .i64 0, .int .i64 0, .int .i64 en0.o.c, .int .i64 en0.o.s, .int .i64 en0.o.k, .string (txt en0.o.acct), .string (txt en0.o.peer), .int .i64 en0.o.sum, .slice L0.a L0.n L0.c, .int .i64 en0.o.per, .int .i64 en0.o.hold, .string (txt en0.o.note), .bool en0.none, .slice L0.a L0.n L0.c]] w (fun e w' => e = .returned (.tuple #[.slice none 0 0, .int .i64 0]) ∧ RpM w' col k b 1 3 X ∧ MapN w' g (putN frm (.bool true) G) ∧ Mod (owns col k) w w') := by
 have hlq := h.q.lt
 have hgl := hg.lt
 obtain ⟨w0, hw0⟩ : ∃ w0, w0 = (w.alloc (.cells #[.int .i64 frm, .int .i64 1, .int .i64 9, .int .i64 i1.r, .int .i64 i1.n, .int .i64 0, .int .i64 0, .int .i64 0, .int .i64 en0.o.c, .int .i64 en0.o.s, .int .i64 en0.o.k, .string (txt en0.o.acct), .string (txt en0.o.peer), .int .i64 en0.o.sum, .slice L0.a L0.n L0.c, .int .i64 en0.o.per, .int .i64 en0.o.hold, .string (txt en0.o.note), .bool en0.none, .slice L0.a L0.n L0.c] 66)) := ⟨_, rfl⟩
 have hm0 : Mod none_ w w0 := by rw [hw0]; exact (Mod.refl none_ w).alloc _
 have hbm : Blk w0 w.heap.size 66 #[.int .i64 frm, .int .i64 1, .int .i64 9, .int .i64 i1.r, .int .i64 i1.n, .int .i64 0, .int .i64 0, .int .i64 0, .int .i64 en0.o.c, .int .i64 en0.o.s, .int .i64 en0.o.k, .string (txt en0.o.acct), .string (txt en0.o.peer), .int .i64 en0.o.sum, .slice L0.a L0.n L0.c, .int .i64 en0.o.per, .int .i64 en0.o.hold, .string (txt en0.o.note), .bool en0.none, .slice L0.a L0.n L0.c] := by rw [hw0]; exact Blk.new w _ _
 have hr0 := h.mod0 hm0
 have lk : ∀ q, (Instr.lookup 86 (.map (some b.tl)) (.agg #[.int .i64 i1.r, .int .i64 i1.n]) false).run Tryz.prog (w0.drewN q) = .ok (.map (some g)) (w0.drewN q) := by
  intro q
  have := (hr0.tl.mod ((Mod.refl none_ w0).drewN q) (fun h => h)).get_run (t := 86) (z := .map none) Tryz.underlying86 (by rfl) i1_in
  rw [htl] at this
  exact this
 have hne : ∀ W, (binOp .neq 93 (.map (some g)) (.map none)).run Tryz.prog W = .ok (.bool true) W := fun _ => by rfl
 have q8 : w0.cell? ⟨b.q, 8, none⟩ = some (.map (some b.tl)) := hr0.q.cell_ rfl
 have lq0 := hr0.q.lt
 have lm0 := hbm.lt
 have m3 : w0.cell? ⟨w.heap.size, 3, none⟩ = some (.int .i64 i1.r) := hbm.cell_ rfl
 have m4 : w0.cell? ⟨w.heap.size, 4, none⟩ = some (.int .i64 i1.n) := hbm.cell_ rfl
 replace hm0 := zH hm0
 replace hbm := zH hbm
 replace h := zH h
 replace hr0 := zH hr0
 replace hg := zH hg
 replace hcg := zH hcg
 replace htl := zH htl
 go_enter Tryz.func194, Tryz.ntmps194
 go_upto_region 1 with fail
 rw [← hw0]
 replace hw0 := zH hw0
 go_quiet (fail)
 go_upto_region 3 with fail
 obtain ⟨w1, hw1⟩ : ∃ w1, w1 = w0.drewN nq := ⟨_, rfl⟩
 rw [← hw1]
 have hm1 : Mod none_ w0 w1 := by rw [hw1]; exact (Mod.refl none_ w0).drewN _
 have hbm1 := hbm.out.mod hm1 (fun h => h)
 have hM1 := zH (hm0.out.trans hm1)
 have hg1 := hg.out.mod hM1.out (fun h => h)
 obtain ⟨w2, hrun, hg2, hm2, hs2⟩ := MapN.store_run (w := w1) hg1 (t := 93) Tryz.underlying93 hGm (i := frm) hfr (.bool true)
 unfold inV at hrun
 have hr2 := zH ((h.out.mod0 hM1.out).far hm2 (by
  rintro j hj hh c _ e
  have e2 : j = g := hh
  rw [e2, hcg.out] at e
  simp at e))
 have hbm2 := hbm1.mod hm2 (fun e => by have e2 : w.heap.size = g := e; omega)
 have hM2 := zH ((hM1.out.any (owns col k)).trans (hm2.mono (fun j hj => show owns col k j from .inr (by have e2 : j = g := hj; rw [e2, hcg.out]))))
 have m0 : w1.cell? ⟨w.heap.size, 0, none⟩ = some (.int .i64 frm) := hbm1.cell_ rfl
 have lm1 := hbm1.lt
 have hlen : ∀ q, (Builtin.len_ #[93] 3 #[.map (some g)]).run Tryz.prog (w2.drewN q) = .ok (.int .i64 1) (w2.drewN q) := by
  intro q
  have := MapN.len_run (hg2.mod ((Mod.refl none_ w2).drewN q) (fun h => h)) (t := 93) Tryz.underlying93 3
  rw [hGl] at this
  exact this
 have q1 : w2.cell? ⟨b.q, 1, none⟩ = some (.int .i64 3) := hr2.out.q.cell_ rfl
 have lq2 := hr2.out.q.lt
 have lm2 := hbm2.lt
 clear lk q8 lq0 m3 m4 hm1 hm2 hs2
 replace hw1 := zH hw1
 replace hbm1 := zH hbm1
 replace hg1 := zH hg1
 replace hg2 := zH hg2
 replace hbm2 := zH hbm2
 go_upto_region 4 with fail
 go_quiet (fail)
 have hmz : ∀ q, Mod none_ w2 (w2.drewN q) := fun q => (Mod.refl none_ w2).drewN q
 go_wp2_with fail
 go_ret2
 exact ⟨rfl, hr2.out.mod0 (hmz _), hg2.out.mod (hmz _) (fun h => h), hM2.out.trans ((hmz _).any _)⟩
theorem got2_ok (w : World) (col : Col) (k : Nat) (b : RpB) (X : RpS) (h : RpM w col k b 1 3 X) (g : Nat) (htl : X.Tl = [(i1, .map (some g))]) (G : List IntV) (hg : MapN w g G) (hcg : col g = (50 + k, 20)) (frm : Int) (hfr : inN frm) (hGl : (putN frm (.bool true) G).length = 2) (hGm : G.length + 1 < maxLen) :
  Calls Tryz.prog 194 #[.pointer (some ⟨b.q, 0, none⟩), .agg #[.int .i64 frm, .int .i64 1, .int .i64 9, .int .i64 i1.r, .int .i64 i1.n, .int .i64 0, .int .i64 0, .int .i64 0, .int .i64 en0.o.c, .int .i64 en0.o.s, .int .i64 en0.o.k, .string (txt en0.o.acct), .string (txt en0.o.peer), .int .i64 en0.o.sum, .slice L0.a L0.n L0.c, .int .i64 en0.o.per, .int .i64 en0.o.hold, .string (txt en0.o.note), .bool en0.none, .slice L0.a L0.n L0.c]] w (fun e w' => e = .returned (.tuple #[.slice none 0 0, .int .i64 0]) ∧ RpM w' col k b 1 3 { X with Tl := dropI i1 X.Tl } ∧ Mod (owns col k) w w') := by
 have hlq := h.q.lt
 have hgl := hg.lt
 obtain ⟨w0, hw0⟩ : ∃ w0, w0 = (w.alloc (.cells #[.int .i64 frm, .int .i64 1, .int .i64 9, .int .i64 i1.r, .int .i64 i1.n, .int .i64 0, .int .i64 0, .int .i64 0, .int .i64 en0.o.c, .int .i64 en0.o.s, .int .i64 en0.o.k, .string (txt en0.o.acct), .string (txt en0.o.peer), .int .i64 en0.o.sum, .slice L0.a L0.n L0.c, .int .i64 en0.o.per, .int .i64 en0.o.hold, .string (txt en0.o.note), .bool en0.none, .slice L0.a L0.n L0.c] 66)) := ⟨_, rfl⟩
 have hm0 : Mod none_ w w0 := by rw [hw0]; exact (Mod.refl none_ w).alloc _
 have hbm : Blk w0 w.heap.size 66 #[.int .i64 frm, .int .i64 1, .int .i64 9, .int .i64 i1.r, .int .i64 i1.n, .int .i64 0, .int .i64 0, .int .i64 0, .int .i64 en0.o.c, .int .i64 en0.o.s, .int .i64 en0.o.k, .string (txt en0.o.acct), .string (txt en0.o.peer), .int .i64 en0.o.sum, .slice L0.a L0.n L0.c, .int .i64 en0.o.per, .int .i64 en0.o.hold, .string (txt en0.o.note), .bool en0.none, .slice L0.a L0.n L0.c] := by rw [hw0]; exact Blk.new w _ _
 have hr0 := h.mod0 hm0
 have lk : ∀ q, (Instr.lookup 86 (.map (some b.tl)) (.agg #[.int .i64 i1.r, .int .i64 i1.n]) false).run Tryz.prog (w0.drewN q) = .ok (.map (some g)) (w0.drewN q) := by
  intro q
  have := (hr0.tl.mod ((Mod.refl none_ w0).drewN q) (fun h => h)).get_run (t := 86) (z := .map none) Tryz.underlying86 (by rfl) i1_in
  rw [htl] at this
  exact this
 have hne : ∀ W, (binOp .neq 93 (.map (some g)) (.map none)).run Tryz.prog W = .ok (.bool true) W := fun _ => by rfl
 have q8 : w0.cell? ⟨b.q, 8, none⟩ = some (.map (some b.tl)) := hr0.q.cell_ rfl
 have lq0 := hr0.q.lt
 have lm0 := hbm.lt
 have m3 : w0.cell? ⟨w.heap.size, 3, none⟩ = some (.int .i64 i1.r) := hbm.cell_ rfl
 have m4 : w0.cell? ⟨w.heap.size, 4, none⟩ = some (.int .i64 i1.n) := hbm.cell_ rfl
 replace hm0 := zH hm0
 replace hbm := zH hbm
 replace h := zH h
 replace hr0 := zH hr0
 replace hg := zH hg
 replace hcg := zH hcg
 replace htl := zH htl
 go_enter Tryz.func194, Tryz.ntmps194
 go_upto_region 1 with fail
 rw [← hw0]
 replace hw0 := zH hw0
 go_quiet (fail)
 go_upto_region 3 with fail
 obtain ⟨w1, hw1⟩ : ∃ w1, w1 = w0.drewN nq := ⟨_, rfl⟩
 rw [← hw1]
 have hm1 : Mod none_ w0 w1 := by rw [hw1]; exact (Mod.refl none_ w0).drewN _
 have hbm1 := hbm.out.mod hm1 (fun h => h)
 have hM1 := zH (hm0.out.trans hm1)
 have hg1 := hg.out.mod hM1.out (fun h => h)
 obtain ⟨w2, hrun, hg2, hm2, hs2⟩ := MapN.store_run (w := w1) hg1 (t := 93) Tryz.underlying93 hGm (i := frm) hfr (.bool true)
 unfold inV at hrun
 have hr2 := zH ((h.out.mod0 hM1.out).far hm2 (by
  rintro j hj hh c _ e
  have e2 : j = g := hh
  rw [e2, hcg.out] at e
  simp at e))
 have hbm2 := hbm1.mod hm2 (fun e => by have e2 : w.heap.size = g := e; omega)
 have hM2 := zH ((hM1.out.any (owns col k)).trans (hm2.mono (fun j hj => show owns col k j from .inr (by have e2 : j = g := hj; rw [e2, hcg.out]))))
 have m0 : w1.cell? ⟨w.heap.size, 0, none⟩ = some (.int .i64 frm) := hbm1.cell_ rfl
 have lm1 := hbm1.lt
 have hlen : ∀ q, (Builtin.len_ #[93] 3 #[.map (some g)]).run Tryz.prog (w2.drewN q) = .ok (.int .i64 2) (w2.drewN q) := by
  intro q
  have := MapN.len_run (hg2.mod ((Mod.refl none_ w2).drewN q) (fun h => h)) (t := 93) Tryz.underlying93 3
  rw [hGl] at this
  exact this
 have q1 : w2.cell? ⟨b.q, 1, none⟩ = some (.int .i64 3) := hr2.out.q.cell_ rfl
 have lq2 := hr2.out.q.lt
 have lm2 := hbm2.lt
 clear lk q8 lq0 m3 m4 hm1 hm2 hs2
 replace hw1 := zH hw1
 replace hbm1 := zH hbm1
 replace hg1 := zH hg1
 replace hg2 := zH hg2
 replace hbm2 := zH hbm2
 go_upto_region 4 with fail
 go_quiet (fail)
 go_upto_region 5 with fail
 obtain ⟨w3, hw3⟩ : ∃ w3, w3 = w2.drewN nq := ⟨_, rfl⟩
 rw [← hw3]
 have hm3 : Mod none_ w2 w3 := by rw [hw3]; exact (Mod.refl none_ w2).drewN _
 have hr3 := hr2.out.mod0 hm3
 have hbm3 := hbm2.out.mod hm3 (fun h => h)
 have hM3 := zH (hM2.out.trans (hm3.any _))
 obtain ⟨w4, hrun4, htl4, hm4, hs4⟩ := MapK.drop_run (w := w3.drew) (hr3.tl.mod (Mod.refl none_ w3).drew (fun h => h)) Tryz.underlying86 i1_in 0
 unfold isVal at hrun4
 have hr3d := hr3.mod0 (Mod.refl none_ w3).drew
 have hr4 := zH (hr3d.set_tl hm4 (Off.one hr3d.lies (by simp [RpB.all])) htl4)
 have hM4 := zH (hM3.out.trans (((Mod.refl (owns col k) w3).drew).trans (hm4.mono (fun j hj => own_owns (own_one h.out.lies (c := 7) (by simp [RpB.all]) j hj)))))
 have q8 : w3.cell? ⟨b.q, 8, none⟩ = some (.map (some b.tl)) := hr3.q.cell_ rfl
 have lq3 := hr3.q.lt
 have lm3 := hbm3.lt
 have n3 : w3.cell? ⟨w.heap.size, 3, none⟩ = some (.int .i64 i1.r) := hbm3.cell_ rfl
 have n4 : w3.cell? ⟨w.heap.size, 4, none⟩ = some (.int .i64 i1.n) := hbm3.cell_ rfl
 clear hm3 hm4 hs4 hr3d hlen q1 lq2 lm2
 replace hw3 := zH hw3
 replace hr3 := zH hr3
 replace hbm3 := zH hbm3
 replace htl4 := zH htl4
 refine wp_region_still_tail 6 (by kernel_rfl) (by kernel_rfl) ?_
 simp only [List.take_succ_cons, List.take_zero, List.drop_succ_cons, List.drop_zero]
 change wpStill _ _ (World.drew _) _ _ _
 repeat still_step
 refine wpStill_nil ?_
 change wpList _ _ _ _ _ (World.drew _)
 go_wp2_with fail
 go_ret2
 exact ⟨rfl, hr4.out, hM4.out⟩
structure Blank (X : RpS) : Prop where
 S : X.S = []
 Ld : X.Ld = []
 Tl : X.Tl = []
 K : X.K = []
 D : X.D = []
 T : X.T = []
 C : X.C = []
 ln : X.ln = 0
 lv : X.lv = []
 l : X.l.length ≤ 10000
def PrePost (w : World) (col : Col) (k : Nat) (b : RpB) (me : Int) (X : RpS) (e : Ending) (w' : World) : Prop :=
 ∃ A c D X' col', e = .returned (.tuple #[.slice A 1 c, .int .i64 0]) ∧ D.n = 0 ∧ OwM w' A 1 c [ms1 me 1 2 1 D] ∧ RpM w' col' k b me 3 X' ∧ Heard X' D ∧ X'.Tl = [] ∧ X'.Ld = [] ∧ X'.Wt = X.Wt ∧ Ext w col col' ∧ Mod (own col k) w w'
theorem pre_ok (w : World) (col : Col) (k : Nat) (b : RpB) (me : Int) (X : RpS) (h : RpM w col k b me 3 X) (Dm : SV) (hDm : Dm.n = 0) (hX : Blank X) (hk9 : k ≠ 99) (hcn : ∀ j, w.heap.size ≤ j → col j = (99, 0)) :
  Calls Tryz.prog 186 #[.pointer (some ⟨b.q, 0, none⟩), .agg #[.int .i64 1, .int .i64 me, .int .i64 1, .int .i64 i1.r, .int .i64 i1.n, .int .i64 0, .int .i64 0, .int .i64 0, .int .i64 e1.o.c, .int .i64 e1.o.s, .int .i64 e1.o.k, .string (txt e1.o.acct), .string (txt e1.o.peer), .int .i64 e1.o.sum, .slice L0.a L0.n L0.c, .int .i64 e1.o.per, .int .i64 e1.o.hold, .string (txt e1.o.note), .bool e1.none, .slice Dm.a Dm.n Dm.c]] w (PrePost w col k b me X) := by
 have hlq := h.q.lt
 obtain ⟨w0, hw0⟩ : ∃ w0, w0 = (w.alloc (.cells #[.int .i64 1, .int .i64 me, .int .i64 1, .int .i64 i1.r, .int .i64 i1.n, .int .i64 0, .int .i64 0, .int .i64 0, .int .i64 e1.o.c, .int .i64 e1.o.s, .int .i64 e1.o.k, .string (txt e1.o.acct), .string (txt e1.o.peer), .int .i64 e1.o.sum, .slice L0.a L0.n L0.c, .int .i64 e1.o.per, .int .i64 e1.o.hold, .string (txt e1.o.note), .bool e1.none, .slice Dm.a Dm.n Dm.c] 66)) := ⟨_, rfl⟩
 have hs0 : w0.heap.size = w.heap.size + 1 := by rw [hw0]; simp
 have hm0 : Mod none_ w w0 := by rw [hw0]; exact (Mod.refl none_ w).alloc _
 have hbm : Blk w0 w.heap.size 66 #[.int .i64 1, .int .i64 me, .int .i64 1, .int .i64 i1.r, .int .i64 i1.n, .int .i64 0, .int .i64 0, .int .i64 0, .int .i64 e1.o.c, .int .i64 e1.o.s, .int .i64 e1.o.k, .string (txt e1.o.acct), .string (txt e1.o.peer), .int .i64 e1.o.sum, .slice L0.a L0.n L0.c, .int .i64 e1.o.per, .int .i64 e1.o.hold, .string (txt e1.o.note), .bool e1.none, .slice Dm.a Dm.n Dm.c] := by rw [hw0]; exact Blk.new w _ _
 have hr0 := zH (h.mod0 hm0)
 have hzs := zH (Blk.new w0.drew 55 #[.int .i64 0, .int .i64 0, .int .i64 0, .int .i64 0, .int .i64 0, .int .i64 0, .string ⟨#[]⟩, .string ⟨#[]⟩, .int .i64 0, .slice none 0 0, .int .i64 0, .int .i64 0, .string ⟨#[]⟩, .bool false, .slice none 0 0])
 rw [show w0.drew.heap.size = w.heap.size + 1 from hs0] at hzs
 have hma := zH ((Mod.refl none_ w0).drew.alloc (.cells #[.int .i64 0, .int .i64 0, .int .i64 0, .int .i64 0, .int .i64 0, .int .i64 0, .string ⟨#[]⟩, .string ⟨#[]⟩, .int .i64 0, .slice none 0 0, .int .i64 0, .int .i64 0, .string ⟨#[]⟩, .bool false, .slice none 0 0] 55))
 replace hm0 := zH hm0
 replace hbm := zH hbm
 replace h := zH h
 replace hX := zH hX
 replace hDm := zH hDm
 replace hcn := zH hcn
 go_enter Tryz.func186, Tryz.ntmps186
 go_upto_region 1 with fail
 rw [← hw0]
 replace hw0 := zH hw0
 refine wp_region_held_drew (S := fun W => Mod none_ w0 W) (by kernel_rfl) (Mod.refl none_ w0).drew (fun hHeld => ?_)
 refine tkZ 0 ?_ rfl ?_ ?_
 rotate_left
 ·intro W hSw; (try dsimp only at hSw); go_simp; (try with_reducible rfl)
 try simp only [Act.put, q1Z, q2Z, q3Z, q4Z, q5Z, q6Z]
 refine tkZ 1 ?_ rfl ?_ ?_
 rotate_left
 ·intro W hSw; (try dsimp only at hSw); go_simp; (try with_reducible rfl)
 try simp only [Act.put, q1Z, q2Z, q3Z, q4Z, q5Z, q6Z]
 refine tkZ 2 ?_ rfl ?_ ?_
 rotate_left
 ·intro W hSw; (try dsimp only at hSw); go_simp; (try with_reducible rfl)
 try simp only [Act.put, q1Z, q2Z, q3Z, q4Z, q5Z, q6Z]
 refine tkZ 3 ?_ rfl ?_ ?_
 rotate_left
 ·intro W hSw; have c3 : W.cell? ⟨b.q, 3, none⟩ = some (.map (some b.sl)) := (hr0.out.q.mod hSw (fun h => h)).cell_ rfl; go_simp; (try with_reducible rfl)
 try simp only [Act.put, q1Z, q2Z, q3Z, q4Z, q5Z, q6Z]
 refine tkZ 4 ?_ rfl ?_ ?_
 rotate_left
 ·intro W hSw; (try dsimp only at hSw); go_simp; (try with_reducible rfl)
 try simp only [Act.put, q1Z, q2Z, q3Z, q4Z, q5Z, q6Z]
 refine wpAnyH_take (i := 5) rfl (by kernel_rfl) (by kernel_rfl) (by kernel_rfl) (fun _ _ _ h => h) (yieldsIf_load_mid (by rfl) 27 (.tmp 14) rfl w.heap.size 3 rfl [.int .i64 i1.r, .int .i64 i1.n] _ (fun W hW => Blk.range (hbm.out.mod hW (fun h => h)) 3 _ rfl) Tryz.underlying27 rfl inst_size) (by assumption) ?_
 try simp only [Act.put, q1Z, q2Z, q3Z, q4Z, q5Z, q6Z]
 refine tkZ 6 ?_ rfl ?_ ?_
 rotate_left
 ·intro W hSw; have lk := (hr0.out.sl.mod hSw (fun h => h)).get_run (t := 82) Tryz.underlying82 (zeroSl_run _) i1_in; rw [hX.out.S, findI_nil] at lk; unfold isVal at lk; simp only [Option.getD_none] at lk; go_simp; (try with_reducible rfl)
 try simp only [Act.put, q1Z, q2Z, q3Z, q4Z, q5Z, q6Z]
 refine rdZ 7 rfl (fun K hK => ?_)
 go_simp
 refine hK.out _ _ (hma.out) (fun hHeld => ?_)
 clear hK K
 try simp only [Act.put, q1Z, q2Z, q3Z, q4Z, q5Z, q6Z]
 refine rdZ 8 rfl (fun K hK => ?_)
 refine step_store_blk rfl 55 (.tmp 6) (.tmp 16) rfl (w.heap.size + 1) 0 _ rfl rfl hzs.out (by simp) slot_size (by rfl) #[.int .i64 0, .int .i64 0, .int .i64 0, .int .i64 0, .int .i64 0, .int .i64 0, .string ⟨#[]⟩, .string ⟨#[]⟩, .int .i64 0, .slice none 0 0, .int .i64 0, .int .i64 0, .string ⟨#[]⟩, .bool false, .slice none 0 0] rfl ?_
 intro w1 hb1 hm1
 have hm1' := hma.out.in_new (g := w.heap.size + 1) (by omega) hm1
 refine hK.out _ _ (hm1') (fun hHeld => ?_)
 clear hK K
 try simp only [Act.put, q1Z, q2Z, q3Z, q4Z, q5Z, q6Z]
 refine wpAnyH_done (by kernel_rfl) ?_ _
 clear hHeld hzs hma hm1
 have hr1 := zH (hr0.out.mod0 hm1')
 have hM1 := zH (hm0.out.trans hm1')
 have hbm1 := zH (hbm.out.mod hm1' (fun h => h))
 have hs1 : w0.heap.size ≤ w1.heap.size := hm1'.size
 have s2 : w1.cell? ⟨w.heap.size + 1, 2, none⟩ = some (.int .i64 0) := hb1.cell_ rfl
 have s1 : w1.cell? ⟨w.heap.size + 1, 1, none⟩ = some (.int .i64 0) := hb1.cell_ rfl
 have m5 : w1.cell? ⟨w.heap.size, 5, none⟩ = some (.int .i64 0) := hbm1.out.cell_ rfl
 have lb1 := hb1.lt
 clear hm1' hr0
 replace hb1 := zH hb1
 go_upto_region 6 with fail
 have kW := zH (fun W (hW : Mod none_ w1 W) => show Calls Tryz.prog 33 #[.pointer (some ⟨b.q, 0, none⟩), .agg #[.int .i64 i1.r, .int .i64 i1.n], .agg #[.int .i64 e1.o.c, .int .i64 e1.o.s, .int .i64 e1.o.k, .string (txt e1.o.acct), .string (txt e1.o.peer), .int .i64 e1.o.sum, .slice L0.a L0.n L0.c, .int .i64 e1.o.per, .int .i64 e1.o.hold, .string (txt e1.o.note)], .slice Dm.a Dm.n Dm.c] W (NilPost W) from by
  have hr := hr1.out.mod0 hW
  rw [hDm.out]
  exact waits0_ok W b.q b.sl (hr.q.cell_ rfl) (by have := hr.sl; rw [hX.out.S] at this; exact this) i1 e1.o L0 Dm.a Dm.c)
 go_cut [8] from 47 to 60 (fun s8 wx => ∃ p A2 c2, s8 = .pointer (some ⟨p, 0, none⟩) ∧ Blk wx p 53 #[.int .i64 e1.o.c, .int .i64 e1.o.s, .int .i64 e1.o.k, .string (txt e1.o.acct), .string (txt e1.o.peer), .int .i64 e1.o.sum, .slice L0.a L0.n L0.c, .int .i64 e1.o.per, .int .i64 e1.o.hold, .string (txt e1.o.note), .bool false, .slice A2 0 c2] ∧ Mod none_ w1 wx)
 case first =>
  have hzE := zH (fun W => Blk.new W 53 #[.int .i64 0, .int .i64 0, .int .i64 0, .string ⟨#[]⟩, .string ⟨#[]⟩, .int .i64 0, .slice none 0 0, .int .i64 0, .int .i64 0, .string ⟨#[]⟩, .bool false, .slice none 0 0])
  refine wp_region_held_drew (S := fun W => Mod none_ w1 W) (by kernel_rfl) (Mod.refl none_ w1).drew (fun hHeld => ?_)
  refine tkZ 0 ?_ rfl ?_ ?_
  rotate_left
  ·intro W hSw; (try dsimp only at hSw); go_simp; (try with_reducible rfl)
  try simp only [Act.put, q1Z, q2Z, q3Z, q4Z, q5Z, q6Z]
  refine tkZ 1 ?_ rfl ?_ ?_
  rotate_left
  ·intro W hSw; (try dsimp only at hSw); go_simp; (try with_reducible rfl)
  try simp only [Act.put, q1Z, q2Z, q3Z, q4Z, q5Z, q6Z]
  refine wpAnyH_take (i := 2) rfl (by kernel_rfl) (by kernel_rfl) (by kernel_rfl) (fun _ _ _ h => h) (yieldsIf_load_mid (by rfl) 40 (.tmp 48) rfl w.heap.size 8 rfl [.int .i64 e1.o.c, .int .i64 e1.o.s, .int .i64 e1.o.k, .string (txt e1.o.acct), .string (txt e1.o.peer), .int .i64 e1.o.sum, .slice L0.a L0.n L0.c, .int .i64 e1.o.per, .int .i64 e1.o.hold, .string (txt e1.o.note)] _ (fun W hW => Blk.range (hbm1.out.mod hW (fun h => h)) 8 _ rfl) Tryz.underlying40 rfl order_size) (by assumption) ?_
  try simp only [Act.put, q1Z, q2Z, q3Z, q4Z, q5Z, q6Z]
  refine tkZ 3 ?_ rfl ?_ ?_
  rotate_left
  ·intro W hSw; (try dsimp only at hSw); go_simp; (try with_reducible rfl)
  try simp only [Act.put, q1Z, q2Z, q3Z, q4Z, q5Z, q6Z]
  refine tkZ 4 ?_ rfl ?_ ?_
  rotate_left
  ·intro W hSw; (try dsimp only at hSw); go_simp; (try with_reducible rfl)
  try simp only [Act.put, q1Z, q2Z, q3Z, q4Z, q5Z, q6Z]
  refine wpAnyH_take (i := 5) rfl (by kernel_rfl) (by kernel_rfl) (by kernel_rfl) (fun _ _ _ h => h) (yieldsIf_load_mid (by rfl) 27 (.tmp 51) rfl w.heap.size 3 rfl [.int .i64 i1.r, .int .i64 i1.n] _ (fun W hW => Blk.range (hbm1.out.mod hW (fun h => h)) 3 _ rfl) Tryz.underlying27 rfl inst_size) (by assumption) ?_
  try simp only [Act.put, q1Z, q2Z, q3Z, q4Z, q5Z, q6Z]
  refine tkZ 6 ?_ rfl ?_ ?_
  rotate_left
  ·intro W hSw; (try dsimp only at hSw); go_simp; (try with_reducible rfl)
  try simp only [Act.put, q1Z, q2Z, q3Z, q4Z, q5Z, q6Z]
  refine tkZ 7 ?_ rfl ?_ ?_
  rotate_left
  ·intro W hSw; (try dsimp only at hSw); go_simp; (try with_reducible rfl)
  try simp only [Act.put, q1Z, q2Z, q3Z, q4Z, q5Z, q6Z]
  refine wpAnyH_take (i := 8) rfl (by kernel_rfl) (by kernel_rfl) (by kernel_rfl) (fun _ _ _ h => h) (yieldsIf_load_mid (by rfl) 40 (.tmp 54) rfl w.heap.size 8 rfl [.int .i64 e1.o.c, .int .i64 e1.o.s, .int .i64 e1.o.k, .string (txt e1.o.acct), .string (txt e1.o.peer), .int .i64 e1.o.sum, .slice L0.a L0.n L0.c, .int .i64 e1.o.per, .int .i64 e1.o.hold, .string (txt e1.o.note)] _ (fun W hW => Blk.range (hbm1.out.mod hW (fun h => h)) 8 _ rfl) Tryz.underlying40 rfl order_size) (by assumption) ?_
  try simp only [Act.put, q1Z, q2Z, q3Z, q4Z, q5Z, q6Z]
  refine tkZ 9 ?_ rfl ?_ ?_
  rotate_left
  ·intro W hSw; (try dsimp only at hSw); go_simp; (try with_reducible rfl)
  try simp only [Act.put, q1Z, q2Z, q3Z, q4Z, q5Z, q6Z]
  refine tkZ 10 ?_ rfl ?_ ?_
  rotate_left
  ·intro W hSw; (try dsimp only at hSw); go_simp; (try with_reducible rfl)
  try simp only [Act.put, q1Z, q2Z, q3Z, q4Z, q5Z, q6Z]
  refine tkZ 11 ?_ rfl ?_ ?_
  rotate_left
  ·intro W hSw; have c3 : W.cell? ⟨w.heap.size, 19, none⟩ = some (.slice Dm.a Dm.n Dm.c) := (hbm1.out.mod hSw (fun h => h)).cell_ rfl; go_simp; (try with_reducible rfl)
  try simp only [Act.put, q1Z, q2Z, q3Z, q4Z, q5Z, q6Z]
  refine wpAnyH_ready (rs := [12, 14]) (by kernel_rfl) (by simp) ?_
  refine AllReadyH.cons rfl (fun K hK => ?_) (AllReadyH.cons rfl (fun K hK => ?_) AllReadyH.nil)
  focus
   go_simp
   refine (kW.out _ (Mod.refl none_ w1).drew).mono ?_
   rintro e w2 ⟨A2, c2, rfl, hm2⟩
   dsimp only
   have hM2 := (Mod.refl none_ w1).drew.trans hm2
   refine hK.out _ _ (hM2) (fun hHeld => ?_)
   clear hK K
   try simp only [Act.put, q1Z, q2Z, q3Z, q4Z, q5Z, q6Z]
   refine tkZ 13 ?_ rfl ?_ ?_
   rotate_left
   ·intro W hSw; (try dsimp only at hSw); go_simp; (try with_reducible rfl)
   try simp only [Act.put, q1Z, q2Z, q3Z, q4Z, q5Z, q6Z]
   refine rdZ 14 rfl (fun K hK => ?_)
   go_simp
   refine hK.out _ _ ((hM2.alloc _)) (fun hHeld => ?_)
   clear hK K
   try simp only [Act.put, q1Z, q2Z, q3Z, q4Z, q5Z, q6Z]
   refine rdZ 15 rfl (fun K hK => ?_)
   refine step_store_blk rfl 53 (.tmp 8) (.tmp 60) rfl w2.heap.size 0 _ rfl rfl (hzE.out w2) (by simp) entry_size (by rfl) #[.int .i64 e1.o.c, .int .i64 e1.o.s, .int .i64 e1.o.k, .string (txt e1.o.acct), .string (txt e1.o.peer), .int .i64 e1.o.sum, .slice L0.a L0.n L0.c, .int .i64 e1.o.per, .int .i64 e1.o.hold, .string (txt e1.o.note), .bool false, .slice A2 0 c2] rfl ?_
   intro w3 hb3 hm3
   have hM3 := (hM2.alloc (.cells #[.int .i64 0, .int .i64 0, .int .i64 0, .string ⟨#[]⟩, .string ⟨#[]⟩, .int .i64 0, .slice none 0 0, .int .i64 0, .int .i64 0, .string ⟨#[]⟩, .bool false, .slice none 0 0] 53)).in_new (g := w2.heap.size) hM2.size hm3
   refine hK.out _ _ (hM3) (fun hHeld => ?_)
   clear hK K
   try simp only [Act.put, q1Z, q2Z, q3Z, q4Z, q5Z, q6Z]
   refine wpAnyH_done (by kernel_rfl) ?_ _
   clear hHeld hm2 hm3 hM2
   have hend := zH hM3
   clear hM3
   replace hb3 := zH hb3
   go_wp2_with fail
   all_goals go_meet
   exact ⟨w2.heap.size, A2, c2, rfl, hb3.out, hend.out⟩
  focus
   go_simp
   have hMa := (Mod.refl none_ w1).drew.alloc (.cells #[.int .i64 0, .int .i64 0, .int .i64 0, .string ⟨#[]⟩, .string ⟨#[]⟩, .int .i64 0, .slice none 0 0, .int .i64 0, .int .i64 0, .string ⟨#[]⟩, .bool false, .slice none 0 0] 53)
   refine hK.out _ _ (hMa) (fun hHeld => ?_)
   clear hK K
   try simp only [Act.put, q1Z, q2Z, q3Z, q4Z, q5Z, q6Z]
   refine rdZ 12 rfl (fun K hK => ?_)
   go_simp
   refine (kW.out _ hMa).mono ?_
   rintro e w2 ⟨A2, c2, rfl, hm2⟩
   dsimp only
   have hM2 := hMa.trans hm2
   refine hK.out _ _ (hM2) (fun hHeld => ?_)
   clear hK K
   try simp only [Act.put, q1Z, q2Z, q3Z, q4Z, q5Z, q6Z]
   refine tkZ 13 ?_ rfl ?_ ?_
   rotate_left
   ·intro W hSw; (try dsimp only at hSw); go_simp; (try with_reducible rfl)
   try simp only [Act.put, q1Z, q2Z, q3Z, q4Z, q5Z, q6Z]
   refine rdZ 15 rfl (fun K hK => ?_)
   refine step_store_blk rfl 53 (.tmp 8) (.tmp 60) rfl w1.heap.size 0 _ rfl rfl ((hzE.out w1.drew).mod hm2 (fun h => h)) (by simp) entry_size (by rfl) #[.int .i64 e1.o.c, .int .i64 e1.o.s, .int .i64 e1.o.k, .string (txt e1.o.acct), .string (txt e1.o.peer), .int .i64 e1.o.sum, .slice L0.a L0.n L0.c, .int .i64 e1.o.per, .int .i64 e1.o.hold, .string (txt e1.o.note), .bool false, .slice A2 0 c2] rfl ?_
   intro w3 hb3 hm3
   have hM3 := hM2.in_new (g := w1.heap.size) (Nat.le_refl _) hm3
   refine hK.out _ _ (hM3) (fun hHeld => ?_)
   clear hK K
   try simp only [Act.put, q1Z, q2Z, q3Z, q4Z, q5Z, q6Z]
   refine wpAnyH_done (by kernel_rfl) ?_ _
   clear hHeld hm2 hm3 hM2 hMa
   have hend := zH hM3
   clear hM3
   replace hb3 := zH hb3
   go_wp2_with fail
   all_goals go_meet
   exact ⟨w1.heap.size, A2, c2, rfl, hb3.out, hend.out⟩
 case rest =>
  obtain ⟨p, A2, c2, rfl, hbp, hmx⟩ := hcut
  have hM2 := zH (hM1.out.trans hmx)
  have hbm2 := hbm1.out.mod hmx (fun h => h)
  have hbs2 := zH (hb1.out.mod hmx (fun h => h))
  have m5x : wc.cell? ⟨w.heap.size, 5, none⟩ = some (.int .i64 0) := hbm2.cell_ rfl
  have lmx := hbm2.lt
  have sx1 := hmx.size
  clear hmx m5 s1 s2 kW
  replace hbp := zH hbp
  replace hbm2 := zH hbm2
  go_upto_region 8 with (first
   | (refine wpList_load_blk rfl 53 (.tmp 8) rfl p 0 rfl hbp.out [.int .i64 e1.o.c, .int .i64 e1.o.s, .int .i64 e1.o.k, .string (txt e1.o.acct), .string (txt e1.o.peer), .int .i64 e1.o.sum, .slice L0.a L0.n L0.c, .int .i64 e1.o.per, .int .i64 e1.o.hold, .string (txt e1.o.note), .bool false, .slice A2 0 c2] rfl Tryz.underlying53 rfl entry_size ?_)
   | (refine wpList_store_blk rfl 55 (.tmp 6) (.tmp 66) rfl (w.heap.size + 1) 0 _ rfl rfl hbs2.out (by simp) slot_size (by rfl) #[.int .i64 0, .int .i64 1, .int .i64 0, .int .i64 e1.o.c, .int .i64 e1.o.s, .int .i64 e1.o.k, .string (txt e1.o.acct), .string (txt e1.o.peer), .int .i64 e1.o.sum, .slice L0.a L0.n L0.c, .int .i64 e1.o.per, .int .i64 e1.o.hold, .string (txt e1.o.note), .bool false, .slice A2 0 c2] rfl ?_; intro w3 hb3 hm3; go_frame))
  have hM3 := zH (hM2.out.in_new (g := w.heap.size + 1) (by omega) hm3)
  have hr3 := hr1.out
  have hr3' := zH (h.out.mod0 hM3.out)
  have hbm3 := zH (hbm2.out.mod hm3 (fun e => by have e2 : w.heap.size = w.heap.size + 1 := e; omega))
  have hD2 : ((⟨A2, 0, c2⟩ : SV)).n = 0 := rfl
  have kK := zH (show Calls Tryz.prog 34 #[.pointer (some ⟨b.q, 0, none⟩), .agg #[.int .i64 i1.r, .int .i64 i1.n], .agg #[.int .i64 0, .int .i64 1, .int .i64 0, .int .i64 e1.o.c, .int .i64 e1.o.s, .int .i64 e1.o.k, .string (txt e1.o.acct), .string (txt e1.o.peer), .int .i64 e1.o.sum, .slice L0.a L0.n L0.c, .int .i64 e1.o.per, .int .i64 e1.o.hold, .string (txt e1.o.note), .bool false, .slice A2 0 c2]] w3 (KeepPost w3 col k b me 3 X (sl1 1 ⟨A2, 0, c2⟩)) from
   keep_ok w3 col k b me 3 X hr3'.out (sl1 1 ⟨A2, 0, c2⟩) (slZ i1) rfl (by show (1 : Int) ≠ 0; decide) (by show (findI X.S i1).getD _ = _; rw [hX.out.S]; rfl) (e1_mem w3 hD2) (ok1 hD2) nums1 (right1 _ (.inl rfl)) (by have := rec1_len ⟨A2, 0, c2⟩ (st := 1) (.inl rfl); have := hX.out.l; unfold RpW; omega) i1_in rfl rfl (by show (1 : Int) ≠ 0; decide) (by rw [hX.out.S]; decide))
  clear hm3 hr3 hD2
  replace hb3 := zH hb3
  go_wp2_with (first
   | (refine wpList_load_blk rfl 55 (.tmp 6) rfl (w.heap.size + 1) 0 rfl hb3.out [.int .i64 0, .int .i64 1, .int .i64 0, .int .i64 e1.o.c, .int .i64 e1.o.s, .int .i64 e1.o.k, .string (txt e1.o.acct), .string (txt e1.o.peer), .int .i64 e1.o.sum, .slice L0.a L0.n L0.c, .int .i64 e1.o.per, .int .i64 e1.o.hold, .string (txt e1.o.note), .bool false, .slice A2 0 c2] rfl Tryz.underlying55 rfl slot_size ?_)
   | (refine wpList_load_blk rfl 27 (.tmp 68) rfl w.heap.size 3 rfl hbm3.out [.int .i64 i1.r, .int .i64 i1.n] rfl Tryz.underlying27 rfl inst_size ?_))
  refine kK.out.mono ?_
  rintro e w4 ⟨rfl, A4, c4, s4, col4, hr4, hx4, hm4⟩
  dsimp only
  have hno : ∀ j, w.heap.size ≤ j → ¬ own col k j := fun j hj => by unfold own; rw [hcn.out j hj]; exact fun e => hk9 e.symm
  have hb4 := zH (hb3.out.mod hm4 (hno _ (by omega)))
  have hbm4 := zH (hbm3.out.mod hm4 (hno _ (Nat.le_refl _)))
  have hM4 := zH ((hM3.out.any (own col k)).trans hm4)
  have hX4 := zH (show Ext w col col4 from fun j hj => hx4 j (Nat.lt_of_lt_of_le hj hM3.out.size))
  have kB := zH (show Calls Tryz.prog 140 #[.pointer (some ⟨b.q, 0, none⟩), .agg #[.int .i64 1, .int .i64 me, .int .i64 1, .int .i64 i1.r, .int .i64 i1.n, .int .i64 0, .int .i64 0, .int .i64 0, .int .i64 e1.o.c, .int .i64 e1.o.s, .int .i64 e1.o.k, .string (txt e1.o.acct), .string (txt e1.o.peer), .int .i64 e1.o.sum, .slice L0.a L0.n L0.c, .int .i64 e1.o.per, .int .i64 e1.o.hold, .string (txt e1.o.note), .bool e1.none, .slice Dm.a Dm.n Dm.c], .int .i64 2, .agg #[.int .i64 0, .int .i64 1, .int .i64 0, .int .i64 e1.o.c, .int .i64 e1.o.s, .int .i64 e1.o.k, .string (txt e1.o.acct), .string (txt e1.o.peer), .int .i64 e1.o.sum, .slice L0.a L0.n L0.c, .int .i64 e1.o.per, .int .i64 e1.o.hold, .string (txt e1.o.note), .bool false, .slice A2 0 c2]] w4 _ from back_ok w4 b.q me (hr4.q.cell_ rfl) (ms1 1 me 1 0 Dm) 2 (sl1 1 ⟨A2, 0, c2⟩))
  clear hm4 hx4 kK hno
  replace hr4 := zH hr4
  go_wp2_with (first
   | (refine wpList_load_blk rfl 55 (.tmp 6) rfl (w.heap.size + 1) 0 rfl hb4.out [.int .i64 0, .int .i64 1, .int .i64 0, .int .i64 e1.o.c, .int .i64 e1.o.s, .int .i64 e1.o.k, .string (txt e1.o.acct), .string (txt e1.o.peer), .int .i64 e1.o.sum, .slice L0.a L0.n L0.c, .int .i64 e1.o.per, .int .i64 e1.o.hold, .string (txt e1.o.note), .bool false, .slice A2 0 c2] rfl Tryz.underlying55 rfl slot_size ?_)
   | (refine wpList_load_blk rfl 66 (.tmp 3) rfl w.heap.size 0 rfl hbm4.out [.int .i64 1, .int .i64 me, .int .i64 1, .int .i64 i1.r, .int .i64 i1.n, .int .i64 0, .int .i64 0, .int .i64 0, .int .i64 e1.o.c, .int .i64 e1.o.s, .int .i64 e1.o.k, .string (txt e1.o.acct), .string (txt e1.o.peer), .int .i64 e1.o.sum, .slice L0.a L0.n L0.c, .int .i64 e1.o.per, .int .i64 e1.o.hold, .string (txt e1.o.note), .bool e1.none, .slice Dm.a Dm.n Dm.c] rfl Tryz.underlying66 rfl msg_size ?_))
  refine kB.out.mono ?_
  rintro e w5 ⟨A5, c5, rfl, ho5, hf5, hm5⟩
  dsimp only
  replace ho5 := zH ho5
  replace hf5 := zH hf5
  replace hm5 := zH hm5
  go_wp2_with fail
  go_ret2
  have hX' := hX.out
  refine ⟨A5, c5, ⟨A2, 0, c2⟩, _, col4, rfl, rfl, ho5.out, hr4.out.mod0 hm5.out, ⟨?_, hX'.K, hX'.D, hX'.T, hX'.C, hX'.ln, hX'.lv, ?_⟩, hX'.Tl, hX'.Ld, rfl, hX4.out, hM4.out.trans (hm5.out.any _)⟩
  ·show putI' i1 _ X.S = _
   rw [hX'.S]; rfl
  ·show (X.l ++ logB [sl1 1 ⟨A2, 0, c2⟩]).length ≤ _
   have := rec1_len ⟨A2, 0, c2⟩ (st := 1) (.inl rfl)
   have := hX'.l
   rw [List.length_append]; omega
end Go.Proofs.YtfkfiokkjjnhiaaGreat
