import Derived.Test.YtfkfiokkjjnhiaaGreatUp28
import Derived.Test.YtfkfiokkjjnhiaaGreatUp13
import Derived.Test.YtfkfiokkjjnhiaaGreatUp17
set_option linter.unusedVariables false
set_option linter.unusedSimpArgs false
set_option maxHeartbeats 16000000
namespace Go.Proofs.YtfkfiokkjjnhiaaGreat
open Go.RowKit
def KeepPost (w : World) (col : Col) (k : Nat) (b : RpB) (me n : Int) (X : RpS) (x : Rs) (e : Ending) (w' : World) : Prop :=
 e = .returned (.int .i64 0) ∧ ∃ A c s col', RpM w' col' k b me n { X with S := putI' x.r.i (slV x) X.S, A := A, c := c, l := X.l ++ logB [x], s := s } ∧ Ext w col col' ∧ Mod (own col k) w w'
theorem rdR_one' (w : World) (x : Rs) (g : Nat) (hg : g = w.heap.size) : RdR (w.alloc (.cells #[.int .i64 x.r.i.r, .int .i64 x.r.i.n, .int .i64 x.r.bal, .int .i64 x.r.st, .int .i64 x.r.by_, .int .i64 x.r.e.o.c, .int .i64 x.r.e.o.s, .int .i64 x.r.e.o.k, .string (txt x.r.e.o.acct), .string (txt x.r.e.o.peer), .int .i64 x.r.e.o.sum, .slice x.L.a x.L.n x.L.c, .int .i64 x.r.e.o.per, .int .i64 x.r.e.o.hold, .string (txt x.r.e.o.note), .bool x.r.e.none, .slice x.D.a x.D.n x.D.c] 57)) (some ⟨g, 0, none⟩) 1 [x] :=
 rdn w 57 17 1 g #[.int .i64 x.r.i.r, .int .i64 x.r.i.n, .int .i64 x.r.bal, .int .i64 x.r.st, .int .i64 x.r.by_, .int .i64 x.r.e.o.c, .int .i64 x.r.e.o.s, .int .i64 x.r.e.o.k, .string (txt x.r.e.o.acct), .string (txt x.r.e.o.peer), .int .i64 x.r.e.o.sum, .slice x.L.a x.L.n x.L.c, .int .i64 x.r.e.o.per, .int .i64 x.r.e.o.hold, .string (txt x.r.e.o.note), .bool x.r.e.none, .slice x.D.a x.D.n x.D.c] (0, 0) hg rfl
set_option maxRecDepth 100000
theorem zeroSl_run (w : World) : (zeroValue 55).run Tryz.prog w = .ok (slV (slZ i1)) w := by rfl
theorem keep_ok (w : World) (col : Col) (k : Nat) (b : RpB) (me n : Int) (X : RpS) (h : RpM w col k b me n X) (x y : Rs) (hi : y.r.i = x.r.i) (hst : x.r.st ≠ y.r.st)
  (hget : (findI X.S x.r.i).getD (slV (slZ i1)) = slV y) (hx : EnM w x.r.e x.L x.D) (okx : RsOk x) (hnx : numsE x.r.e) (hr : rightR x.r = true) (hroom : X.l.length + (logB [x]).length ≤ RpW) (hin : inI x.r.i)
  (hno : x.r.e.none = false) (hyn : y.r.e.none = false) (hs0 : x.r.st ≠ 0) (hlen : X.S.length + 1 < maxLen) :
  Calls Tryz.prog 34 #[.pointer (some ⟨b.q, 0, none⟩), .agg #[.int .i64 x.r.i.r, .int .i64 x.r.i.n], .agg #[.int .i64 x.r.bal, .int .i64 x.r.st, .int .i64 x.r.by_, .int .i64 x.r.e.o.c, .int .i64 x.r.e.o.s, .int .i64 x.r.e.o.k, .string (txt x.r.e.o.acct), .string (txt x.r.e.o.peer), .int .i64 x.r.e.o.sum, .slice x.L.a x.L.n x.L.c, .int .i64 x.r.e.o.per, .int .i64 x.r.e.o.hold, .string (txt x.r.e.o.note), .bool x.r.e.none, .slice x.D.a x.D.n x.D.c]] w (KeepPost w col k b me n X x) := by
 obtain ⟨⟨yi, yb, ys, yy, ye⟩, yL, yD⟩ := y
 dsimp only at hi hst hyn
 subst hi
 have hq := h.q.lt
 have hb0 := zH (Blk.new w 27 #[.int .i64 x.r.i.r, .int .i64 x.r.i.n])
 have q0 : w.cell? ⟨b.q, 0, none⟩ = some (.int .i64 me) := h.q.cell_ rfl
 obtain ⟨w0, hw0⟩ : ∃ w0, w0 = ((w.alloc (.cells #[.int .i64 x.r.i.r, .int .i64 x.r.i.n] 27)).alloc (.cells #[.int .i64 x.r.bal, .int .i64 x.r.st, .int .i64 x.r.by_, .int .i64 x.r.e.o.c, .int .i64 x.r.e.o.s, .int .i64 x.r.e.o.k, .string (txt x.r.e.o.acct), .string (txt x.r.e.o.peer), .int .i64 x.r.e.o.sum, .slice x.L.a x.L.n x.L.c, .int .i64 x.r.e.o.per, .int .i64 x.r.e.o.hold, .string (txt x.r.e.o.note), .bool x.r.e.none, .slice x.D.a x.D.n x.D.c] 55)) := ⟨_, rfl⟩
 have hs0w : w0.heap.size = w.heap.size + 2 := by rw [hw0]; simp
 have hm0 : Mod none_ w w0 := by rw [hw0]; exact ((Mod.refl none_ w).alloc _).alloc _
 have hbi : Blk w0 w.heap.size 27 #[.int .i64 x.r.i.r, .int .i64 x.r.i.n] := by rw [hw0]; exact (Blk.new w _ _).alloc _
 have hbs : Blk w0 (w.heap.size + 1) 55 #[.int .i64 x.r.bal, .int .i64 x.r.st, .int .i64 x.r.by_, .int .i64 x.r.e.o.c, .int .i64 x.r.e.o.s, .int .i64 x.r.e.o.k, .string (txt x.r.e.o.acct), .string (txt x.r.e.o.peer), .int .i64 x.r.e.o.sum, .slice x.L.a x.L.n x.L.c, .int .i64 x.r.e.o.per, .int .i64 x.r.e.o.hold, .string (txt x.r.e.o.note), .bool x.r.e.none, .slice x.D.a x.D.n x.D.c] := by
  have := Blk.new (w.alloc (.cells #[.int .i64 x.r.i.r, .int .i64 x.r.i.n] 27)) 55 #[.int .i64 x.r.bal, .int .i64 x.r.st, .int .i64 x.r.by_, .int .i64 x.r.e.o.c, .int .i64 x.r.e.o.s, .int .i64 x.r.e.o.k, .string (txt x.r.e.o.acct), .string (txt x.r.e.o.peer), .int .i64 x.r.e.o.sum, .slice x.L.a x.L.n x.L.c, .int .i64 x.r.e.o.per, .int .i64 x.r.e.o.hold, .string (txt x.r.e.o.note), .bool x.r.e.none, .slice x.D.a x.D.n x.D.c]
  rw [hw0]; simpa using this
 have hz := zH (Blk.new w0 57 #[.int .i64 0, .int .i64 0, .int .i64 0, .int .i64 0, .int .i64 0, .int .i64 0, .int .i64 0, .int .i64 0, .string ⟨#[]⟩, .string ⟨#[]⟩, .int .i64 0, .slice none 0 0, .int .i64 0, .int .i64 0, .string ⟨#[]⟩, .bool false, .slice none 0 0])
 rw [hs0w] at hz
 have hbi' := hbi.alloc (.cells #[.int .i64 0, .int .i64 0, .int .i64 0, .int .i64 0, .int .i64 0, .int .i64 0, .int .i64 0, .int .i64 0, .string ⟨#[]⟩, .string ⟨#[]⟩, .int .i64 0, .slice none 0 0, .int .i64 0, .int .i64 0, .string ⟨#[]⟩, .bool false, .slice none 0 0] 57)
 have hbs' := hbs.alloc (.cells #[.int .i64 0, .int .i64 0, .int .i64 0, .int .i64 0, .int .i64 0, .int .i64 0, .int .i64 0, .int .i64 0, .string ⟨#[]⟩, .string ⟨#[]⟩, .int .i64 0, .slice none 0 0, .int .i64 0, .int .i64 0, .string ⟨#[]⟩, .bool false, .slice none 0 0] 57)
 have hM0' := hm0.alloc (.cells #[.int .i64 0, .int .i64 0, .int .i64 0, .int .i64 0, .int .i64 0, .int .i64 0, .int .i64 0, .int .i64 0, .string ⟨#[]⟩, .string ⟨#[]⟩, .int .i64 0, .slice none 0 0, .int .i64 0, .int .i64 0, .string ⟨#[]⟩, .bool false, .slice none 0 0] 57)
 have li := hbi.lt
 have ls := hbs.lt
 have hbi_0 := hbi.cell_ (i := 0) rfl
 have hbi_1 := hbi.cell_ (i := 1) rfl
 have hbs_0 := hbs.cell_ (i := 0) rfl
 have hbs_1 := hbs.cell_ (i := 1) rfl
 have hbs_2 := hbs.cell_ (i := 2) rfl
 have hbs_3 := hbs.cell_ (i := 3) rfl
 have hbs_4 := hbs.cell_ (i := 4) rfl
 have hbs_5 := hbs.cell_ (i := 5) rfl
 have hbs_6 := hbs.cell_ (i := 6) rfl
 have hbs_7 := hbs.cell_ (i := 7) rfl
 have hbs_8 := hbs.cell_ (i := 8) rfl
 have hbs_9 := hbs.cell_ (i := 9) rfl
 have hbs_10 := hbs.cell_ (i := 10) rfl
 have hbs_11 := hbs.cell_ (i := 11) rfl
 have hbs_12 := hbs.cell_ (i := 12) rfl
 have hbs_13 := hbs.cell_ (i := 13) rfl
 have hbs_14 := hbs.cell_ (i := 14) rfl
 replace h := zH h
 replace hx := zH hx
 replace hget := zH hget
 replace okx := zH okx
 replace hnx := zH hnx
 replace hroom := zH hroom
 replace hno := zH hno
 replace hyn := zH hyn
 replace hst := zH hst
 replace hin := zH hin
 replace hr := zH hr
 replace hbi' := zH hbi'
 replace hbs' := zH hbs'
 replace hM0' := zH hM0'
 replace hm0 := zH hm0
 replace hbi := zH hbi
 replace hbs := zH hbs
 go_enter Tryz.func34, Tryz.ntmps34
 go_upto_region 1 with fail
 rw [← hw0]
 replace hw0 := zH hw0
 go_upto_region 2 with ((refine wpList_store_blk rfl 57 (.tmp 7) (.tmp 13) rfl (w.heap.size + 2) 0 _ rfl rfl hz.out (by simp) rc_size (by rfl) #[.int .i64 x.r.i.r, .int .i64 x.r.i.n, .int .i64 x.r.bal, .int .i64 x.r.st, .int .i64 x.r.by_, .int .i64 x.r.e.o.c, .int .i64 x.r.e.o.s, .int .i64 x.r.e.o.k, .string (txt x.r.e.o.acct), .string (txt x.r.e.o.peer), .int .i64 x.r.e.o.sum, .slice x.L.a x.L.n x.L.c, .int .i64 x.r.e.o.per, .int .i64 x.r.e.o.hold, .string (txt x.r.e.o.note), .bool x.r.e.none, .slice x.D.a x.D.n x.D.c] rfl ?_; intro w1 hb1 hm1; go_frame))
 have hm1' := hM0'.out.in_new (by have := hm0.out.size; omega) hm1
 have hM1 := hM0'.out.in_new (g := w.heap.size + 2) (by have := hm0.out.size; omega) hm1
 have hbi1 := hbi'.out.mod hm1 (fun e => by have e2 : w.heap.size = w.heap.size + 2 := e; omega)
 have hbs1 := hbs'.out.mod hm1 (fun e => by have e2 : w.heap.size + 1 = w.heap.size + 2 := e; omega)
 have h1 := zH (h.out.mod0 hM1)
 have hst' := zH (show x.r.st ≠ ys from hst.out)
 clear hm1 hm1' hbi' hbs' hM0' hz hbi_0 hbi_1 hbs_0 hbs_1 hbs_2 hbs_3 hbs_4 hbs_5 hbs_6 hbs_7 hbs_8 hbs_9 hbs_10 hbs_11 hbs_12 hbs_13 hbs_14
 replace hM1 := zH hM1
 replace hbi1 := zH hbi1
 replace hbs1 := zH hbs1
 replace hb1 := zH hb1
 go_cut [25] from 14 to 25 (fun s wx => s = .bool false ∧ Mod none_ w1 wx)
 case first =>
  have hq1 := zH h1.out.q
  have hsl := zH h1.out.sl
  have ha1 := ((Mod.refl none_ w1).drew.alloc (.cells #[.int .i64 x.r.i.r, .int .i64 x.r.i.n, .int .i64 x.r.bal, .int .i64 x.r.st, .int .i64 x.r.by_, .int .i64 x.r.e.o.c, .int .i64 x.r.e.o.s, .int .i64 x.r.e.o.k, .string (txt x.r.e.o.acct), .string (txt x.r.e.o.peer), .int .i64 x.r.e.o.sum, .slice x.L.a x.L.n x.L.c, .int .i64 x.r.e.o.per, .int .i64 x.r.e.o.hold, .string (txt x.r.e.o.note), .bool x.r.e.none, .slice x.D.a x.D.n x.D.c] 57))
  have hb1' := ((Mod.refl none_ w1).drew.alloc (.cells #[.int .i64 x.r.i.r, .int .i64 x.r.i.n, .int .i64 yb, .int .i64 ys, .int .i64 yy, .int .i64 ye.o.c, .int .i64 ye.o.s, .int .i64 ye.o.k, .string (txt ye.o.acct), .string (txt ye.o.peer), .int .i64 ye.o.sum, .slice yL.a yL.n yL.c, .int .i64 ye.o.per, .int .i64 ye.o.hold, .string (txt ye.o.note), .bool ye.none, .slice yD.a yD.n yD.c] 57))
  refine wp_region_held_drew (S := fun W => Mod none_ w1 W) (by kernel_rfl) (Mod.refl none_ w1).drew (fun hHeld => ?_)
  refine wpAnyH_take (i := 0) rfl (by kernel_rfl) (by kernel_rfl) (by kernel_rfl) (fun _ _ _ h => h) (yieldsIf_load_mid (by rfl) 57 (.tmp 7) rfl (w.heap.size + 2) 0 rfl [.int .i64 x.r.i.r, .int .i64 x.r.i.n, .int .i64 x.r.bal, .int .i64 x.r.st, .int .i64 x.r.by_, .int .i64 x.r.e.o.c, .int .i64 x.r.e.o.s, .int .i64 x.r.e.o.k, .string (txt x.r.e.o.acct), .string (txt x.r.e.o.peer), .int .i64 x.r.e.o.sum, .slice x.L.a x.L.n x.L.c, .int .i64 x.r.e.o.per, .int .i64 x.r.e.o.hold, .string (txt x.r.e.o.note), .bool x.r.e.none, .slice x.D.a x.D.n x.D.c] _ (fun W hW => Blk.range (hb1.out.mod hW (fun h => h)) 0 _ rfl) Tryz.underlying57 rfl rc_size) (by assumption) ?_
  try simp only [Act.put, q1Z, q2Z, q3Z, q4Z, q5Z, q6Z]
  refine wpAnyH_take (i := 2) rfl (by kernel_rfl) (by kernel_rfl) (by kernel_rfl) (fun _ _ _ h => h) (yieldsIf_load_mid (by rfl) 27 (.tmp 4) rfl w.heap.size 0 rfl [.int .i64 x.r.i.r, .int .i64 x.r.i.n] _ (fun W hW => Blk.range (hbi1.out.mod hW (fun h => h)) 0 _ rfl) Tryz.underlying27 rfl inst_size) (by assumption) ?_
  try simp only [Act.put, q1Z, q2Z, q3Z, q4Z, q5Z, q6Z]
  refine tkZ 3 ?_ rfl ?_ ?_
  rotate_left
  ·intro W hSw; (try dsimp only at hSw); go_simp; (try with_reducible rfl)
  try simp only [Act.put, q1Z, q2Z, q3Z, q4Z, q5Z, q6Z]
  refine tkZ 4 ?_ rfl ?_ ?_
  rotate_left
  ·intro W hSw; (try dsimp only at hSw); go_simp; (try with_reducible rfl)
  try simp only [Act.put, q1Z, q2Z, q3Z, q4Z, q5Z, q6Z]
  refine tkZ 5 ?_ rfl ?_ ?_
  rotate_left
  ·intro W hSw; (try dsimp only at hSw); go_simp; (try with_reducible rfl)
  try simp only [Act.put, q1Z, q2Z, q3Z, q4Z, q5Z, q6Z]
  refine tkZ 6 ?_ rfl ?_ ?_
  rotate_left
  ·intro W hSw; have c3 := (hq1.out.mod hSw (fun h => h)).cell_ (i := 3) rfl; go_simp; (try with_reducible rfl)
  try simp only [Act.put, q1Z, q2Z, q3Z, q4Z, q5Z, q6Z]
  refine wpAnyH_take (i := 7) rfl (by kernel_rfl) (by kernel_rfl) (by kernel_rfl) (fun _ _ _ h => h) (yieldsIf_load_mid (by rfl) 27 (.tmp 4) rfl w.heap.size 0 rfl [.int .i64 x.r.i.r, .int .i64 x.r.i.n] _ (fun W hW => Blk.range (hbi1.out.mod hW (fun h => h)) 0 _ rfl) Tryz.underlying27 rfl inst_size) (by assumption) ?_
  try simp only [Act.put, q1Z, q2Z, q3Z, q4Z, q5Z, q6Z]
  refine tkZ 8 ?_ rfl ?_ ?_
  rotate_left
  ·intro W hSw; have lk := (hsl.out.mod hSw (fun h => h)).get_run (t := 82) Tryz.underlying82 (zeroSl_run _) hin.out; rw [hget.out] at lk; unfold slV isVal at lk; go_simp; (try with_reducible rfl)
  try simp only [Act.put, q1Z, q2Z, q3Z, q4Z, q5Z, q6Z]
  refine tkZ 9 ?_ rfl ?_ ?_
  rotate_left
  ·intro W hSw; (try dsimp only at hSw); go_simp; (try with_reducible rfl)
  try simp only [Act.put, q1Z, q2Z, q3Z, q4Z, q5Z, q6Z]
  refine wpAnyH_ready (rs := [1, 10]) (by kernel_rfl) (by simp) ?_
  refine AllReadyH.cons rfl (fun K hK => ?_) (AllReadyH.cons rfl (fun K hK => ?_) AllReadyH.nil)
  focus
   have hab := ha1.alloc (.cells #[.int .i64 x.r.i.r, .int .i64 x.r.i.n, .int .i64 yb, .int .i64 ys, .int .i64 yy, .int .i64 ye.o.c, .int .i64 ye.o.s, .int .i64 ye.o.k, .string (txt ye.o.acct), .string (txt ye.o.peer), .int .i64 ye.o.sum, .slice yL.a yL.n yL.c, .int .i64 ye.o.per, .int .i64 ye.o.hold, .string (txt ye.o.note), .bool ye.none, .slice yD.a yD.n yD.c] 57)
   have r1 := rdR_one' w1.drew x w1.heap.size rfl
   have r2 := rdR_one' (w1.drew.alloc (.cells #[.int .i64 x.r.i.r, .int .i64 x.r.i.n, .int .i64 x.r.bal, .int .i64 x.r.st, .int .i64 x.r.by_, .int .i64 x.r.e.o.c, .int .i64 x.r.e.o.s, .int .i64 x.r.e.o.k, .string (txt x.r.e.o.acct), .string (txt x.r.e.o.peer), .int .i64 x.r.e.o.sum, .slice x.L.a x.L.n x.L.c, .int .i64 x.r.e.o.per, .int .i64 x.r.e.o.hold, .string (txt x.r.e.o.note), .bool x.r.e.none, .slice x.D.a x.D.n x.D.c] 57)) ⟨⟨x.r.i, yb, ys, yy, ye⟩, yL, yD⟩ (w1.heap.size + 1) (by simp)
   have kS := zH (logSame_ne _ _ _ 1 1 x ⟨⟨x.r.i, yb, ys, yy, ye⟩, yL, yD⟩ (Rd.alloc r1 _) r2 rfl hst'.out)
   replace r1 := zH r1
   replace r2 := zH r2
   go_simp
   refine hK.out _ _ (ha1) (fun hHeld => ?_)
   clear hK K
   try simp only [Act.put, q1Z, q2Z, q3Z, q4Z, q5Z, q6Z]
   refine rdZ 10 rfl (fun K hK => ?_)
   go_simp
   refine hK.out _ _ (hab) (fun hHeld => ?_)
   clear hK K
   try simp only [Act.put, q1Z, q2Z, q3Z, q4Z, q5Z, q6Z]
   refine rdZ 11 rfl (fun K hK => ?_)
   go_simp
   refine kS.out.mono ?_
   rintro e w2 ⟨rfl, hm2⟩
   dsimp only
   refine hK.out _ _ ((hab.trans hm2)) (fun hHeld => ?_)
   clear hK K
   try simp only [Act.put, q1Z, q2Z, q3Z, q4Z, q5Z, q6Z]
   refine wpAnyH_done (by kernel_rfl) ?_ _
   clear hHeld
   have hend := zH (hab.trans hm2)
   clear hm2 hab
   go_wp2_with fail
   all_goals go_meet
   exact ⟨rfl, hend.out⟩
  focus
   have hab := hb1'.alloc (.cells #[.int .i64 x.r.i.r, .int .i64 x.r.i.n, .int .i64 x.r.bal, .int .i64 x.r.st, .int .i64 x.r.by_, .int .i64 x.r.e.o.c, .int .i64 x.r.e.o.s, .int .i64 x.r.e.o.k, .string (txt x.r.e.o.acct), .string (txt x.r.e.o.peer), .int .i64 x.r.e.o.sum, .slice x.L.a x.L.n x.L.c, .int .i64 x.r.e.o.per, .int .i64 x.r.e.o.hold, .string (txt x.r.e.o.note), .bool x.r.e.none, .slice x.D.a x.D.n x.D.c] 57)
   have r2 := rdR_one' w1.drew ⟨⟨x.r.i, yb, ys, yy, ye⟩, yL, yD⟩ w1.heap.size rfl
   have r1 := rdR_one' (w1.drew.alloc (.cells #[.int .i64 x.r.i.r, .int .i64 x.r.i.n, .int .i64 yb, .int .i64 ys, .int .i64 yy, .int .i64 ye.o.c, .int .i64 ye.o.s, .int .i64 ye.o.k, .string (txt ye.o.acct), .string (txt ye.o.peer), .int .i64 ye.o.sum, .slice yL.a yL.n yL.c, .int .i64 ye.o.per, .int .i64 ye.o.hold, .string (txt ye.o.note), .bool ye.none, .slice yD.a yD.n yD.c] 57)) x (w1.heap.size + 1) (by simp)
   have kS := zH (logSame_ne _ _ _ 1 1 x ⟨⟨x.r.i, yb, ys, yy, ye⟩, yL, yD⟩ r1 (Rd.alloc r2 _) rfl hst'.out)
   replace r1 := zH r1
   replace r2 := zH r2
   go_simp
   refine hK.out _ _ (hb1') (fun hHeld => ?_)
   clear hK K
   try simp only [Act.put, q1Z, q2Z, q3Z, q4Z, q5Z, q6Z]
   refine rdZ 1 rfl (fun K hK => ?_)
   go_simp
   refine hK.out _ _ (hab) (fun hHeld => ?_)
   clear hK K
   try simp only [Act.put, q1Z, q2Z, q3Z, q4Z, q5Z, q6Z]
   refine rdZ 11 rfl (fun K hK => ?_)
   go_simp
   refine kS.out.mono ?_
   rintro e w2 ⟨rfl, hm2⟩
   dsimp only
   refine hK.out _ _ ((hab.trans hm2)) (fun hHeld => ?_)
   clear hK K
   try simp only [Act.put, q1Z, q2Z, q3Z, q4Z, q5Z, q6Z]
   refine wpAnyH_done (by kernel_rfl) ?_ _
   clear hHeld
   have hend := zH (hab.trans hm2)
   clear hm2 hab
   go_wp2_with fail
   all_goals go_meet
   exact ⟨rfl, hend.out⟩
 case rest =>
  obtain ⟨rfl, hmx⟩ := hcut
  have hMx := zH (hM1.out.trans hmx)
  have hbi2 := zH (hbi1.out.mod hmx (fun h => h))
  have hbs2 := zH (hbs1.out.mod hmx (fun h => h))
  have hb2 := zH (hb1.out.mod hmx (fun h => h))
  have h2 := zH (h1.out.mod0 hmx)
  have hM1w := zH (show w.heap.size + 3 ≤ wc.heap.size from by have := hb2.out.lt; have := hMx.out.size; omega)
  clear hbi1 hbs1 hb1 h1 hM1
  replace hmx := zH hmx
  go_upto_region 4 with fail
  have hlx : RsL (wc.alloc (.cells #[.int .i64 x.r.i.r, .int .i64 x.r.i.n, .int .i64 x.r.bal, .int .i64 x.r.st, .int .i64 x.r.by_, .int .i64 x.r.e.o.c, .int .i64 x.r.e.o.s, .int .i64 x.r.e.o.k, .string (txt x.r.e.o.acct), .string (txt x.r.e.o.peer), .int .i64 x.r.e.o.sum, .slice x.L.a x.L.n x.L.c, .int .i64 x.r.e.o.per, .int .i64 x.r.e.o.hold, .string (txt x.r.e.o.note), .bool x.r.e.none, .slice x.D.a x.D.n x.D.c] 57)).drew (some ⟨wc.heap.size, 0, none⟩) 1 [x] :=
   ⟨rdR_one wc x, fun z hz => by rw [List.mem_singleton.1 hz]; exact (hx.out.mod0 hMx.out).mod0 (((Mod.refl none_ wc).alloc _).drew), fun z hz => by rw [List.mem_singleton.1 hz]; exact okx.out, fun z hz => by rw [List.mem_singleton.1 hz]; exact hnx.out⟩
  have kP := zH (put_ok _ b.dk X.A X.c X.l X.s RpW (h2.out.dk.mod0 (((Mod.refl none_ wc).alloc (.cells #[.int .i64 x.r.i.r, .int .i64 x.r.i.n, .int .i64 x.r.bal, .int .i64 x.r.st, .int .i64 x.r.by_, .int .i64 x.r.e.o.c, .int .i64 x.r.e.o.s, .int .i64 x.r.e.o.k, .string (txt x.r.e.o.acct), .string (txt x.r.e.o.peer), .int .i64 x.r.e.o.sum, .slice x.L.a x.L.n x.L.c, .int .i64 x.r.e.o.per, .int .i64 x.r.e.o.hold, .string (txt x.r.e.o.note), .bool x.r.e.none, .slice x.D.a x.D.n x.D.c] 57)).drew)) (some ⟨wc.heap.size, 0, none⟩) 1 1 [x] hlx (by omega))
  clear hlx
  have hF : Off wc col k [1, 2] (dkf b.dk X.A) := Off.or (Off.one h2.out.lies (by simp [RpB.all])) (Off.arr h2.out.da)
  have hS0 : Mod (dkf b.dk X.A) wc wc.drew := (Mod.refl _ _).drew
  have hFn : ∀ j, dkf b.dk X.A j → j < w.heap.size := h.out.dk.lt
  have hqn : ¬ dkf b.dk X.A b.q := hF.nf h2.out.lies (c := 0) (by simp [RpB.all]) (by decide)
  have hq2 := zH h2.out.q
  refine wp_region_held_drew (S := fun W => Mod (dkf b.dk X.A) wc W) (by kernel_rfl) hS0 (fun hHeld => ?_)
  replace hF := zH hF
  replace hFn := zH hFn
  replace hqn := zH hqn
  replace hS0 := zH hS0
  refine tkZ 0 ?_ rfl ?_ ?_
  rotate_left
  ·intro W hSw; (try dsimp only at hSw); go_simp; (try with_reducible rfl)
  try simp only [Act.put, q1Z, q2Z, q3Z, q4Z, q5Z, q6Z]
  refine tkZ 1 ?_ rfl ?_ ?_
  rotate_left
  ·intro W hSw; (try dsimp only at hSw); go_simp; (try with_reducible rfl)
  try simp only [Act.put, q1Z, q2Z, q3Z, q4Z, q5Z, q6Z]
  refine tkZ 2 ?_ rfl ?_ ?_
  rotate_left
  ·intro W hSw; (try dsimp only at hSw); go_simp; (try with_reducible rfl)
  try simp only [Act.put, q1Z, q2Z, q3Z, q4Z, q5Z, q6Z]
  refine tkZ 3 ?_ rfl ?_ ?_
  rotate_left
  ·intro W hSw; have c3 := (hq2.out.mod hSw hqn.out).cell_ (i := 2) rfl; go_simp; (try with_reducible rfl)
  try simp only [Act.put, q1Z, q2Z, q3Z, q4Z, q5Z, q6Z]
  refine wpAnyH_take (i := 4) rfl (by kernel_rfl) (by kernel_rfl) (by kernel_rfl) (fun _ _ _ h => h) (yieldsIf_load_mid (by rfl) 57 (.tmp 7) rfl (w.heap.size + 2) 0 rfl [.int .i64 x.r.i.r, .int .i64 x.r.i.n, .int .i64 x.r.bal, .int .i64 x.r.st, .int .i64 x.r.by_, .int .i64 x.r.e.o.c, .int .i64 x.r.e.o.s, .int .i64 x.r.e.o.k, .string (txt x.r.e.o.acct), .string (txt x.r.e.o.peer), .int .i64 x.r.e.o.sum, .slice x.L.a x.L.n x.L.c, .int .i64 x.r.e.o.per, .int .i64 x.r.e.o.hold, .string (txt x.r.e.o.note), .bool x.r.e.none, .slice x.D.a x.D.n x.D.c] _ (fun W hW => Blk.range (hb2.out.mod hW (fun h => by have := hFn.out _ h; omega)) 0 _ rfl) Tryz.underlying57 rfl rc_size) (by assumption) ?_
  try simp only [Act.put, q1Z, q2Z, q3Z, q4Z, q5Z, q6Z]
  refine rdZ 5 rfl (fun K hK => ?_)
  go_simp
  refine hK.out _ _ ((((Mod.refl _ _).drew).alloc _)) (fun hHeld => ?_)
  clear hK K
  try simp only [Act.put, q1Z, q2Z, q3Z, q4Z, q5Z, q6Z]
  refine rdZ 6 rfl (fun K hK => ?_)
  go_simp
  refine kP.out.mono ?_
  rintro e w3 ⟨A3, c3, a3, l3, s3, rfl, hput, hd3, hnw3, hm3⟩
  dsimp only
  refine hK.out _ _ ((((Mod.refl _ wc).drew.alloc _).trans hm3)) (fun hHeld => ?_)
  clear hK K
  try simp only [Act.put, q1Z, q2Z, q3Z, q4Z, q5Z, q6Z]
  have hput' : a3 = 0 ∧ l3 = X.l ++ logB [x] := by
   unfold putR at hput
   rw [if_pos (by simp [RtR, hr.out]), if_neg (by simp), if_pos hroom.out] at hput
   simp only [Prod.mk.injEq] at hput
   exact ⟨hput.1.symm, hput.2.1.symm⟩
  obtain ⟨rfl, rfl⟩ := hput'
  refine rdZ 7 rfl (fun K hK => ?_)
  go_simp
  refine hK.out _ _ ((((Mod.refl _ wc).drew.alloc _).trans hm3)) (fun hHeld => ?_)
  clear hK K
  try simp only [Act.put, q1Z, q2Z, q3Z, q4Z, q5Z, q6Z]
  refine wpAnyH_done (by kernel_rfl) ?_ _
  clear hHeld
  have hm3' := (((Mod.refl (dkf b.dk X.A) wc).drew.alloc _).trans hm3)
  have hb2' := h2.out.ext (tint_ext wc col (k, 2))
  have harr : Arr w3 (tint wc col (k, 2)) k 2 A3 := by
   intro j hj
   refine ⟨hd3.lt j (.inr hj), ?_⟩
   rcases hnw3 with rfl | hnw3
   ·exact (hb2'.da j hj).2
   ·obtain ⟨a, ha, rfl⟩ := hj
    have h9 := hnw3 a ha
    exact tint_new (by simp at h9; omega)
  have h3 := zH (hb2'.set_dk hm3' (Off.or (Off.one hb2'.lies (by simp [RpB.all])) (Off.arr hb2'.da)) hd3 harr)
  have hm3w : Mod (own col k) w w3 := hMx.out.any _ |>.trans (hm3'.mono (fun j hj => by
   rcases hj with rfl | hj
   ·exact own_one h2.out.lies (c := 1) (by simp [RpB.all]) _ rfl
   ·exact own_arr h2.out.da j hj))
  have hbi3 := hbi2.out.mod hm3' (fun hh => by have := hFn.out _ hh; omega)
  have hbs3 := hbs2.out.mod hm3' (fun hh => by have := hFn.out _ hh; omega)
  have hext := zH ((tint_ext wc col (k, 2)))
  have hcol : Ext w col (tint wc col (k, 2)) := fun j hj => tint_ext wc col (k, 2) j (Nat.lt_of_lt_of_le hj hMx.out.size)
  obtain ⟨c', hc'⟩ : ∃ c', tint wc col (k, 2) = c' := ⟨_, rfl⟩
  rw [hc'] at h3 hcol
  have hsw3 : w.heap.size + 3 ≤ w3.heap.size := Nat.le_trans hM1w.out hm3'.size
  clear hb2' harr hm3 hm3' hd3 hnw3 hput kP hb2 hbi2 hbs2 h2 hMx hmx hq2 hS0 hqn hext hc' hF hst'
  have hq3 := h3.out.q
  have hsl3 := h3.out.sl
  have hql3 := hq3.lt
  have hbi3l := hbi3.lt
  replace hq3 := zH hq3
  replace hsl3 := zH hsl3
  replace hbi3 := zH hbi3
  replace hbs3 := zH hbs3
  replace hm3w := zH hm3w
  replace hcol := zH hcol
  go_upto_region 7 with fail
  have hzs := zH (Blk.new w3.drew 55 #[.int .i64 0, .int .i64 0, .int .i64 0, .int .i64 0, .int .i64 0, .int .i64 0, .string ⟨#[]⟩, .string ⟨#[]⟩, .int .i64 0, .slice none 0 0, .int .i64 0, .int .i64 0, .string ⟨#[]⟩, .bool false, .slice none 0 0])
  have hma := zH ((Mod.refl none_ w3).drew.alloc (.cells #[.int .i64 0, .int .i64 0, .int .i64 0, .int .i64 0, .int .i64 0, .int .i64 0, .string ⟨#[]⟩, .string ⟨#[]⟩, .int .i64 0, .slice none 0 0, .int .i64 0, .int .i64 0, .string ⟨#[]⟩, .bool false, .slice none 0 0] 55))
  refine wp_region_held_drew (S := fun W => Mod none_ w3 W) (by kernel_rfl) (Mod.refl none_ w3).drew (fun hHeld => ?_)
  refine tkZ 0 ?_ rfl ?_ ?_
  rotate_left
  ·intro W hSw; (try dsimp only at hSw); go_simp; (try with_reducible rfl)
  try simp only [Act.put, q1Z, q2Z, q3Z, q4Z, q5Z, q6Z]
  refine tkZ 1 ?_ rfl ?_ ?_
  rotate_left
  ·intro W hSw; (try dsimp only at hSw); go_simp; (try with_reducible rfl)
  try simp only [Act.put, q1Z, q2Z, q3Z, q4Z, q5Z, q6Z]
  refine tkZ 2 ?_ rfl ?_ ?_
  rotate_left
  ·intro W hSw; (try dsimp only at hSw); go_simp; (try with_reducible rfl)
  try simp only [Act.put, q1Z, q2Z, q3Z, q4Z, q5Z, q6Z]
  refine tkZ 3 ?_ rfl ?_ ?_
  rotate_left
  ·intro W hSw; have c3 := (hq3.out.mod hSw (fun h => h)).cell_ (i := 3) rfl; go_simp; (try with_reducible rfl)
  try simp only [Act.put, q1Z, q2Z, q3Z, q4Z, q5Z, q6Z]
  refine wpAnyH_take (i := 4) rfl (by kernel_rfl) (by kernel_rfl) (by kernel_rfl) (fun _ _ _ h => h) (yieldsIf_load_mid (by rfl) 27 (.tmp 4) rfl w.heap.size 0 rfl [.int .i64 x.r.i.r, .int .i64 x.r.i.n] _ (fun W hW => Blk.range (hbi3.out.mod hW (fun h => h)) 0 _ rfl) Tryz.underlying27 rfl inst_size) (by assumption) ?_
  try simp only [Act.put, q1Z, q2Z, q3Z, q4Z, q5Z, q6Z]
  refine tkZ 5 ?_ rfl ?_ ?_
  rotate_left
  ·intro W hSw; have lk := (hsl3.out.mod hSw (fun h => h)).get_run (t := 82) Tryz.underlying82 (zeroSl_run _) hin.out; rw [hget.out] at lk; unfold slV isVal at lk; go_simp; (try with_reducible rfl)
  try simp only [Act.put, q1Z, q2Z, q3Z, q4Z, q5Z, q6Z]
  refine rdZ 6 rfl (fun K hK => ?_)
  go_simp
  refine hK.out _ _ (hma.out) (fun hHeld => ?_)
  clear hK K
  try simp only [Act.put, q1Z, q2Z, q3Z, q4Z, q5Z, q6Z]
  refine rdZ 7 rfl (fun K hK => ?_)
  refine step_store_blk rfl 55 (.tmp 9) (.tmp 41) rfl w3.heap.size 0 _ rfl rfl hzs.out (by simp) slot_size (by rfl) #[.int .i64 yb, .int .i64 ys, .int .i64 yy, .int .i64 ye.o.c, .int .i64 ye.o.s, .int .i64 ye.o.k, .string (txt ye.o.acct), .string (txt ye.o.peer), .int .i64 ye.o.sum, .slice yL.a yL.n yL.c, .int .i64 ye.o.per, .int .i64 ye.o.hold, .string (txt ye.o.note), .bool ye.none, .slice yD.a yD.n yD.c] rfl ?_
  intro w4 hb4 hm4
  have hm4' := hma.out.in_new (g := w3.heap.size) (Nat.le_refl _) hm4
  refine hK.out _ _ (hm4') (fun hHeld => ?_)
  clear hK K
  try simp only [Act.put, q1Z, q2Z, q3Z, q4Z, q5Z, q6Z]
  refine wpAnyH_done (by kernel_rfl) ?_ _
  clear hHeld hzs hma hm4
  have h4 := zH (h3.out.mod0 hm4')
  have hbi4 := hbi3.out.mod hm4' (fun h => h)
  have hbs4 := hbs3.out.mod hm4' (fun h => h)
  have hm4w := zH (hm3w.out.trans (hm4'.any _))
  have hsz4 := hm4'.size
  have hb4l := hb4.lt
  clear hm4'
  obtain ⟨w5, hrun5, hsl5, hm5, hs5⟩ := MapK.store_run (w := w4.drew) (h4.out.sl.mod (Mod.refl none_ w4).drew (fun h => h)) Tryz.underlying82 hlen hin.out (slV x)
  unfold slV isVal at hrun5
  have h5 := zH ((h4.out.mod0 (Mod.refl none_ w4).drew).set_sl hm5 (Off.one (h4.out.lies.grow (Ext.refl _ _) (Nat.le_refl _)) (by simp [RpB.all])) hsl5)
  have hq4 := h4.out.q
  have hq4l := hq4.lt
  have hq4_0 := hq4.cell_ (i := 0) rfl
  have hq4_1 := hq4.cell_ (i := 1) rfl
  have hq4_2 := hq4.cell_ (i := 2) rfl
  have hq4_3 := hq4.cell_ (i := 3) rfl
  have hq4_4 := hq4.cell_ (i := 4) rfl
  have hq4_5 := hq4.cell_ (i := 5) rfl
  have hq4_6 := hq4.cell_ (i := 6) rfl
  have hq4_7 := hq4.cell_ (i := 7) rfl
  have hq4_8 := hq4.cell_ (i := 8) rfl
  have hq4_9 := hq4.cell_ (i := 9) rfl
  have hbi4_0 := hbi4.cell_ (i := 0) rfl
  have hbi4_1 := hbi4.cell_ (i := 1) rfl
  have hbs4_0 := hbs4.cell_ (i := 0) rfl
  have hbs4_1 := hbs4.cell_ (i := 1) rfl
  have hbs4_2 := hbs4.cell_ (i := 2) rfl
  have hbs4_3 := hbs4.cell_ (i := 3) rfl
  have hbs4_4 := hbs4.cell_ (i := 4) rfl
  have hbs4_5 := hbs4.cell_ (i := 5) rfl
  have hbs4_6 := hbs4.cell_ (i := 6) rfl
  have hbs4_7 := hbs4.cell_ (i := 7) rfl
  have hbs4_8 := hbs4.cell_ (i := 8) rfl
  have hbs4_9 := hbs4.cell_ (i := 9) rfl
  have hbs4_10 := hbs4.cell_ (i := 10) rfl
  have hbs4_11 := hbs4.cell_ (i := 11) rfl
  have hbs4_12 := hbs4.cell_ (i := 12) rfl
  have hbs4_13 := hbs4.cell_ (i := 13) rfl
  have hbs4_14 := hbs4.cell_ (i := 14) rfl
  have hm5w := zH (hm4w.out.trans ((Mod.refl (own col k) w4).drew.trans (hm5.mono (fun j hj => by subst hj; exact own_one h.out.lies (c := 3) (by simp [RpB.all]) _ rfl))))
  have hne5 : ∀ g, g ≠ b.sl → g < w4.heap.size → True := fun _ _ _ => trivial
  have hslo : b.sl < w.heap.size := (h.out.lies (b.sl, 3) (by simp [RpB.all])).1
  have hbi5 := hbi4.drew.mod hm5 (fun e => by have e2 : w.heap.size = b.sl := e; omega)
  have hbs5 := hbs4.drew.mod hm5 (fun e => by have e2 : w.heap.size + 1 = b.sl := e; omega)
  have hb45 := hb4.drew.mod hm5 (fun e => by have e2 : w3.heap.size = b.sl := e; omega)
  have hq5 := h5.out.q
  have hbi4l := hbi4.lt
  have hbs4l := hbs4.lt
  have hend : ∀ W, Mod none_ w5 W → KeepPost w col k b me n X x (.returned (.int .i64 0)) W := fun W hW => ⟨rfl, _, _, _, c', h5.out.mod0 hW, hcol.out, hm5w.out.trans (hW.any _)⟩
  clear hq4
  replace hbi4 := zH hbi4
  replace hbs4 := zH hbs4
  replace hb4 := zH hb4
  replace hend := zH hend
  replace h4 := zH h4
  replace h5 := zH h5
  replace hsl5 := zH hsl5
  replace hm5 := zH hm5
  replace hm4w := zH hm4w
  replace hm5w := zH hm5w
  go_upto_region 8 with fail
  refine wp_region_still_tail 6 (by kernel_rfl) (by kernel_rfl) ?_
  simp only [List.take_succ_cons, List.take_zero, List.drop_succ_cons, List.drop_zero]
  change wpStill _ _ (World.drew _) _ _ _
  repeat still_step
  refine wpStill_nil ?_
  change wpList _ _ _ _ _ (World.drew _)
  go_upto_region 9 with fail
  clear hq4_0 hq4_1 hq4_2 hq4_3 hq4_4 hq4_5 hq4_6 hq4_7 hq4_8 hq4_9 hbi4_0 hbi4_1 hbs4_0 hbs4_1 hbs4_2 hbs4_3 hbs4_4 hbs4_5 hbs4_6 hbs4_7 hbs4_8 hbs4_9 hbs4_10 hbs4_11 hbs4_12 hbs4_13 hbs4_14
  have z1 := hq5.cell_ (i := 0) rfl
  have z2 := hbi5.cell_ (i := 0) rfl
  have z3 := hbs5.cell_ (i := 1) rfl
  have z4 := hbs5.cell_ (i := 13) rfl
  rw [hno.out] at z4
  have z5 := hb45.cell_ (i := 1) rfl
  have z6 := hb45.cell_ (i := 13) rfl
  rw [hyn.out] at z6
  have zl := hq5.lt
  have zl2 := hbi5.lt
  have zl3 := hbs5.lt
  have zl4 := hb45.lt
  replace hq5 := zH hq5
  replace hbi5 := zH hbi5
  replace hbs5 := zH hbs5
  replace hb45 := zH hb45
  replace hyn := zH hyn
  by_cases hys : ys = 0
  ·by_cases hme : x.r.i.r = me
   ·have hme' : (x.r.i.r == me) = true := by simpa using hme
    go_upto_region 10 with fail
    go_quiet (fail)
    go_wp2_with fail
    go_ret
    exact hend.out _ ((Mod.refl none_ w5).drewN _)
   ·have hme' : (x.r.i.r == me) = false := by simpa using hme
    go_upto_region 10 with fail
    go_quiet (fail)
    go_wp2_with fail
    go_ret
    exact hend.out _ ((Mod.refl none_ w5).drewN _)
  ·by_cases hme : x.r.i.r = me
   ·have hme' : (x.r.i.r == me) = true := by simpa using hme
    go_upto_region 10 with fail
    go_quiet (fail)
    go_wp2_with fail
    go_ret
    exact hend.out _ ((Mod.refl none_ w5).drewN _)
   ·have hme' : (x.r.i.r == me) = false := by simpa using hme
    go_upto_region 10 with fail
    go_quiet (fail)
    go_wp2_with fail
    go_ret
    exact hend.out _ ((Mod.refl none_ w5).drewN _)
structure LdB (w : World) (p hm : Nat) (e : En) (L D : SV) : Prop where
 blk : Blk w p 96 #[.int .i64 0, .int .i64 2, .int .i64 e.o.c, .int .i64 e.o.s, .int .i64 e.o.k, .string (txt e.o.acct), .string (txt e.o.peer), .int .i64 e.o.sum, .slice L.a L.n L.c, .int .i64 e.o.per, .int .i64 e.o.hold, .string (txt e.o.note), .bool e.none, .slice D.a D.n D.c, .map (some hm), .map none, .map none]
theorem asks_ok (w : World) (q p hm : Nat) (me : Int) (c0 : w.cell? ⟨q, 0, none⟩ = some (.int .i64 me)) (i : Is) (e : En) (L D : SV) (hb : LdB w p hm e L D) :
  Calls Tryz.prog 36 #[.pointer (some ⟨q, 0, none⟩), .agg #[.int .i64 i.r, .int .i64 i.n], .pointer (some ⟨p, 0, none⟩)] w fun e' w' =>
   e' = .returned (.agg #[.int .i64 me, .int .i64 0, .int .i64 1, .int .i64 i.r, .int .i64 i.n, .int .i64 0, .int .i64 0, .int .i64 0, .int .i64 e.o.c, .int .i64 e.o.s, .int .i64 e.o.k, .string (txt e.o.acct), .string (txt e.o.peer), .int .i64 e.o.sum, .slice L.a L.n L.c, .int .i64 e.o.per, .int .i64 e.o.hold, .string (txt e.o.note), .bool e.none, .slice D.a D.n D.c]) ∧ Mod none_ w w' := by
 have hq := World.block_lt_of_cell? w _ c0
 dsimp only at hq
 replace hb := hb.blk
 have hp := hb.lt
 obtain ⟨w0, hw0⟩ : ∃ w0, w0 = ((w.alloc (.cells #[.int .i64 i.r, .int .i64 i.n] 27)).alloc (.cells #[.int .i64 0, .int .i64 0, .int .i64 0, .int .i64 0, .int .i64 0, .int .i64 0, .int .i64 0, .int .i64 0, .int .i64 0, .int .i64 0, .int .i64 0, .string ⟨#[]⟩, .string ⟨#[]⟩, .int .i64 0, .slice none 0 0, .int .i64 0, .int .i64 0, .string ⟨#[]⟩, .bool false, .slice none 0 0] 66)) := ⟨_, rfl⟩
 have hs0 : w0.heap.size = w.heap.size + 2 := by rw [hw0]; simp
 have hmd := zH (MapN.made' w0 (b := w.heap.size + 2) hs0.symm)
 have hm0 : Mod none_ w (w0.alloc (.map #[] 0)) := by rw [hw0]; exact (((Mod.refl none_ w).alloc _).alloc _).alloc _
 have hbz : Blk (w0.alloc (.map #[] 0)) (w.heap.size + 1) 66 #[.int .i64 0, .int .i64 0, .int .i64 0, .int .i64 0, .int .i64 0, .int .i64 0, .int .i64 0, .int .i64 0, .int .i64 0, .int .i64 0, .int .i64 0, .string ⟨#[]⟩, .string ⟨#[]⟩, .int .i64 0, .slice none 0 0, .int .i64 0, .int .i64 0, .string ⟨#[]⟩, .bool false, .slice none 0 0] := by
  have := (Blk.new (w.alloc (.cells #[.int .i64 i.r, .int .i64 i.n] 27)) 66 #[.int .i64 0, .int .i64 0, .int .i64 0, .int .i64 0, .int .i64 0, .int .i64 0, .int .i64 0, .int .i64 0, .int .i64 0, .int .i64 0, .int .i64 0, .string ⟨#[]⟩, .string ⟨#[]⟩, .int .i64 0, .slice none 0 0, .int .i64 0, .int .i64 0, .string ⟨#[]⟩, .bool false, .slice none 0 0]).alloc (.map #[] 0)
  rw [hw0]; simpa using this
 have hbi : Blk (w0.alloc (.map #[] 0)) w.heap.size 27 #[.int .i64 i.r, .int .i64 i.n] := by
  rw [hw0]; exact ((Blk.new w _ _).alloc _).alloc _
 replace hm0 := zH hm0
 replace hbz := zH hbz
 replace hbi := zH hbi
 replace hb := zH hb
 go_enter Tryz.func36, Tryz.ntmps36
 have hmk := fun W => run_makeMap (P := Tryz.prog) 136 W
 go_upto_region 1 with fail
 rw [← hw0]
 replace hw0 := zH hw0
 go_upto_region 2 with (show wpList _ _ _ (⟨none, _, _, _, _, _⟩ :: _) _ _; go_loud (refine mapN_insert _ rfl (.tmp 8) _ _ 136 rfl Tryz.underlying136 (w.heap.size + 2) _ rfl hmd.out (by simp [putN, maxLen]) _ (by decide) rfl _ rfl ?_; intro w2 hD2 hm2 hs2; replace hm0 := zH (hm0.out.then hm2 (fun i hi e => by have e2 : i = w.heap.size + 2 := e; omega)); replace hbz := zH (hbz.out.mod hm2 (by intro e; have e2 : w.heap.size + 1 = w.heap.size + 2 := e; omega)); replace hbi := zH (hbi.out.mod hm2 (by intro e; have e2 : w.heap.size = w.heap.size + 2 := e; omega)); replace hmd := zH hD2; clear hD2 hm2 hs2))
 have lk : (Instr.lookup 136 (.map (some (w.heap.size + 2))) (.int .i64 2) false).run Tryz.prog w2.drew = .ok (.int .i64 1) w2.drew := by
  have := (hmd.out.mod (Mod.refl none_ w2).drew (fun h => h)).get_run (t := 136) (e := 3) (z := .int .i64 0) Tryz.underlying136 (by rfl) (i := 2) (by decide)
  exact this
 have d0 : w2.cell? ⟨q, 0, none⟩ = some (.int .i64 me) := hm0.out.cell_some c0 (fun h => h)
 have hsz2 := hm0.out.size
 have hb := hb.out.mod hm0.out (fun h => h)
 have hp2 := hb.lt
 have hbi2 := hbi.out
 have hq2 : q < w2.heap.size := by omega
 have hbil := hbi2.lt
 have hb_0 := hb.cell_ (i := 0) rfl
 have hb_1 := hb.cell_ (i := 1) rfl
 have hb_2 := hb.cell_ (i := 2) rfl
 have hb_3 := hb.cell_ (i := 3) rfl
 have hb_4 := hb.cell_ (i := 4) rfl
 have hb_5 := hb.cell_ (i := 5) rfl
 have hb_6 := hb.cell_ (i := 6) rfl
 have hb_7 := hb.cell_ (i := 7) rfl
 have hb_8 := hb.cell_ (i := 8) rfl
 have hb_9 := hb.cell_ (i := 9) rfl
 have hb_10 := hb.cell_ (i := 10) rfl
 have hb_11 := hb.cell_ (i := 11) rfl
 have hb_12 := hb.cell_ (i := 12) rfl
 have hb_13 := hb.cell_ (i := 13) rfl
 have hb_14 := hb.cell_ (i := 14) rfl
 have hbi2_0 := hbi2.cell_ (i := 0) rfl
 have hbi2_1 := hbi2.cell_ (i := 1) rfl
 replace hb := zH hb
 replace hbi2 := zH hbi2
 replace hmd := zH hmd
 refine wp_region_still_tail 20 (by kernel_rfl) (by kernel_rfl) ?_
 simp only [List.take_succ_cons, List.take_zero, List.drop_succ_cons, List.drop_zero]
 change wpStill _ _ (World.drew _) _ _ _
 repeat still_step
 refine wpStill_nil ?_
 change wpList _ _ _ _ _ (World.drew _)
 go_wp2_with (refine wpList_store_blk rfl 66 (.tmp 6) (.tmp 29) rfl (w.heap.size + 1) 0 _ rfl rfl hbz.out.drew (by simp) msg_size (by rfl) #[.int .i64 me, .int .i64 0, .int .i64 1, .int .i64 i.r, .int .i64 i.n, .int .i64 0, .int .i64 0, .int .i64 0, .int .i64 e.o.c, .int .i64 e.o.s, .int .i64 e.o.k, .string (txt e.o.acct), .string (txt e.o.peer), .int .i64 e.o.sum, .slice L.a L.n L.c, .int .i64 e.o.per, .int .i64 e.o.hold, .string (txt e.o.note), .bool e.none, .slice D.a D.n D.c] rfl ?_; intro w3 hb3 hm3)
 have hend := zH (hm0.out.drew.then hm3 (fun i hi e => by have e2 : i = w.heap.size + 1 := e; omega))
 refine ret_row rfl (w.heap.size + 1) rfl hb3 Tryz.underlying66 rfl msg_size rfl ⟨rfl, hend.out⟩
end Go.Proofs.YtfkfiokkjjnhiaaGreat
