import Derived.Test.YtfkfiokkjjnhiaaGreatUp30
import Derived.Test.YtfkfiokkjjnhiaaGreatUp15
set_option linter.unusedVariables false
set_option linter.unusedSimpArgs false
set_option maxHeartbeats 16000000
namespace Go.Proofs.YtfkfiokkjjnhiaaGreat
open Go.RowKit
theorem rec1_len (D : SV) {st : Int} (h : st = 1 ∨ st = 2 ∨ st = 3) : (logB [sl1 st D]).length ≤ 3000 := by
 have hr := recB_len (rightR_okRc (right1 D h) nums1)
 unfold logB recsB
 simp only [List.map_cons, List.map_nil, List.flatMap_cons, List.flatMap_nil, List.append_nil]
 rw [frameOf_length]
 omega
structure Heard (X : RpS) (D0 : SV) : Prop where
 S : X.S = [(i1, slV (sl1 1 D0))]
 K : X.K = []
 D : X.D = []
 T : X.T = []
 C : X.C = []
 ln : X.ln = 0
 lv : X.lv = []
 l : X.l.length ≤ 20000
structure Stood (X X' : RpS) (D : SV) : Prop where
 S : X'.S = [(i1, slV (sl1 3 D))]
 Ld : X'.Ld = dropI i1 X.Ld
 Rf : X'.Rf = X.Rf
 Wt : X'.Wt = X.Wt
 ln : X'.ln = 1
 one : ∀ u ∈ X'.lv, u.oneCell' = true
def StandNoPost (w : World) (col : Col) (k : Nat) (b : RpB) (me : Int) (n : Int) (X : RpS) (D : SV) (e : Ending) (w' : World) : Prop :=
 e = .returned (.int .i64 0) ∧ ∃ X' col', RpM w' col' k b me n X' ∧ Stood X X' D ∧ X'.Tl = X.Tl ∧ Ext w col col' ∧ Mod (own col k) w w'
set_option maxRecDepth 100000
theorem standNoAux_ok (w : World) (col : Col) (k : Nat) (b : RpB) (me : Int) (n : Int) (X : RpS) (h : RpM w col k b me n X) (D0 D : SV) (h0 : D0.n = 0) (hD : D.n = 0) (hX : Heard X D0) (hme : i1.r ≠ me) (hcn : ∀ j, w.heap.size ≤ j → col j = (99, 0)) (hk9 : k ≠ 99) :
  Calls Tryz.prog 196 #[.pointer (some ⟨b.q, 0, none⟩), .agg #[.int .i64 i1.r, .int .i64 i1.n], .agg #[.int .i64 e1.o.c, .int .i64 e1.o.s, .int .i64 e1.o.k, .string (txt e1.o.acct), .string (txt e1.o.peer), .int .i64 e1.o.sum, .slice L0.a L0.n L0.c, .int .i64 e1.o.per, .int .i64 e1.o.hold, .string (txt e1.o.note), .bool e1.none, .slice D.a D.n D.c]] w (StandNoPost w col k b me n X D) := by
 have hlq := h.q.lt
 obtain ⟨w0, hw0⟩ : ∃ w0, w0 = ((w.alloc (.cells #[.int .i64 i1.r, .int .i64 i1.n] 27)).alloc (.cells #[.int .i64 e1.o.c, .int .i64 e1.o.s, .int .i64 e1.o.k, .string (txt e1.o.acct), .string (txt e1.o.peer), .int .i64 e1.o.sum, .slice L0.a L0.n L0.c, .int .i64 e1.o.per, .int .i64 e1.o.hold, .string (txt e1.o.note), .bool e1.none, .slice D.a D.n D.c] 53)) := ⟨_, rfl⟩
 have hs0 : w0.heap.size = w.heap.size + 2 := by rw [hw0]; simp
 have hm0 : Mod none_ w w0 := by rw [hw0]; exact ((Mod.refl none_ w).alloc _).alloc _
 have hbi : Blk w0 w.heap.size 27 #[.int .i64 i1.r, .int .i64 i1.n] := by rw [hw0]; exact (Blk.new w _ _).alloc _
 have hbe : Blk w0 (w.heap.size + 1) 53 #[.int .i64 e1.o.c, .int .i64 e1.o.s, .int .i64 e1.o.k, .string (txt e1.o.acct), .string (txt e1.o.peer), .int .i64 e1.o.sum, .slice L0.a L0.n L0.c, .int .i64 e1.o.per, .int .i64 e1.o.hold, .string (txt e1.o.note), .bool e1.none, .slice D.a D.n D.c] := by
  have := Blk.new (w.alloc (.cells #[.int .i64 i1.r, .int .i64 i1.n] 27)) 53 #[.int .i64 e1.o.c, .int .i64 e1.o.s, .int .i64 e1.o.k, .string (txt e1.o.acct), .string (txt e1.o.peer), .int .i64 e1.o.sum, .slice L0.a L0.n L0.c, .int .i64 e1.o.per, .int .i64 e1.o.hold, .string (txt e1.o.note), .bool e1.none, .slice D.a D.n D.c]
  rw [hw0]; simpa using this
 have hr0 := zH (h.mod0 hm0)
 have hzs := zH (Blk.new w0.drew 55 #[.int .i64 0, .int .i64 0, .int .i64 0, .int .i64 0, .int .i64 0, .int .i64 0, .string ⟨#[]⟩, .string ⟨#[]⟩, .int .i64 0, .slice none 0 0, .int .i64 0, .int .i64 0, .string ⟨#[]⟩, .bool false, .slice none 0 0])
 rw [show w0.drew.heap.size = w.heap.size + 2 from hs0] at hzs
 have hma := zH ((Mod.refl none_ w0).drew.alloc (.cells #[.int .i64 0, .int .i64 0, .int .i64 0, .int .i64 0, .int .i64 0, .int .i64 0, .string ⟨#[]⟩, .string ⟨#[]⟩, .int .i64 0, .slice none 0 0, .int .i64 0, .int .i64 0, .string ⟨#[]⟩, .bool false, .slice none 0 0] 55))
 have hget : (findI X.S i1).getD (slV (slZ i1)) = slV (sl1 1 D0) := by rw [hX.S]; rfl
 replace h := zH h
 replace hm0 := zH hm0
 replace hbi := zH hbi
 replace hbe := zH hbe
 replace hX := zH hX
 replace h0 := zH h0
 replace hD := zH hD
 replace hget := zH hget
 replace hme := zH hme
 go_enter Tryz.func196, Tryz.ntmps196
 go_upto_region 1 with fail
 rw [← hw0]
 replace hw0 := zH hw0
 refine wp_region_held_drew (S := fun W => Mod none_ w0 W) (by kernel_rfl) (Mod.refl none_ w0).drew (fun hHeld => ?_)
 refine tkZ 0 ?_ rfl ?_ ?_
 rotate_left
 ·intro W hSw; (try dsimp only at hSw); go_simp; (try with_reducible rfl)
 try simp only [Act.put, q1Z, q2Z, q3Z, q4Z, q5Z, q6Z]
 refine tkZ 1 ?_ rfl ?_ ?_
 rotate_left
 ·intro W hSw; (try dsimp only at hSw); go_simp; (try with_reducible rfl)
 try simp only [Act.put, q1Z, q2Z, q3Z, q4Z, q5Z, q6Z]
 refine tkZ 2 ?_ rfl ?_ ?_
 rotate_left
 ·intro W hSw; (try dsimp only at hSw); go_simp; (try with_reducible rfl)
 try simp only [Act.put, q1Z, q2Z, q3Z, q4Z, q5Z, q6Z]
 refine tkZ 3 ?_ rfl ?_ ?_
 rotate_left
 ·intro W hSw; have c3 : W.cell? ⟨b.q, 3, none⟩ = some (.map (some b.sl)) := (hr0.out.q.mod hSw (fun h => h)).cell_ rfl; go_simp; (try with_reducible rfl)
 try simp only [Act.put, q1Z, q2Z, q3Z, q4Z, q5Z, q6Z]
 refine wpAnyH_take (i := 4) rfl (by kernel_rfl) (by kernel_rfl) (by kernel_rfl) (fun _ _ _ h => h) (yieldsIf_load_mid (by rfl) 27 (.tmp 4) rfl w.heap.size 0 rfl [.int .i64 i1.r, .int .i64 i1.n] _ (fun W hW => Blk.range (hbi.out.mod hW (fun h => h)) 0 _ rfl) Tryz.underlying27 rfl inst_size) (by assumption) ?_
 try simp only [Act.put, q1Z, q2Z, q3Z, q4Z, q5Z, q6Z]
 refine tkZ 5 ?_ rfl ?_ ?_
 rotate_left
 ·intro W hSw; have lk := (hr0.out.sl.mod hSw (fun h => h)).get_run (t := 82) Tryz.underlying82 (zeroSl_run _) i1_in; rw [hget.out] at lk; unfold slV isVal sl1 at lk; dsimp only at lk; go_simp; (try with_reducible rfl)
 try simp only [Act.put, q1Z, q2Z, q3Z, q4Z, q5Z, q6Z]
 refine rdZ 6 rfl (fun K hK => ?_)
 go_simp
 refine hK.out _ _ (hma.out) (fun hHeld => ?_)
 clear hK K
 try simp only [Act.put, q1Z, q2Z, q3Z, q4Z, q5Z, q6Z]
 refine rdZ 7 rfl (fun K hK => ?_)
 refine step_store_blk rfl 55 (.tmp 7) (.tmp 14) rfl (w.heap.size + 2) 0 _ rfl rfl hzs.out (by simp) slot_size (by rfl) #[.int .i64 0, .int .i64 1, .int .i64 0, .int .i64 e1.o.c, .int .i64 e1.o.s, .int .i64 e1.o.k, .string (txt e1.o.acct), .string (txt e1.o.peer), .int .i64 e1.o.sum, .slice L0.a L0.n L0.c, .int .i64 e1.o.per, .int .i64 e1.o.hold, .string (txt e1.o.note), .bool e1.none, .slice D0.a D0.n D0.c] rfl ?_
 intro w1 hb1 hm1
 have hm1' := hma.out.in_new (g := w.heap.size + 2) (by omega) hm1
 refine hK.out _ _ (hm1') (fun hHeld => ?_)
 clear hK K
 try simp only [Act.put, q1Z, q2Z, q3Z, q4Z, q5Z, q6Z]
 refine wpAnyH_done (by kernel_rfl) ?_ _
 clear hHeld hzs hma hm1
 have hr1 := zH (hr0.out.mod0 hm1')
 have hM1 := zH (hm0.out.trans hm1')
 have hbi1 := zH (hbi.out.mod hm1' (fun h => h))
 have hbe1 := zH (hbe.out.mod hm1' (fun h => h))
 clear hm1' hr0 hget
 have f1 := hb1.frozen 1
 have g1 : w1.cell? ⟨w.heap.size + 2, 1, none⟩ = some (.int .i64 1) := hb1.cell_ rfl
 have hl1 := hb1.lt
 have hb2 := hb1.set_ 1 (.int .i64 3)
 simp only [List.setIfInBounds_toArray, List.set_cons_succ, List.set_cons_zero] at hb2
 obtain ⟨w2, hw2⟩ : ∃ w2, w2 = (w1.setCell ⟨w.heap.size + 2, 1, none⟩ (.int .i64 3)) := ⟨_, rfl⟩
 have hm12 : Mod (only (w.heap.size + 2)) w1 w2 := by rw [hw2]; exact Mod.setCell (Mod.refl (only (w.heap.size + 2)) w1) (p := ⟨w.heap.size + 2, 1, none⟩) (.inl rfl) _
 rw [← hw2] at hb2
 have hb2d : Blk w2.drew (w.heap.size + 2) 55 #[.int .i64 0, .int .i64 3, .int .i64 0, .int .i64 e1.o.c, .int .i64 e1.o.s, .int .i64 e1.o.k, .string (txt e1.o.acct), .string (txt e1.o.peer), .int .i64 e1.o.sum, .slice L0.a L0.n L0.c, .int .i64 e1.o.per, .int .i64 e1.o.hold, .string (txt e1.o.note), .bool e1.none, .slice D0.a D0.n D0.c] := hb2
 replace hb1 := zH hb1
 replace hb2 := zH hb2
 replace hw2 := zH hw2
 replace hm12 := zH hm12
 go_upto_region 2 with fail
 refine wp_region_held_drew (S := fun W => Mod (only (w.heap.size + 2)) w1 W) (by kernel_rfl) (Mod.refl (only (w.heap.size + 2)) w1).drew (fun hHeld => ?_)
 refine wpAnyH_take (i := 0) rfl (by kernel_rfl) (by kernel_rfl) (by kernel_rfl) (fun _ _ _ h => h) (yieldsIf_load_mid (by rfl) 53 (.tmp 5) rfl (w.heap.size + 1) 0 rfl [.int .i64 e1.o.c, .int .i64 e1.o.s, .int .i64 e1.o.k, .string (txt e1.o.acct), .string (txt e1.o.peer), .int .i64 e1.o.sum, .slice L0.a L0.n L0.c, .int .i64 e1.o.per, .int .i64 e1.o.hold, .string (txt e1.o.note), .bool e1.none, .slice D.a D.n D.c] _ (fun W hW => Blk.range (hbe1.out.mod hW (fun h => by have e2 : w.heap.size + 1 = w.heap.size + 2 := h; omega)) 0 _ rfl) Tryz.underlying53 rfl entry_size) (by assumption) ?_
 try simp only [Act.put, q1Z, q2Z, q3Z, q4Z, q5Z, q6Z]
 refine tkZ 1 ?_ rfl ?_ ?_
 rotate_left
 ·intro W hSw; (try dsimp only at hSw); go_simp; (try with_reducible rfl)
 try simp only [Act.put, q1Z, q2Z, q3Z, q4Z, q5Z, q6Z]
 refine rdZ 2 rfl (fun K hK => ?_)
 go_simp
 rw [← hw2.out]
 refine hK.out _ _ (hm12.out.drew) (fun hHeld => ?_)
 clear hK K
 try simp only [Act.put, q1Z, q2Z, q3Z, q4Z, q5Z, q6Z]
 refine tkZ 3 ?_ rfl ?_ ?_
 rotate_left
 ·intro W hSw; (try dsimp only at hSw); go_simp; (try with_reducible rfl)
 try simp only [Act.put, q1Z, q2Z, q3Z, q4Z, q5Z, q6Z]
 refine rdZ 4 rfl (fun K hK => ?_)
 refine step_store_blk rfl 53 (.tmp 17) (.tmp 15) rfl (w.heap.size + 2) 3 _ rfl rfl hb2d (by simp) entry_size (by rfl) #[.int .i64 0, .int .i64 3, .int .i64 0, .int .i64 e1.o.c, .int .i64 e1.o.s, .int .i64 e1.o.k, .string (txt e1.o.acct), .string (txt e1.o.peer), .int .i64 e1.o.sum, .slice L0.a L0.n L0.c, .int .i64 e1.o.per, .int .i64 e1.o.hold, .string (txt e1.o.note), .bool e1.none, .slice D.a D.n D.c] rfl ?_
 intro w3 hb3 hm3
 have hm13 := hm12.out.drew.trans hm3
 refine hK.out _ _ (hm13) (fun hHeld => ?_)
 clear hK K
 try simp only [Act.put, q1Z, q2Z, q3Z, q4Z, q5Z, q6Z]
 refine wpAnyH_done (by kernel_rfl) ?_ _
 clear hHeld hm3 hb2d
 have hM3 := zH (hM1.out.in_new (g := w.heap.size + 2) (by omega) hm13)
 have hr3 := zH (h.out.mod0 hM3.out)
 have hbi3 := zH (hbi1.out.mod hm13 (fun h => by have e2 : w.heap.size = w.heap.size + 2 := h; omega))
 have hbe3 := zH (hbe1.out.mod hm13 (fun h => by have e2 : w.heap.size + 1 = w.heap.size + 2 := h; omega))
 have hs3 : w1.heap.size ≤ w3.heap.size := hm13.size
 clear hm13 hr1 hbi1 hbe1 hM1 f1 g1 hb2 hm12
 have hD' := hD.out
 have kK := zH (show Calls Tryz.prog 34 #[.pointer (some ⟨b.q, 0, none⟩), .agg #[.int .i64 i1.r, .int .i64 i1.n], .agg #[.int .i64 0, .int .i64 3, .int .i64 0, .int .i64 e1.o.c, .int .i64 e1.o.s, .int .i64 e1.o.k, .string (txt e1.o.acct), .string (txt e1.o.peer), .int .i64 e1.o.sum, .slice L0.a L0.n L0.c, .int .i64 e1.o.per, .int .i64 e1.o.hold, .string (txt e1.o.note), .bool e1.none, .slice D.a D.n D.c]] w3 (KeepPost w3 col k b me n X (sl1 3 D)) from
  keep_ok w3 col k b me n X hr3.out (sl1 3 D) (sl1 1 D0) rfl (by show (3 : Int) ≠ 1; decide) (by show (findI X.S i1).getD _ = _; rw [hX.out.S]; rfl) (e1_mem w3 hD') (ok1 hD') nums1 (right1 D (.inr (.inr rfl))) (by have := rec1_len D (st := 3) (.inr (.inr rfl)); have := hX.out.l; unfold RpW; omega) i1_in rfl rfl (by show (3 : Int) ≠ 0; decide) (by rw [hX.out.S]; show (1 : Nat) + 1 < maxLen; decide))
 clear hD'
 replace hb3 := zH hb3
 go_wp2_with (first
  | (refine wpList_load_blk rfl 55 (.tmp 7) rfl (w.heap.size + 2) 0 rfl hb3.out [.int .i64 0, .int .i64 3, .int .i64 0, .int .i64 e1.o.c, .int .i64 e1.o.s, .int .i64 e1.o.k, .string (txt e1.o.acct), .string (txt e1.o.peer), .int .i64 e1.o.sum, .slice L0.a L0.n L0.c, .int .i64 e1.o.per, .int .i64 e1.o.hold, .string (txt e1.o.note), .bool e1.none, .slice D.a D.n D.c] rfl Tryz.underlying55 rfl slot_size ?_)
  | (refine wpList_load_blk rfl 27 (.tmp 4) rfl w.heap.size 0 rfl hbi3.out [.int .i64 i1.r, .int .i64 i1.n] rfl Tryz.underlying27 rfl inst_size ?_))
 refine kK.out.mono ?_
 rintro e w4 ⟨rfl, A4, c4, s4, col4, hr4, hx4, hm4⟩
 dsimp only
 have hM4 := zH ((hM3.out.any (own col k)).trans hm4)
 have hX4 := zH (show Ext w col col4 from fun j hj => hx4 j (Nat.lt_of_lt_of_le hj hM3.out.size))
 have hfar : ∀ j, w.heap.size ≤ j → j < w3.heap.size → True := fun _ _ _ => trivial
 have hN := zH (knownNo_ok w4 col4 k b me n _ hr4 i1 i1_in (by show findI X.K i1 = none; rw [hX.out.K]; rfl) (by show X.K.length + 1 < _; rw [hX.out.K]; decide) e1 L0 D (e1_mem w4 hD.out) (by show (0 : Nat) ≤ _; omega) (by rw [hD.out]; omega) (by decide) (fun l hl => by cases hl) rightE1 hme.out)
 have hm4' := hm4
 have hx4' := hx4
 clear hm4 hx4 kK hr3 hfar
 replace hr4 := zH hr4
 have hc4 : ∀ j, w.heap.size ≤ j → j < w3.heap.size → ¬ own col k j ∧ ¬ own col4 k j := fun j h1 h2 => by
  have e1 := hcn j h1
  have e2 := hx4' j h2
  unfold own
  rw [e2, e1]
  exact ⟨fun h => hk9 h.symm, fun h => hk9 h.symm⟩
 have hc4' := zH hc4
 have hbi4 := zH (hbi3.out.mod hm4' (hc4 _ (by omega) hbi3.out.lt).1)
 have hbe4 := zH (hbe3.out.mod hm4' (hc4 _ (by omega) hbe3.out.lt).1)
 have hs4 : w3.heap.size ≤ w4.heap.size := hm4'.size
 clear hm4' hx4' hc4 hbi3 hbe3 hb3
 go_wp2_with (first
  | (refine wpList_load_blk rfl 53 (.tmp 5) rfl (w.heap.size + 1) 0 rfl hbe4.out [.int .i64 e1.o.c, .int .i64 e1.o.s, .int .i64 e1.o.k, .string (txt e1.o.acct), .string (txt e1.o.peer), .int .i64 e1.o.sum, .slice L0.a L0.n L0.c, .int .i64 e1.o.per, .int .i64 e1.o.hold, .string (txt e1.o.note), .bool e1.none, .slice D.a D.n D.c] rfl Tryz.underlying53 rfl entry_size ?_)
  | (refine wpList_load_blk rfl 27 (.tmp 4) rfl w.heap.size 0 rfl hbi4.out [.int .i64 i1.r, .int .i64 i1.n] rfl Tryz.underlying27 rfl inst_size ?_))
 refine hN.out.mono ?_
 rintro e w5 ⟨rfl, L5, D5, col5, hr5, hE5, hx5, hm5⟩
 dsimp only
 have hdn5 : D5.n = 0 := by have h9 := hE5.rd.len; show D5.n = 0; rw [← h9]; rfl
 have hln5 : L5.n = 0 := by have h9 := RdL.len hE5.od.rd; rw [← h9]; rfl
 have hM5 := zH (hM4.out.own hX4.out hm5)
 have hX5 := zH (hX4.out.trans hx5 hM4.out.size)
 have hs5 : w4.heap.size ≤ w5.heap.size := hm5.size
 have hbi5 := zH (hbi4.out.mod hm5 (hc4'.out _ (by omega) (by omega)).2)
 have hc5 : ∀ j, w.heap.size ≤ j → j < w3.heap.size → ¬ own col5 k j := fun j h1 h2 => by
  have e3 := (hc4'.out j h1 h2).2
  unfold own at *
  rwa [hx5 j (by omega)]
 have hc5' := zH hc5
 have hr5q := zH hr5.q
 have kR := zH (run1_ok w5 col5 k b me n _ hr5 i1 e1 L5 D5 (by show putI' i1 _ X.K = _; rw [hX.out.K]; rfl) hdn5 (fun W => ⟨by rw [hln5]; exact rd_zero, by have := hE5.od.cap; omega⟩) rfl (by show findI X.D i1 = none; rw [hX.out.D]; rfl) (by show X.D.length + 1 < maxLen; rw [hX.out.D]; decide)
  rfl rightO1 (by omega) (fun l hl => by cases hl) (by show getV X.C _ = _; rw [hX.out.C]; rfl) (by decide) (by decide) (by show findI X.T _ = none; rw [hX.out.T]; rfl) (by show X.T.length + 1 < maxLen; rw [hX.out.T]; decide) (by show X.ln ≤ _; rw [hX.out.ln]; omega))
 have hlq5 := hr5.q.lt
 have cq4 : w5.cell? ⟨b.q, 4, none⟩ = some (.pointer (some ⟨b.rn.q, 0, none⟩)) := hr5.q.cell_ rfl
 clear hm5 hx5 hN hE5 hc5 hbi4 hbe4 hr5
 go_wp2_with fail
 refine kR.out.mono ?_
 rintro e w6 ⟨⟨v6, rfl⟩, A6, c6, col6, hr6, hx6, hm6⟩
 dsimp only
 have hM6 := zH (hM5.out.own hX5.out hm6)
 have hX6 := zH (hX5.out.trans hx6 hM5.out.size)
 have hbi6 := hbi5.out.mod hm6 (hc5'.out _ (by omega) (by omega))
 obtain ⟨w7, hrun7, hld7, hm7, hs7⟩ := MapK.drop_run (w := w6.drew) (hr6.ld.mod (Mod.refl none_ w6).drew (fun h => h)) Tryz.underlying84 i1_in 0
 unfold isVal at hrun7
 have hr6d := hr6.mod0 (Mod.refl none_ w6).drew
 have hr7 := zH (hr6d.set_ld hm7 (Off.one hr6d.lies (by simp [RpB.all])) hld7)
 have hM7 := zH (hM6.out.own hX6.out ((Mod.refl (own col6 k) w6).drew.trans (hm7.mono (fun j hj => own_one hr6.lies (c := 4) (by simp [RpB.all]) j hj))))
 have hq6 := hr6.q
 have lq6 := hq6.lt
 have li6 := hbi6.lt
 have cq6 : w6.cell? ⟨b.q, 5, none⟩ = some (.map (some b.ld)) := hq6.cell_ rfl
 have hbi6_0 := hbi6.cell_ (i := 0) rfl
 have hbi6_1 := hbi6.cell_ (i := 1) rfl
 clear hm6 hx6 hm7 hs7 hld7 hr6d kR cq4
 replace hq6 := zH hq6
 replace hbi6 := zH hbi6
 replace hr6 := zH hr6
 go_upto_region 8 with fail
 refine wp_region_still_tail 5 (by kernel_rfl) (by kernel_rfl) ?_
 simp only [List.take_succ_cons, List.take_zero, List.drop_succ_cons, List.drop_zero]
 change wpStill _ _ (World.drew _) _ _ _
 repeat still_step
 refine wpStill_nil ?_
 change wpList _ _ _ _ _ (World.drew _)
 go_wp2_with fail
 go_ret
 have hX' := hX.out
 exact ⟨rfl, _, col6, hr7.out, ⟨by show putI' i1 _ X.S = _; rw [hX'.S]; rfl, rfl, rfl, rfl, by show X.ln + 1 = 1; rw [hX'.ln], by show ∀ u ∈ X.lv ++ odV e1.o L5, _; rw [hX'.lv]; exact odV_one _ _⟩, rfl, hX6.out, hM7.out⟩
theorem standNo_ok (w : World) (col : Col) (k : Nat) (b : RpB) (me : Int) (n : Int) (X : RpS) (h : RpM w col k b me n X) (D0 D : SV) (h0 : D0.n = 0) (hD : D.n = 0) (hX : Heard X D0) (hme : i1.r ≠ me) (hk9 : k ≠ 99) :
  Calls Tryz.prog 196 #[.pointer (some ⟨b.q, 0, none⟩), .agg #[.int .i64 i1.r, .int .i64 i1.n], .agg #[.int .i64 e1.o.c, .int .i64 e1.o.s, .int .i64 e1.o.k, .string (txt e1.o.acct), .string (txt e1.o.peer), .int .i64 e1.o.sum, .slice L0.a L0.n L0.c, .int .i64 e1.o.per, .int .i64 e1.o.hold, .string (txt e1.o.note), .bool e1.none, .slice D.a D.n D.c]] w (StandNoPost w col k b me n X D) := by
 refine (standNoAux_ok w (tint w col (99, 0)) k b me n X (h.ext (tint_ext w col _)) D0 D h0 hD hX hme (fun j hj => tint_new hj) hk9).mono ?_
 rintro e w' ⟨h1, X', col', h2, h3, h4, h7, h8⟩
 exact ⟨h1, X', col', h2, h3, h4, (tint_ext w col _).trans h7 (Nat.le_refl _), own_tint h8⟩
def StandMePost (w : World) (col : Col) (k : Nat) (b : RpB) (n : Int) (X : RpS) (D : SV) (e : Ending) (w' : World) : Prop :=
 e = .returned (.int .i64 0) ∧ ∃ g X' col', RpM w' col' k b 1 n X' ∧ Stood X X' D ∧ X'.Tl = [(i1, .map (some g))] ∧ MapN w' g [] ∧ col' g = (50 + k, 20) ∧ Ext w col col' ∧ Mod (own col k) w w'
theorem standMeAux_ok (w : World) (col : Col) (k : Nat) (b : RpB) (n : Int) (X : RpS) (h : RpM w col k b 1 n X) (D0 D : SV) (h0 : D0.n = 0) (hD : D.n = 0) (hX : Heard X D0) (htl : X.Tl = []) (hcn : ∀ j, w.heap.size ≤ j → col j = (99, 0)) (hk9 : k ≠ 99) :
  Calls Tryz.prog 196 #[.pointer (some ⟨b.q, 0, none⟩), .agg #[.int .i64 i1.r, .int .i64 i1.n], .agg #[.int .i64 e1.o.c, .int .i64 e1.o.s, .int .i64 e1.o.k, .string (txt e1.o.acct), .string (txt e1.o.peer), .int .i64 e1.o.sum, .slice L0.a L0.n L0.c, .int .i64 e1.o.per, .int .i64 e1.o.hold, .string (txt e1.o.note), .bool e1.none, .slice D.a D.n D.c]] w (StandMePost w col k b n X D) := by
 have hlq := h.q.lt
 obtain ⟨w0, hw0⟩ : ∃ w0, w0 = ((w.alloc (.cells #[.int .i64 i1.r, .int .i64 i1.n] 27)).alloc (.cells #[.int .i64 e1.o.c, .int .i64 e1.o.s, .int .i64 e1.o.k, .string (txt e1.o.acct), .string (txt e1.o.peer), .int .i64 e1.o.sum, .slice L0.a L0.n L0.c, .int .i64 e1.o.per, .int .i64 e1.o.hold, .string (txt e1.o.note), .bool e1.none, .slice D.a D.n D.c] 53)) := ⟨_, rfl⟩
 have hs0 : w0.heap.size = w.heap.size + 2 := by rw [hw0]; simp
 have hm0 : Mod none_ w w0 := by rw [hw0]; exact ((Mod.refl none_ w).alloc _).alloc _
 have hbi : Blk w0 w.heap.size 27 #[.int .i64 i1.r, .int .i64 i1.n] := by rw [hw0]; exact (Blk.new w _ _).alloc _
 have hbe : Blk w0 (w.heap.size + 1) 53 #[.int .i64 e1.o.c, .int .i64 e1.o.s, .int .i64 e1.o.k, .string (txt e1.o.acct), .string (txt e1.o.peer), .int .i64 e1.o.sum, .slice L0.a L0.n L0.c, .int .i64 e1.o.per, .int .i64 e1.o.hold, .string (txt e1.o.note), .bool e1.none, .slice D.a D.n D.c] := by
  have := Blk.new (w.alloc (.cells #[.int .i64 i1.r, .int .i64 i1.n] 27)) 53 #[.int .i64 e1.o.c, .int .i64 e1.o.s, .int .i64 e1.o.k, .string (txt e1.o.acct), .string (txt e1.o.peer), .int .i64 e1.o.sum, .slice L0.a L0.n L0.c, .int .i64 e1.o.per, .int .i64 e1.o.hold, .string (txt e1.o.note), .bool e1.none, .slice D.a D.n D.c]
  rw [hw0]; simpa using this
 have hr0 := zH (h.mod0 hm0)
 have hzs := zH (Blk.new w0.drew 55 #[.int .i64 0, .int .i64 0, .int .i64 0, .int .i64 0, .int .i64 0, .int .i64 0, .string ⟨#[]⟩, .string ⟨#[]⟩, .int .i64 0, .slice none 0 0, .int .i64 0, .int .i64 0, .string ⟨#[]⟩, .bool false, .slice none 0 0])
 rw [show w0.drew.heap.size = w.heap.size + 2 from hs0] at hzs
 have hma := zH ((Mod.refl none_ w0).drew.alloc (.cells #[.int .i64 0, .int .i64 0, .int .i64 0, .int .i64 0, .int .i64 0, .int .i64 0, .string ⟨#[]⟩, .string ⟨#[]⟩, .int .i64 0, .slice none 0 0, .int .i64 0, .int .i64 0, .string ⟨#[]⟩, .bool false, .slice none 0 0] 55))
 have hget : (findI X.S i1).getD (slV (slZ i1)) = slV (sl1 1 D0) := by rw [hX.S]; rfl
 replace h := zH h
 replace hm0 := zH hm0
 replace hbi := zH hbi
 replace hbe := zH hbe
 replace hX := zH hX
 replace h0 := zH h0
 replace hD := zH hD
 replace hget := zH hget
 replace htl := zH htl
 go_enter Tryz.func196, Tryz.ntmps196
 go_upto_region 1 with fail
 rw [← hw0]
 replace hw0 := zH hw0
 refine wp_region_held_drew (S := fun W => Mod none_ w0 W) (by kernel_rfl) (Mod.refl none_ w0).drew (fun hHeld => ?_)
 refine tkZ 0 ?_ rfl ?_ ?_
 rotate_left
 ·intro W hSw; (try dsimp only at hSw); go_simp; (try with_reducible rfl)
 try simp only [Act.put, q1Z, q2Z, q3Z, q4Z, q5Z, q6Z]
 refine tkZ 1 ?_ rfl ?_ ?_
 rotate_left
 ·intro W hSw; (try dsimp only at hSw); go_simp; (try with_reducible rfl)
 try simp only [Act.put, q1Z, q2Z, q3Z, q4Z, q5Z, q6Z]
 refine tkZ 2 ?_ rfl ?_ ?_
 rotate_left
 ·intro W hSw; (try dsimp only at hSw); go_simp; (try with_reducible rfl)
 try simp only [Act.put, q1Z, q2Z, q3Z, q4Z, q5Z, q6Z]
 refine tkZ 3 ?_ rfl ?_ ?_
 rotate_left
 ·intro W hSw; have c3 : W.cell? ⟨b.q, 3, none⟩ = some (.map (some b.sl)) := (hr0.out.q.mod hSw (fun h => h)).cell_ rfl; go_simp; (try with_reducible rfl)
 try simp only [Act.put, q1Z, q2Z, q3Z, q4Z, q5Z, q6Z]
 refine wpAnyH_take (i := 4) rfl (by kernel_rfl) (by kernel_rfl) (by kernel_rfl) (fun _ _ _ h => h) (yieldsIf_load_mid (by rfl) 27 (.tmp 4) rfl w.heap.size 0 rfl [.int .i64 i1.r, .int .i64 i1.n] _ (fun W hW => Blk.range (hbi.out.mod hW (fun h => h)) 0 _ rfl) Tryz.underlying27 rfl inst_size) (by assumption) ?_
 try simp only [Act.put, q1Z, q2Z, q3Z, q4Z, q5Z, q6Z]
 refine tkZ 5 ?_ rfl ?_ ?_
 rotate_left
 ·intro W hSw; have lk := (hr0.out.sl.mod hSw (fun h => h)).get_run (t := 82) Tryz.underlying82 (zeroSl_run _) i1_in; rw [hget.out] at lk; unfold slV isVal sl1 at lk; dsimp only at lk; go_simp; (try with_reducible rfl)
 try simp only [Act.put, q1Z, q2Z, q3Z, q4Z, q5Z, q6Z]
 refine rdZ 6 rfl (fun K hK => ?_)
 go_simp
 refine hK.out _ _ (hma.out) (fun hHeld => ?_)
 clear hK K
 try simp only [Act.put, q1Z, q2Z, q3Z, q4Z, q5Z, q6Z]
 refine rdZ 7 rfl (fun K hK => ?_)
 refine step_store_blk rfl 55 (.tmp 7) (.tmp 14) rfl (w.heap.size + 2) 0 _ rfl rfl hzs.out (by simp) slot_size (by rfl) #[.int .i64 0, .int .i64 1, .int .i64 0, .int .i64 e1.o.c, .int .i64 e1.o.s, .int .i64 e1.o.k, .string (txt e1.o.acct), .string (txt e1.o.peer), .int .i64 e1.o.sum, .slice L0.a L0.n L0.c, .int .i64 e1.o.per, .int .i64 e1.o.hold, .string (txt e1.o.note), .bool e1.none, .slice D0.a D0.n D0.c] rfl ?_
 intro w1 hb1 hm1
 have hm1' := hma.out.in_new (g := w.heap.size + 2) (by omega) hm1
 refine hK.out _ _ (hm1') (fun hHeld => ?_)
 clear hK K
 try simp only [Act.put, q1Z, q2Z, q3Z, q4Z, q5Z, q6Z]
 refine wpAnyH_done (by kernel_rfl) ?_ _
 clear hHeld hzs hma hm1
 have hr1 := zH (hr0.out.mod0 hm1')
 have hM1 := zH (hm0.out.trans hm1')
 have hbi1 := zH (hbi.out.mod hm1' (fun h => h))
 have hbe1 := zH (hbe.out.mod hm1' (fun h => h))
 clear hm1' hr0 hget
 have f1 := hb1.frozen 1
 have g1 : w1.cell? ⟨w.heap.size + 2, 1, none⟩ = some (.int .i64 1) := hb1.cell_ rfl
 have hl1 := hb1.lt
 have hb2 := hb1.set_ 1 (.int .i64 3)
 simp only [List.setIfInBounds_toArray, List.set_cons_succ, List.set_cons_zero] at hb2
 obtain ⟨w2, hw2⟩ : ∃ w2, w2 = (w1.setCell ⟨w.heap.size + 2, 1, none⟩ (.int .i64 3)) := ⟨_, rfl⟩
 have hm12 : Mod (only (w.heap.size + 2)) w1 w2 := by rw [hw2]; exact Mod.setCell (Mod.refl (only (w.heap.size + 2)) w1) (p := ⟨w.heap.size + 2, 1, none⟩) (.inl rfl) _
 rw [← hw2] at hb2
 have hb2d : Blk w2.drew (w.heap.size + 2) 55 #[.int .i64 0, .int .i64 3, .int .i64 0, .int .i64 e1.o.c, .int .i64 e1.o.s, .int .i64 e1.o.k, .string (txt e1.o.acct), .string (txt e1.o.peer), .int .i64 e1.o.sum, .slice L0.a L0.n L0.c, .int .i64 e1.o.per, .int .i64 e1.o.hold, .string (txt e1.o.note), .bool e1.none, .slice D0.a D0.n D0.c] := hb2
 replace hb1 := zH hb1
 replace hb2 := zH hb2
 replace hw2 := zH hw2
 replace hm12 := zH hm12
 go_upto_region 2 with fail
 refine wp_region_held_drew (S := fun W => Mod (only (w.heap.size + 2)) w1 W) (by kernel_rfl) (Mod.refl (only (w.heap.size + 2)) w1).drew (fun hHeld => ?_)
 refine wpAnyH_take (i := 0) rfl (by kernel_rfl) (by kernel_rfl) (by kernel_rfl) (fun _ _ _ h => h) (yieldsIf_load_mid (by rfl) 53 (.tmp 5) rfl (w.heap.size + 1) 0 rfl [.int .i64 e1.o.c, .int .i64 e1.o.s, .int .i64 e1.o.k, .string (txt e1.o.acct), .string (txt e1.o.peer), .int .i64 e1.o.sum, .slice L0.a L0.n L0.c, .int .i64 e1.o.per, .int .i64 e1.o.hold, .string (txt e1.o.note), .bool e1.none, .slice D.a D.n D.c] _ (fun W hW => Blk.range (hbe1.out.mod hW (fun h => by have e2 : w.heap.size + 1 = w.heap.size + 2 := h; omega)) 0 _ rfl) Tryz.underlying53 rfl entry_size) (by assumption) ?_
 try simp only [Act.put, q1Z, q2Z, q3Z, q4Z, q5Z, q6Z]
 refine tkZ 1 ?_ rfl ?_ ?_
 rotate_left
 ·intro W hSw; (try dsimp only at hSw); go_simp; (try with_reducible rfl)
 try simp only [Act.put, q1Z, q2Z, q3Z, q4Z, q5Z, q6Z]
 refine rdZ 2 rfl (fun K hK => ?_)
 go_simp
 rw [← hw2.out]
 refine hK.out _ _ (hm12.out.drew) (fun hHeld => ?_)
 clear hK K
 try simp only [Act.put, q1Z, q2Z, q3Z, q4Z, q5Z, q6Z]
 refine tkZ 3 ?_ rfl ?_ ?_
 rotate_left
 ·intro W hSw; (try dsimp only at hSw); go_simp; (try with_reducible rfl)
 try simp only [Act.put, q1Z, q2Z, q3Z, q4Z, q5Z, q6Z]
 refine rdZ 4 rfl (fun K hK => ?_)
 refine step_store_blk rfl 53 (.tmp 17) (.tmp 15) rfl (w.heap.size + 2) 3 _ rfl rfl hb2d (by simp) entry_size (by rfl) #[.int .i64 0, .int .i64 3, .int .i64 0, .int .i64 e1.o.c, .int .i64 e1.o.s, .int .i64 e1.o.k, .string (txt e1.o.acct), .string (txt e1.o.peer), .int .i64 e1.o.sum, .slice L0.a L0.n L0.c, .int .i64 e1.o.per, .int .i64 e1.o.hold, .string (txt e1.o.note), .bool e1.none, .slice D.a D.n D.c] rfl ?_
 intro w3 hb3 hm3
 have hm13 := hm12.out.drew.trans hm3
 refine hK.out _ _ (hm13) (fun hHeld => ?_)
 clear hK K
 try simp only [Act.put, q1Z, q2Z, q3Z, q4Z, q5Z, q6Z]
 refine wpAnyH_done (by kernel_rfl) ?_ _
 clear hHeld hm3 hb2d
 have hM3 := zH (hM1.out.in_new (g := w.heap.size + 2) (by omega) hm13)
 have hr3 := zH (h.out.mod0 hM3.out)
 have hbi3 := zH (hbi1.out.mod hm13 (fun h => by have e2 : w.heap.size = w.heap.size + 2 := h; omega))
 have hbe3 := zH (hbe1.out.mod hm13 (fun h => by have e2 : w.heap.size + 1 = w.heap.size + 2 := h; omega))
 have hs3 : w1.heap.size ≤ w3.heap.size := hm13.size
 clear hm13 hr1 hbi1 hbe1 hM1 f1 g1 hb2 hm12
 have hD' := hD.out
 have kK := zH (show Calls Tryz.prog 34 #[.pointer (some ⟨b.q, 0, none⟩), .agg #[.int .i64 i1.r, .int .i64 i1.n], .agg #[.int .i64 0, .int .i64 3, .int .i64 0, .int .i64 e1.o.c, .int .i64 e1.o.s, .int .i64 e1.o.k, .string (txt e1.o.acct), .string (txt e1.o.peer), .int .i64 e1.o.sum, .slice L0.a L0.n L0.c, .int .i64 e1.o.per, .int .i64 e1.o.hold, .string (txt e1.o.note), .bool e1.none, .slice D.a D.n D.c]] w3 (KeepPost w3 col k b 1 n X (sl1 3 D)) from
  keep_ok w3 col k b 1 n X hr3.out (sl1 3 D) (sl1 1 D0) rfl (by show (3 : Int) ≠ 1; decide) (by show (findI X.S i1).getD _ = _; rw [hX.out.S]; rfl) (e1_mem w3 hD') (ok1 hD') nums1 (right1 D (.inr (.inr rfl))) (by have := rec1_len D (st := 3) (.inr (.inr rfl)); have := hX.out.l; unfold RpW; omega) i1_in rfl rfl (by show (3 : Int) ≠ 0; decide) (by rw [hX.out.S]; show (1 : Nat) + 1 < maxLen; decide))
 clear hD'
 replace hb3 := zH hb3
 go_wp2_with (first
  | (refine wpList_load_blk rfl 55 (.tmp 7) rfl (w.heap.size + 2) 0 rfl hb3.out [.int .i64 0, .int .i64 3, .int .i64 0, .int .i64 e1.o.c, .int .i64 e1.o.s, .int .i64 e1.o.k, .string (txt e1.o.acct), .string (txt e1.o.peer), .int .i64 e1.o.sum, .slice L0.a L0.n L0.c, .int .i64 e1.o.per, .int .i64 e1.o.hold, .string (txt e1.o.note), .bool e1.none, .slice D.a D.n D.c] rfl Tryz.underlying55 rfl slot_size ?_)
  | (refine wpList_load_blk rfl 27 (.tmp 4) rfl w.heap.size 0 rfl hbi3.out [.int .i64 i1.r, .int .i64 i1.n] rfl Tryz.underlying27 rfl inst_size ?_))
 refine kK.out.mono ?_
 rintro e w4 ⟨rfl, A4, c4, s4, col4, hr4, hx4, hm4⟩
 dsimp only
 have hM4 := zH ((hM3.out.any (own col k)).trans hm4)
 have hX4 := zH (show Ext w col col4 from fun j hj => hx4 j (Nat.lt_of_lt_of_le hj hM3.out.size))
 have hfar : ∀ j, w.heap.size ≤ j → j < w3.heap.size → True := fun _ _ _ => trivial
 have hN := zH (knownMe_ok w4 col4 k b 1 n _ hr4 i1 i1_in (by show findI X.K i1 = none; rw [hX.out.K]; rfl) (by show X.K.length + 1 < _; rw [hX.out.K]; decide) e1 L0 D (e1_mem w4 hD.out) (by show (0 : Nat) ≤ _; omega) (by rw [hD.out]; omega) (by decide) (fun l hl => by cases hl) rightE1 rfl (by show X.Tl.length + 1 < _; rw [htl.out]; decide))
 have hm4' := hm4
 have hx4' := hx4
 clear hm4 hx4 kK hr3 hfar
 replace hr4 := zH hr4
 have hc4 : ∀ j, w.heap.size ≤ j → j < w3.heap.size → ¬ own col k j ∧ ¬ own col4 k j := fun j h1 h2 => by
  have e1 := hcn j h1
  have e2 := hx4' j h2
  unfold own
  rw [e2, e1]
  exact ⟨fun h => hk9 h.symm, fun h => hk9 h.symm⟩
 have hc4' := zH hc4
 have hbi4 := zH (hbi3.out.mod hm4' (hc4 _ (by omega) hbi3.out.lt).1)
 have hbe4 := zH (hbe3.out.mod hm4' (hc4 _ (by omega) hbe3.out.lt).1)
 have hs4 : w3.heap.size ≤ w4.heap.size := hm4'.size
 clear hm4' hx4' hc4 hbi3 hbe3 hb3
 go_wp2_with (first
  | (refine wpList_load_blk rfl 53 (.tmp 5) rfl (w.heap.size + 1) 0 rfl hbe4.out [.int .i64 e1.o.c, .int .i64 e1.o.s, .int .i64 e1.o.k, .string (txt e1.o.acct), .string (txt e1.o.peer), .int .i64 e1.o.sum, .slice L0.a L0.n L0.c, .int .i64 e1.o.per, .int .i64 e1.o.hold, .string (txt e1.o.note), .bool e1.none, .slice D.a D.n D.c] rfl Tryz.underlying53 rfl entry_size ?_)
  | (refine wpList_load_blk rfl 27 (.tmp 4) rfl w.heap.size 0 rfl hbi4.out [.int .i64 i1.r, .int .i64 i1.n] rfl Tryz.underlying27 rfl inst_size ?_))
 refine hN.out.mono ?_
 rintro e w5 ⟨rfl, L5, D5, g5, col5, hr5, hE5, hmd5, hcg5, hx5, hm5⟩
 dsimp only
 have hdn5 : D5.n = 0 := by have h9 := hE5.rd.len; show D5.n = 0; rw [← h9]; rfl
 have hln5 : L5.n = 0 := by have h9 := RdL.len hE5.od.rd; rw [← h9]; rfl
 have hM5 := zH (hM4.out.own hX4.out hm5)
 have hX5 := zH (hX4.out.trans hx5 hM4.out.size)
 have hs5 : w4.heap.size ≤ w5.heap.size := hm5.size
 have hbi5 := zH (hbi4.out.mod hm5 (hc4'.out _ (by omega) (by omega)).2)
 have hc5 : ∀ j, w.heap.size ≤ j → j < w3.heap.size → ¬ own col5 k j := fun j h1 h2 => by
  have e3 := (hc4'.out j h1 h2).2
  unfold own at *
  rwa [hx5 j (by omega)]
 have hc5' := zH hc5
 have hr5q := zH hr5.q
 have kR := zH (run1_ok w5 col5 k b 1 n _ hr5 i1 e1 L5 D5 (by show putI' i1 _ X.K = _; rw [hX.out.K]; rfl) hdn5 (fun W => ⟨by rw [hln5]; exact rd_zero, by have := hE5.od.cap; omega⟩) rfl (by show findI X.D i1 = none; rw [hX.out.D]; rfl) (by show X.D.length + 1 < maxLen; rw [hX.out.D]; decide)
  rfl rightO1 (by omega) (fun l hl => by cases hl) (by show getV X.C _ = _; rw [hX.out.C]; rfl) (by decide) (by decide) (by show findI X.T _ = none; rw [hX.out.T]; rfl) (by show X.T.length + 1 < maxLen; rw [hX.out.T]; decide) (by show X.ln ≤ _; rw [hX.out.ln]; omega))
 have hlq5 := hr5.q.lt
 have cq4 : w5.cell? ⟨b.q, 4, none⟩ = some (.pointer (some ⟨b.rn.q, 0, none⟩)) := hr5.q.cell_ rfl
 clear hm5 hx5 hN hE5 hc5 hbi4 hbe4 hr5
 go_wp2_with fail
 refine kR.out.mono ?_
 rintro e w6 ⟨⟨v6, rfl⟩, A6, c6, col6, hr6, hx6, hm6⟩
 dsimp only
 have hM6 := zH (hM5.out.own hX5.out hm6)
 have hX6 := zH (hX5.out.trans hx6 hM5.out.size)
 have hbi6 := hbi5.out.mod hm6 (hc5'.out _ (by omega) (by omega))
 have hg5l := hmd5.lt
 have hgo6 : ¬ own col5 k g5 := by unfold own; rw [hcg5]; show ¬ (50 + k = k); omega
 have hmd6 := hmd5.mod hm6 hgo6
 have hcg6 : col6 g5 = (50 + k, 20) := (hx6 g5 hg5l).trans hcg5
 obtain ⟨w7, hrun7, hld7, hm7, hs7⟩ := MapK.drop_run (w := w6.drew) (hr6.ld.mod (Mod.refl none_ w6).drew (fun h => h)) Tryz.underlying84 i1_in 0
 unfold isVal at hrun7
 have hr6d := hr6.mod0 (Mod.refl none_ w6).drew
 have hr7 := zH (hr6d.set_ld hm7 (Off.one hr6d.lies (by simp [RpB.all])) hld7)
 have hM7 := zH (hM6.out.own hX6.out ((Mod.refl (own col6 k) w6).drew.trans (hm7.mono (fun j hj => own_one hr6.lies (c := 4) (by simp [RpB.all]) j hj))))
 have hmd7 := zH ((hmd6.mod (Mod.refl none_ w6).drew (fun h => h)).mod hm7 (fun e => by
  have e2 : g5 = b.ld := e
  have := (hr6.lies (b.ld, 4) (by simp [RpB.all])).2
  dsimp only at this
  rw [← e2, hcg6] at this
  simp at this))
 have hcg6' := zH hcg6
 have hq6 := hr6.q
 have lq6 := hq6.lt
 have li6 := hbi6.lt
 have cq6 : w6.cell? ⟨b.q, 5, none⟩ = some (.map (some b.ld)) := hq6.cell_ rfl
 have hbi6_0 := hbi6.cell_ (i := 0) rfl
 have hbi6_1 := hbi6.cell_ (i := 1) rfl
 clear hm6 hx6 hm7 hs7 hld7 hr6d kR cq4
 replace hq6 := zH hq6
 replace hbi6 := zH hbi6
 replace hr6 := zH hr6
 go_upto_region 8 with fail
 refine wp_region_still_tail 5 (by kernel_rfl) (by kernel_rfl) ?_
 simp only [List.take_succ_cons, List.take_zero, List.drop_succ_cons, List.drop_zero]
 change wpStill _ _ (World.drew _) _ _ _
 repeat still_step
 refine wpStill_nil ?_
 change wpList _ _ _ _ _ (World.drew _)
 go_wp2_with fail
 go_ret
 have hX' := hX.out
 exact ⟨rfl, g5, _, col6, hr7.out, ⟨by show putI' i1 _ X.S = _; rw [hX'.S]; rfl, rfl, rfl, rfl, by show X.ln + 1 = 1; rw [hX'.ln], by show ∀ u ∈ X.lv ++ odV e1.o L5, _; rw [hX'.lv]; exact odV_one _ _⟩, by show putI' i1 _ X.Tl = _; rw [htl.out]; rfl, hmd7.out, hcg6'.out, hX6.out, hM7.out⟩
theorem standMe_ok (w : World) (col : Col) (k : Nat) (b : RpB) (n : Int) (X : RpS) (h : RpM w col k b 1 n X) (D0 D : SV) (h0 : D0.n = 0) (hD : D.n = 0) (hX : Heard X D0) (htl : X.Tl = []) (hk9 : k ≠ 99) :
  Calls Tryz.prog 196 #[.pointer (some ⟨b.q, 0, none⟩), .agg #[.int .i64 i1.r, .int .i64 i1.n], .agg #[.int .i64 e1.o.c, .int .i64 e1.o.s, .int .i64 e1.o.k, .string (txt e1.o.acct), .string (txt e1.o.peer), .int .i64 e1.o.sum, .slice L0.a L0.n L0.c, .int .i64 e1.o.per, .int .i64 e1.o.hold, .string (txt e1.o.note), .bool e1.none, .slice D.a D.n D.c]] w (StandMePost w col k b n X D) := by
 refine (standMeAux_ok w (tint w col (99, 0)) k b n X (h.ext (tint_ext w col _)) D0 D h0 hD hX htl (fun j hj => tint_new hj) hk9).mono ?_
 rintro e w' ⟨h1, g, X', col', h2, h3, h4, h5, h6, h7, h8⟩
 exact ⟨h1, g, X', col', h2, h3, h4, h5, h6, (tint_ext w col _).trans h7 (Nat.le_refl _), own_tint h8⟩
end Go.Proofs.YtfkfiokkjjnhiaaGreat
namespace Go.Proofs.YtfkfiokkjjnhiaaGreat
open Go.RowKit
open Go.Maps (Keyed int_keyed)
theorem rangeK_it {w : World} {ops : Array Oper} {rest : List Oper} {o : Oper} {a : Act} {Q : Exit → Act → World → Prop} (hg : o.guard = none) (m : Operand) {t e : TypeId} (hop : o.op = Op.range t m) (ht : Tryz.prog.underlying t = some (.map 27 e)) (b : Nat) (L : List InstV) (hm : a.eval m = .map (some b)) (h : MapK w b L)
  (hK : ∀ w', ItK w' b w.heap.size L L → Mod none_ w w' → w'.heap.size = w.heap.size + 1 → wpList Tryz.prog ops Q rest (a.put o.dst (.pointer (some ⟨w.heap.size, 0, none⟩))) w') : wpList Tryz.prog ops Q (o :: rest) a w := by
 obtain ⟨D, ho1, ho2⟩ := h.tight
 refine wpList_range_own w hg m _ hop 27 e instKeyed ht VR b _ _ hm ho1 ?_
 intro w' h1 h2 h3
 refine hK w' ⟨_, D, _, _, h1, ho2, ?_⟩ ((Mod.of_grown h2).mono fun i hi => by cases hi) h3
 symm
 rw [List.filter_eq_self]
 intro p hp
 rw [ho2.has p.1 (ho2.wf p hp), findI_of_mem ho2.nodup (show (p.1, p.2) ∈ L from hp)]; rfl
theorem rangeN_it {w : World} {ops : Array Oper} {rest : List Oper} {o : Oper} {a : Act} {Q : Exit → Act → World → Prop} (hg : o.guard = none) (m : Operand) {t e : TypeId} (hop : o.op = Op.range t m) (ht : Tryz.prog.underlying t = some (.map 3 e)) (b : Nat) (L : List IntV) (hm : a.eval m = .map (some b)) (h : MapN w b L)
  (hK : ∀ w', ItN w' b w.heap.size L L → Mod none_ w w' → w'.heap.size = w.heap.size + 1 → wpList Tryz.prog ops Q rest (a.put o.dst (.pointer (some ⟨w.heap.size, 0, none⟩))) w') : wpList Tryz.prog ops Q (o :: rest) a w := by
 obtain ⟨D, ho1, ho2⟩ := h.tight
 refine wpList_range_own w hg m _ hop 3 e intKeyed ht VR b _ _ hm ho1 ?_
 intro w' h1 h2 h3
 refine hK w' ⟨_, D, _, _, h1, ho2, ?_⟩ ((Mod.of_grown h2).mono fun i hi => by cases hi) h3
 symm
 rw [List.filter_eq_self]
 intro p hp
 rw [ho2.has p.1 (ho2.wf p hp), findN_of_mem ho2.nodup (show (p.1, p.2) ∈ L from hp)]; rfl
def NilPost (w : World) (e : Ending) (w' : World) : Prop := ∃ A c, e = .returned (.slice A 0 c) ∧ Mod none_ w w'
theorem union0_ok (w : World) (A B : Option Addr) (c d : Nat) : Calls Tryz.prog 7 #[.slice A 0 c, .slice B 0 d] w (NilPost w) := by
 refine (union_ok w A B 0 0 c d [] [] rd_zero rd_zero (by omega) (by omega)).mono ?_
 rintro e w' ⟨A', n, c', u, rfl, _, hm, _, ho, _, hmd⟩
 have hu : u = [] := by
  cases u with
  | nil => rfl
  | cons x u => exact absurd ((hm x).1 List.mem_cons_self) (by simp)
 subst hu
 have hn : n = 0 := by have := OwP.len ho; simpa using this.symm
 subst hn
 exact ⟨A', c', rfl, hmd⟩
set_option maxRecDepth 100000
theorem waits0_ok (w : World) (q sl : Nat) (c3 : w.cell? ⟨q, 3, none⟩ = some (.map (some sl))) (hS : MapK w sl []) (i : Is) (o : Od) (L : SV) (A : Option Addr) (c : Nat) :
  Calls Tryz.prog 33 #[.pointer (some ⟨q, 0, none⟩), .agg #[.int .i64 i.r, .int .i64 i.n], .agg #[.int .i64 o.c, .int .i64 o.s, .int .i64 o.k, .string (txt o.acct), .string (txt o.peer), .int .i64 o.sum, .slice L.a L.n L.c, .int .i64 o.per, .int .i64 o.hold, .string (txt o.note)], .slice A 0 c] w (NilPost w) := by
 have hq := World.block_lt_of_cell? w _ c3
 dsimp only at hq
 obtain ⟨w0, hw0⟩ : ∃ w0, w0 = (w.alloc (.cells #[.int .i64 i.r, .int .i64 i.n] 27)).alloc (.cells #[.int .i64 o.c, .int .i64 o.s, .int .i64 o.k, .string (txt o.acct), .string (txt o.peer), .int .i64 o.sum, .slice L.a L.n L.c, .int .i64 o.per, .int .i64 o.hold, .string (txt o.note)] 40) := ⟨_, rfl⟩
 have hm0 : Mod none_ w w0 := by rw [hw0]; exact ((Mod.refl none_ w).alloc _).alloc _
 have hS0 := zH (hS.mod hm0 (fun h => h))
 have c0 : w0.cell? ⟨q, 3, none⟩ = some (.map (some sl)) := hm0.cell_some c3 (fun h => h)
 have hq0 := World.block_lt_of_cell? w0 _ c0
 dsimp only at hq0
 clear hS
 replace hm0 := zH hm0
 go_enter Tryz.func33, Tryz.ntmps33
 go_upto_region 1 with fail
 rw [← hw0]
 replace hw0 := zH hw0
 go_wp2_with (refine rangeK_it rfl (.tmp 14) rfl Tryz.underlying82 sl [] rfl hS0.out ?_; intro w1 hit hm hsz; replace hit := zH hit; have hm1 := zH (hm0.out.trans hm); clear hm hsz)
 go_frame
 go_loopw [3] (fun v wr => v = .slice A 0 c ∧ wr = w1) (fun _ _ => 0)
 case atStart => exact ⟨rfl, rfl⟩
 case round =>
  obtain ⟨rfl, rfl⟩ := hrel
  rcases hit.out.next 0 with ⟨_, hrun⟩ | ⟨p, w2, hpR, _⟩
  ·go_wp2_with fail
   refine (union0_ok _ A none c 0).mono ?_
   rintro e w2 ⟨A2, c2, rfl, hm2⟩
   dsimp only
   have hend := zH (hm1.out.trans hm2)
   clear hm2
   go_wp2_with fail
   go_ret
   exact ⟨A2, c2, rfl, hend.out⟩
  ·cases hpR
end Go.Proofs.YtfkfiokkjjnhiaaGreat
