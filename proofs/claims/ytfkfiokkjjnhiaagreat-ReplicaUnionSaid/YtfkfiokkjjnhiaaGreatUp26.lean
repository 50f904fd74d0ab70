import Derived.Test.YtfkfiokkjjnhiaaGreatUp25
set_option linter.unusedVariables false
set_option linter.unusedSimpArgs false
set_option maxHeartbeats 16000000
namespace Go.Proofs.YtfkfiokkjjnhiaaGreat
open Go.RowKit
def idI (o : Od) : Is := ⟨o.c, o.s⟩
def odV (o : Od) (L : SV) : List Value := [.int .i64 o.c, .int .i64 o.s, .int .i64 o.k, .string (txt o.acct), .string (txt o.peer), .int .i64 o.sum, .slice L.a L.n L.c, .int .i64 o.per, .int .i64 o.hold, .string (txt o.note)]
def didV (i : Is) (o : Od) : Value := .agg #[.int .i64 i.r, .int .i64 i.n, .int .i64 o.c, .int .i64 o.s, .int .i64 6, .int .i64 0, .int .i64 0, .int .i64 0, .bool false]
def DoPost (w : World) (col : Col) (k : Nat) (b : RpB) (me n : Int) (X : RpS) (i : Is) (o : Od) (L : SV) (e : Ending) (w' : World) : Prop :=
 e = .returned (didV i o) ∧ ∃ A c col', RpM w' col' k b me n { X with T := putI' (idI o) rep6 X.T, LA := A, ln := X.ln + 1, lc := c, lv := X.lv ++ odV o L } ∧ Ext w col col' ∧ Mod (own col k) w w'
theorem id_size : (Tryz.prog.info? 37).map (·.size) = some 2 := by kernel_rfl
theorem did_size : (Tryz.prog.info? 174).map (·.size) = some 9 := by kernel_rfl
set_option maxRecDepth 100000
theorem zeroRep_run (w : World) : (zeroValue 156).run Tryz.prog w = .ok (.agg #[.int .i64 0, .int .i64 0, .int .i64 0, .int .i64 0]) w := by rfl
theorem odV_one (o : Od) (L : SV) : ∀ u ∈ odV o L, u.oneCell' = true := by
 intro u hu
 simp only [odV, List.mem_cons, List.not_mem_nil, or_false] at hu
 rcases hu with rfl | rfl | rfl | rfl | rfl | rfl | rfl | rfl | rfl | rfl <;> rfl
theorem doAux_ok (w : World) (col : Col) (k : Nat) (b : RpB) (me n : Int) (X : RpS) (h : RpM w col k b me n X) (i : Is) (o : Od) (L : SV) (ho : OdM w o L) (hk : o.k = 7) (hr : rightO o = true) (hL : L.n ≤ 140737488355328) (hz : ∀ l ∈ o.legs, (txt l.n).size ≤ maxLen)
  (hg : getV X.C o.acct = (zeroA, 6)) (hsz : (txt o.acct).size ≤ maxLen) (hid : inI (idI o)) (hT : findI X.T (idI o) = none) (hTl : X.T.length + 1 < maxLen) (hln : X.ln ≤ 1000000) (hcn : ∀ j, w.heap.size ≤ j → col j = (k, 17)) :
  Calls Tryz.prog 91 #[.pointer (some ⟨b.rn.q, 0, none⟩), .agg #[.int .i64 i.r, .int .i64 i.n], .agg #[.int .i64 o.c, .int .i64 o.s, .int .i64 o.k, .string (txt o.acct), .string (txt o.peer), .int .i64 o.sum, .slice L.a L.n L.c, .int .i64 o.per, .int .i64 o.hold, .string (txt o.note)]] w (DoPost w col k b me n X i o L) := by
 have hrq := h.rn.q
 have hlq := hrq.lt
 obtain ⟨w0, hw0⟩ : ∃ w0, w0 = (((w.alloc (.cells #[.int .i64 i.r, .int .i64 i.n] 27)).alloc (.cells #[.int .i64 o.c, .int .i64 o.s, .int .i64 o.k, .string (txt o.acct), .string (txt o.peer), .int .i64 o.sum, .slice L.a L.n L.c, .int .i64 o.per, .int .i64 o.hold, .string (txt o.note)] 40)).alloc (.cells #[.int .i64 0, .int .i64 0, .int .i64 0, .int .i64 0, .int .i64 0, .int .i64 0, .int .i64 0, .int .i64 0, .bool false] 174)) := ⟨_, rfl⟩
 have hs0 : w0.heap.size = w.heap.size + 3 := by rw [hw0]; simp
 have hm0 : Mod none_ w w0 := by rw [hw0]; exact (((Mod.refl none_ w).alloc _).alloc _).alloc _
 have hbi : Blk w0 w.heap.size 27 #[.int .i64 i.r, .int .i64 i.n] := by rw [hw0]; exact ((Blk.new w _ _).alloc _).alloc _
 have hbo : Blk w0 (w.heap.size + 1) 40 #[.int .i64 o.c, .int .i64 o.s, .int .i64 o.k, .string (txt o.acct), .string (txt o.peer), .int .i64 o.sum, .slice L.a L.n L.c, .int .i64 o.per, .int .i64 o.hold, .string (txt o.note)] := by
  have := (Blk.new (w.alloc (.cells #[.int .i64 i.r, .int .i64 i.n] 27)) 40 #[.int .i64 o.c, .int .i64 o.s, .int .i64 o.k, .string (txt o.acct), .string (txt o.peer), .int .i64 o.sum, .slice L.a L.n L.c, .int .i64 o.per, .int .i64 o.hold, .string (txt o.note)]).alloc (.cells #[.int .i64 0, .int .i64 0, .int .i64 0, .int .i64 0, .int .i64 0, .int .i64 0, .int .i64 0, .int .i64 0, .bool false] 174)
  rw [hw0]; simpa using this
 have hbd : Blk w0 (w.heap.size + 2) 174 #[.int .i64 0, .int .i64 0, .int .i64 0, .int .i64 0, .int .i64 0, .int .i64 0, .int .i64 0, .int .i64 0, .bool false] := by
  have := Blk.new ((w.alloc (.cells #[.int .i64 i.r, .int .i64 i.n] 27)).alloc (.cells #[.int .i64 o.c, .int .i64 o.s, .int .i64 o.k, .string (txt o.acct), .string (txt o.peer), .int .i64 o.sum, .slice L.a L.n L.c, .int .i64 o.per, .int .i64 o.hold, .string (txt o.note)] 40)) 174 #[.int .i64 0, .int .i64 0, .int .i64 0, .int .i64 0, .int .i64 0, .int .i64 0, .int .i64 0, .int .i64 0, .bool false]
  rw [hw0]; simpa using this
 have h0 := zH (h.mod0 hm0)
 have hzR := zH (Blk.new w0.drew 156 #[.int .i64 0, .int .i64 0, .int .i64 0, .int .i64 0])
 rw [show w0.drew.heap.size = w.heap.size + 3 from hs0] at hzR
 clear hrq
 replace h := zH h
 replace hm0 := zH hm0
 replace hbi := zH hbi
 replace hbo := zH hbo
 replace hbd := zH hbd
 replace ho := zH ho
 replace hr := zH hr
 replace hg := zH hg
 replace hT := zH hT
 replace hid := zH hid
 replace hTl := zH hTl
 replace hk := zH hk
 go_enter Tryz.func91, Tryz.ntmps91
 go_upto_region 1 with fail
 rw [← hw0]
 replace hw0 := zH hw0
 refine wp_region_held_drew (S := fun W => Mod none_ w0 W) (by kernel_rfl) (Mod.refl none_ w0).drew (fun hHeld => ?_)
 refine tkZ 0 ?_ rfl ?_ ?_
 rotate_left
 ·intro W hSw; (try dsimp only at hSw); go_simp; (try with_reducible rfl)
 try simp only [Act.put, q1Z, q2Z, q3Z, q4Z, q5Z, q6Z]
 refine tkZ 1 ?_ rfl ?_ ?_
 rotate_left
 ·intro W hSw; (try dsimp only at hSw); go_simp; (try with_reducible rfl)
 try simp only [Act.put, q1Z, q2Z, q3Z, q4Z, q5Z, q6Z]
 refine tkZ 2 ?_ rfl ?_ ?_
 rotate_left
 ·intro W hSw; (try dsimp only at hSw); go_simp; (try with_reducible rfl)
 try simp only [Act.put, q1Z, q2Z, q3Z, q4Z, q5Z, q6Z]
 refine tkZ 3 ?_ rfl ?_ ?_
 rotate_left
 ·intro W hSw; have c3 := (h0.out.rn.q.mod hSw (fun h => h)).cell_ (i := 2) rfl; go_simp; (try with_reducible rfl)
 try simp only [Act.put, q1Z, q2Z, q3Z, q4Z, q5Z, q6Z]
 refine tkZ 4 ?_ rfl ?_ ?_
 rotate_left
 ·intro W hSw; (try dsimp only at hSw); go_simp; (try with_reducible rfl)
 try simp only [Act.put, q1Z, q2Z, q3Z, q4Z, q5Z, q6Z]
 refine wpAnyH_take (i := 5) rfl (by kernel_rfl) (by kernel_rfl) (by kernel_rfl) (fun _ _ _ h => h) (yieldsIf_load_mid (by rfl) 37 (.tmp 14) rfl (w.heap.size + 1) 0 rfl [.int .i64 o.c, .int .i64 o.s] _ (fun W hW => Blk.range (hbo.out.mod hW (fun h => h)) 0 _ rfl) Tryz.underlying37 rfl id_size) (by assumption) ?_
 try simp only [Act.put, q1Z, q2Z, q3Z, q4Z, q5Z, q6Z]
 refine tkZ 6 ?_ rfl ?_ ?_
 rotate_left
 ·intro W hSw; have lk := (h0.out.rn.tl.mod hSw (fun h => h)).look_run (t := 144) Tryz.underlying144 (zeroRep_run _) hid.out; rw [hT.out] at lk; unfold isVal idI at lk; simp only [Option.getD_none, Option.isSome_none] at lk; go_simp; (try with_reducible rfl)
 try simp only [Act.put, q1Z, q2Z, q3Z, q4Z, q5Z, q6Z]
 refine tkZ 7 ?_ rfl ?_ ?_
 rotate_left
 ·intro W hSw; (try dsimp only at hSw); go_simp; (try with_reducible rfl)
 try simp only [Act.put, q1Z, q2Z, q3Z, q4Z, q5Z, q6Z]
 refine tkZ 8 ?_ rfl ?_ ?_
 rotate_left
 ·intro W hSw; (try dsimp only at hSw); go_simp; (try with_reducible rfl)
 try simp only [Act.put, q1Z, q2Z, q3Z, q4Z, q5Z, q6Z]
 refine tkZ 9 ?_ rfl ?_ ?_
 rotate_left
 ·intro W hSw; (try dsimp only at hSw); go_simp; (try with_reducible rfl)
 try simp only [Act.put, q1Z, q2Z, q3Z, q4Z, q5Z, q6Z]
 refine rdZ 10 rfl (fun K hK => ?_)
 go_simp
 have hma := (Mod.refl none_ w0).drew.alloc (.cells #[.int .i64 0, .int .i64 0, .int .i64 0, .int .i64 0] 156)
 refine hK.out _ _ (hma) (fun hHeld => ?_)
 clear hK K
 try simp only [Act.put, q1Z, q2Z, q3Z, q4Z, q5Z, q6Z]
 refine rdZ 11 rfl (fun K hK => ?_)
 refine step_store_blk rfl 156 (.tmp 7) (.tmp 17) rfl (w.heap.size + 3) 0 _ rfl rfl hzR.out (by simp) reply_size (by rfl) #[.int .i64 0, .int .i64 0, .int .i64 0, .int .i64 0] rfl ?_
 intro w1 hb1 hm1
 have hm1' := hma.in_new (g := w.heap.size + 3) (by omega) hm1
 refine hK.out _ _ (hm1') (fun hHeld => ?_)
 clear hK K
 try simp only [Act.put, q1Z, q2Z, q3Z, q4Z, q5Z, q6Z]
 refine rdZ 12 rfl (fun K hK => ?_)
 go_simp
 refine hK.out _ _ (hm1') (fun hHeld => ?_)
 clear hK K
 try simp only [Act.put, q1Z, q2Z, q3Z, q4Z, q5Z, q6Z]
 refine wpAnyH_done (by kernel_rfl) ?_ _
 clear hHeld hzR hma hm1
 have h1 := zH (h0.out.mod0 hm1')
 have hM1 := zH (hm0.out.trans hm1')
 have hbi1 := zH (hbi.out.mod hm1' (fun h => h))
 have hbo1 := zH (hbo.out.mod hm1' (fun h => h))
 have hbd1 := zH (hbd.out.mod hm1' (fun h => h))
 have hs1 : w0.heap.size ≤ w1.heap.size := hm1'.size
 have kB := zH (bookDo_ok w1.drew b.rn X.C X.cl (h1.out.rn.book.mod (Mod.refl none_ w1).drew (fun h => h) (fun h => h) (fun h => h) (fun h => h) (fun h => h)) o L ((ho.out.mod0 hM1.out).mod0 (Mod.refl none_ w1).drew) hk.out hr.out hL hz hg.out hsz)
 have hlq1 := h1.out.rn.q.lt
 have hqs : b.rn.q < w.heap.size := hlq
 clear h0 hm1'
 replace hb1 := zH hb1
 go_upto_region 3 with fail
 refine wp_region_held_drew (S := fun W => Mod (only (w.heap.size + 3)) w1 W) (by kernel_rfl) (Mod.refl (only (w.heap.size + 3)) w1).drew (fun hHeld => ?_)
 refine tkZ 0 ?_ rfl ?_ ?_
 rotate_left
 ·intro W hSw; (try dsimp only at hSw); go_simp; (try with_reducible rfl)
 try simp only [Act.put, q1Z, q2Z, q3Z, q4Z, q5Z, q6Z]
 refine tkZ 1 ?_ rfl ?_ ?_
 rotate_left
 ·intro W hSw; (try dsimp only at hSw); go_simp; (try with_reducible rfl)
 try simp only [Act.put, q1Z, q2Z, q3Z, q4Z, q5Z, q6Z]
 refine tkZ 2 ?_ rfl ?_ ?_
 rotate_left
 ·intro W hSw; (try dsimp only at hSw); go_simp; (try with_reducible rfl)
 try simp only [Act.put, q1Z, q2Z, q3Z, q4Z, q5Z, q6Z]
 refine tkZ 3 ?_ rfl ?_ ?_
 rotate_left
 ·intro W hSw; have c3 := (h1.out.rn.q.mod hSw (fun h => by have e2 : b.rn.q = w.heap.size + 3 := h; omega)).cell_ (i := 4) rfl; go_simp; (try with_reducible rfl)
 try simp only [Act.put, q1Z, q2Z, q3Z, q4Z, q5Z, q6Z]
 refine wpAnyH_take (i := 4) rfl (by kernel_rfl) (by kernel_rfl) (by kernel_rfl) (fun _ _ _ h => h) (yieldsIf_load_mid (by rfl) 40 (.tmp 5) rfl (w.heap.size + 1) 0 rfl [.int .i64 o.c, .int .i64 o.s, .int .i64 o.k, .string (txt o.acct), .string (txt o.peer), .int .i64 o.sum, .slice L.a L.n L.c, .int .i64 o.per, .int .i64 o.hold, .string (txt o.note)] _ (fun W hW => Blk.range (hbo1.out.mod hW (fun h => by have e2 : w.heap.size + 1 = w.heap.size + 3 := h; omega)) 0 _ rfl) Tryz.underlying40 rfl order_size) (by assumption) ?_
 try simp only [Act.put, q1Z, q2Z, q3Z, q4Z, q5Z, q6Z]
 refine rdZ 5 rfl (fun K hK => ?_)
 go_simp
 refine kB.out.mono ?_
 rintro e w2 ⟨rfl, hm2⟩
 dsimp only [rep6]
 have hm2' := (Mod.refl none_ w1).drew.trans hm2
 refine hK.out _ _ ((hm2'.any _)) (fun hHeld => ?_)
 clear hK K
 try simp only [Act.put, q1Z, q2Z, q3Z, q4Z, q5Z, q6Z]
 refine rdZ 6 rfl (fun K hK => ?_)
 have hb2 := hb1.out.mod hm2' (fun h => h)
 refine step_store_blk rfl 156 (.tmp 7) (.tmp 26) rfl (w.heap.size + 3) 0 _ rfl rfl hb2 (by simp) reply_size (by rfl) #[.int .i64 6, .int .i64 0, .int .i64 0, .int .i64 0] rfl ?_
 intro w3 hb3 hm3
 have hm3' := (hm2'.any (only (w.heap.size + 3))).trans hm3
 refine hK.out _ _ (hm3') (fun hHeld => ?_)
 clear hK K
 try simp only [Act.put, q1Z, q2Z, q3Z, q4Z, q5Z, q6Z]
 refine wpAnyH_done (by kernel_rfl) ?_ _
 clear hHeld hb2 hm3 hm2 hm2' hb1
 have hM3 := zH (hM1.out.in_new (g := w.heap.size + 3) (by omega) hm3')
 have h3 := zH (h.out.mod0 hM3.out)
 have hbi3 := zH (hbi1.out.mod hm3' (fun h => by have e2 : w.heap.size = w.heap.size + 3 := h; omega))
 have hbo3 := hbo1.out.mod hm3' (fun h => by have e2 : w.heap.size + 1 = w.heap.size + 3 := h; omega)
 have hbd3 := zH (hbd1.out.mod hm3' (fun h => by have e2 : w.heap.size + 2 = w.heap.size + 3 := h; omega))
 have hs3 : w1.heap.size ≤ w3.heap.size := hm3'.size
 clear hm3' h1 hbi1 hbo1 hbd1 hM1 kB hlq1
 obtain ⟨w4, hrun4, htl4, hm4, hs4⟩ := MapD.store_run (w := w3.drew) (h3.out.rn.tl.mod (Mod.refl none_ w3).drew (fun h => h)) Tryz.underlying144 hTl.out hid.out rep6
 unfold isVal rep6 idI at hrun4
 have hq3 := h3.out.rn.q
 have hlq3 := hq3.lt
 have hlo3 := hbo3.lt
 have hlb3 := hb3.lt
 have htlo : b.rn.tl < w.heap.size := (h.out.lies (b.rn.tl, 11) (by simp [RpB.all])).1
 have hq3_0 := hq3.cell_ (i := 0) rfl
 have hq3_1 := hq3.cell_ (i := 1) rfl
 have hq3_2 := hq3.cell_ (i := 2) rfl
 have hq3_3 := hq3.cell_ (i := 3) rfl
 have hq3_4 := hq3.cell_ (i := 4) rfl
 have hbo3_0 := hbo3.cell_ (i := 0) rfl
 have hbo3_1 := hbo3.cell_ (i := 1) rfl
 have hb3_0 := hb3.cell_ (i := 0) rfl
 have hb3_1 := hb3.cell_ (i := 1) rfl
 have hb3_2 := hb3.cell_ (i := 2) rfl
 have hb3_3 := hb3.cell_ (i := 3) rfl
 have hne : b.rn.q ≠ b.rn.tl := h.out.lies.ne (c := 8) (c' := 11) (by simp [RpB.all]) (by simp [RpB.all]) (by decide)
 have hm4' : Mod (· = b.rn.tl) w3 w4 := (Mod.refl (· = b.rn.tl) w3).drew.trans hm4
 have h3' := h3.out
 have h4 := zH (h3'.set_rn hm4' (by
   intro j hj hh c hc e
   have e2 : j = b.rn.tl := hh
   subst e2
   have := (h3'.lies (b.rn.tl, 11) (by simp [RpB.all])).2
   rw [this] at e
   simp only [Prod.mk.injEq, true_and] at e
   exact hc (by simp [← e]))
  (K := X.K) (D := X.D) (T := putI' (idI o) rep6 X.T) (A := X.LA) (ln := X.ln) (c := X.lc) (C := X.C) (cl := X.cl) (lv := X.lv)
  ⟨h3'.rn.q.mod hm4' hne, h3'.rn.kn.mod hm4' (h3'.lies.ne (c := 9) (c' := 11) (by simp [RpB.all]) (by simp [RpB.all]) (by decide)), h3'.rn.dn.mod hm4' (h3'.lies.ne (c := 10) (c' := 11) (by simp [RpB.all]) (by simp [RpB.all]) (by decide)), htl4,
   h3'.rn.book.mod hm4' (h3'.lies.ne (c := 12) (c' := 11) (by simp [RpB.all]) (by simp [RpB.all]) (by decide)) (h3'.lies.ne (c := 13) (c' := 11) (by simp [RpB.all]) (by simp [RpB.all]) (by decide)) (h3'.lies.ne (c := 14) (c' := 11) (by simp [RpB.all]) (by simp [RpB.all]) (by decide)) (h3'.lies.ne (c := 15) (c' := 11) (by simp [RpB.all]) (by simp [RpB.all]) (by decide)) (h3'.lies.ne (c := 16) (c' := 11) (by simp [RpB.all]) (by simp [RpB.all]) (by decide))⟩
  (h3'.la.grow (Ext.refl _ _) hm4'.size) (h3'.ls.mod hm4' (fun j hj hh => by
   have e2 : j = b.rn.tl := hh
   subst e2
   have e3 := (h3'.la _ hj).2
   rw [(h3'.lies (b.rn.tl, 11) (by simp [RpB.all])).2] at e3
   simp at e3)))
 have hbi4 := zH (hbi3.out.mod hm4' (fun h => by have e2 : w.heap.size = b.rn.tl := h; omega))
 have hbo4 := zH (hbo3.mod hm4' (fun h => by have e2 : w.heap.size + 1 = b.rn.tl := h; omega))
 have hbd4 := zH (hbd3.out.mod hm4' (fun h => by have e2 : w.heap.size + 2 = b.rn.tl := h; omega))
 have hbr4 := zH (hb3.mod hm4' (fun h => by have e2 : w.heap.size + 3 = b.rn.tl := h; omega))
 have hm4w := zH ((hM3.out.any (own col k)).trans (hm4'.mono (fun j hj => own_one h.out.lies (c := 11) (by simp [RpB.all]) j hj)))
 have hs4' : w3.heap.size ≤ w4.heap.size := hm4'.size
 clear hm4' hm4 htl4 h3' hs4
 replace hq3 := zH hq3
 replace hbo3 := zH hbo3
 replace hb3 := zH hb3
 replace hne := zH hne
 go_upto_region 4 with fail
 refine wp_region_still_tail 7 (by kernel_rfl) (by kernel_rfl) ?_
 simp only [List.take_succ_cons, List.take_zero, List.drop_succ_cons, List.drop_zero]
 change wpStill _ _ (World.drew _) _ _ _
 repeat still_step
 refine wpStill_nil ?_
 change wpList _ _ _ _ _ (World.drew _)
 go_upto_region 5 with fail
 have hq4 := zH h4.out.rn.q
 have hla4 := zH h4.out.la
 have hlies4 := zH h4.out.lies
 have hqA : Hid (¬ fp X.LA b.rn.q) := zH (fun hf => by
  have e3 := (hla4.out _ hf).2
  rw [(hlies4.out (b.rn.q, 8) (by simp [RpB.all])).2] at e3
  simp at e3)
 have hoA : Hid (¬ fp X.LA (w.heap.size + 1)) := zH (fun hf => by have := (h.out.la _ hf).1; omega)
 have hql4 := hq4.out.lt
 have hMa := zH ((Mod.refl (fp X.LA) w4).drew.alloc (.cells #[.int .i64 o.c, .int .i64 o.s, .int .i64 o.k, .string (txt o.acct), .string (txt o.peer), .int .i64 o.sum, .slice L.a L.n L.c, .int .i64 o.per, .int .i64 o.hold, .string (txt o.note)] 40))
 have hoa := zH (Ow.mod0 h4.out.ls ((Mod.refl none_ w4).drew.alloc (.cells #[.int .i64 o.c, .int .i64 o.s, .int .i64 o.k, .string (txt o.acct), .string (txt o.peer), .int .i64 o.sum, .slice L.a L.n L.c, .int .i64 o.per, .int .i64 o.hold, .string (txt o.note)] 40)))
 have hra := zH (show Rd (w4.drew.alloc (.cells #[.int .i64 o.c, .int .i64 o.s, .int .i64 o.k, .string (txt o.acct), .string (txt o.peer), .int .i64 o.sum, .slice L.a L.n L.c, .int .i64 o.per, .int .i64 o.hold, .string (txt o.note)] 40)) 10 (some ⟨w4.heap.size, 0, none⟩) 1 (odV o L) from rdn w4.drew 40 10 1 w4.heap.size #[.int .i64 o.c, .int .i64 o.s, .int .i64 o.k, .string (txt o.acct), .string (txt o.peer), .int .i64 o.sum, .slice L.a L.n L.c, .int .i64 o.per, .int .i64 o.hold, .string (txt o.note)] (0, 0) rfl rfl)
 obtain ⟨i0, hi0, hz0, hz1, hz2⟩ := info_parts cloneOd_info
 have c4 : w4.cell? ⟨b.rn.q, 3, none⟩ = some (.slice X.LA X.ln X.lc) := hq4.out.cell_ rfl
 refine wp_region_held_drew (S := fun W => Mod (fun j => fp X.LA j ∨ j = b.rn.q) w4 W) (by kernel_rfl) (Mod.refl _ w4).drew (fun hHeld => ?_)
 refine tkZ 0 ?_ rfl ?_ ?_
 rotate_left
 ·intro W hSw; (try dsimp only at hSw); go_simp; (try with_reducible rfl)
 try simp only [Act.put, q1Z, q2Z, q3Z, q4Z, q5Z, q6Z]
 refine tkZ 1 ?_ rfl ?_ ?_
 rotate_left
 ·intro W hSw; (try dsimp only at hSw); go_simp; (try with_reducible rfl)
 try simp only [Act.put, q1Z, q2Z, q3Z, q4Z, q5Z, q6Z]
 refine tkZ 2 ?_ rfl ?_ ?_
 rotate_left
 ·intro W hSw; (try dsimp only at hSw); go_simp; (try with_reducible rfl)
 try simp only [Act.put, q1Z, q2Z, q3Z, q4Z, q5Z, q6Z]
 refine tkZ 3 ?_ rfl ?_ ?_
 rotate_left
 ·intro W hSw; (try dsimp only at hSw); go_simp; (try with_reducible rfl)
 try simp only [Act.put, q1Z, q2Z, q3Z, q4Z, q5Z, q6Z]
 refine wpAnyH_take (i := 5) rfl (by kernel_rfl) (by kernel_rfl) (by kernel_rfl) (fun _ _ _ h => h) (yieldsIf_load_mid (by rfl) 40 (.tmp 5) rfl (w.heap.size + 1) 0 rfl [.int .i64 o.c, .int .i64 o.s, .int .i64 o.k, .string (txt o.acct), .string (txt o.peer), .int .i64 o.sum, .slice L.a L.n L.c, .int .i64 o.per, .int .i64 o.hold, .string (txt o.note)] _ (fun W hW => Blk.range (hbo4.out.mod hW (fun h => h.elim hoA.out (fun e => by omega))) 0 _ rfl) Tryz.underlying40 rfl order_size) (by assumption) ?_
 try simp only [Act.put, q1Z, q2Z, q3Z, q4Z, q5Z, q6Z]
 refine wpAnyH_ready (rs := [4, 6]) (by kernel_rfl) (by simp) ?_
 refine AllReadyH.cons rfl (fun K hK => ?_) (AllReadyH.cons rfl (fun K hK => ?_) AllReadyH.nil)
 focus
  go_simp
  refine hK.out _ _ ((Mod.refl _ w4).drew) (fun hHeld => ?_)
  clear hK K
  try simp only [Act.put, q1Z, q2Z, q3Z, q4Z, q5Z, q6Z]
  refine rdZ 6 rfl (fun K hK => ?_)
  go_simp
  refine hK.out _ _ ((hMa.out.mono fun j hj => .inl hj)) (fun hHeld => ?_)
  clear hK K
  try simp only [Act.put, q1Z, q2Z, q3Z, q4Z, q5Z, q6Z]
  refine rdZ 7 rfl (fun K hK => ?_)
  refine step_append_ow (by rfl) (.tmp 38) (.tmp 40) 30 (by rfl) 40 i0 _ 10 120 Tryz.underlying30 hi0 hz0 hz1 hz2 rfl (by omega) X.LA X.ln X.lc X.lv (by rfl) hoa.out (some ⟨w4.heap.size, 0, none⟩) 1 1 (odV o L) (by rfl) hra.out (odV_one o L) (by omega) (by omega) ?_
  intro A5 c5 w5 ho5 hm5 hA5
  have hm5' := hMa.out.trans hm5
  refine hK.out _ _ ((hm5'.mono fun j hj => .inl hj)) (fun hHeld => ?_)
  clear hK K
  try simp only [Act.put, q1Z, q2Z, q3Z, q4Z, q5Z, q6Z]
  refine tkZ 8 ?_ rfl ?_ ?_
  rotate_left
  ·intro W hSw; (try dsimp only at hSw); go_simp; (try with_reducible rfl)
  try simp only [Act.put, q1Z, q2Z, q3Z, q4Z, q5Z, q6Z]
  refine tkZ 9 ?_ rfl ?_ ?_
  rotate_left
  ·intro W hSw; (try dsimp only at hSw); go_simp; (try with_reducible rfl)
  try simp only [Act.put, q1Z, q2Z, q3Z, q4Z, q5Z, q6Z]
  have hq5 := hq4.out.mod hm5' hqA.out
  have fr5 := hq5.frozen 3
  have cq5 := hq5.cell_ (i := 3) rfl
  have hlq5 := hq5.lt
  obtain ⟨w6, hw6⟩ : ∃ w6, w6 = w5.setCell ⟨b.rn.q, 3, none⟩ (.slice A5 (X.ln + 1) c5) := ⟨_, rfl⟩
  have hm56 : Mod (· = b.rn.q) w5 w6 := by rw [hw6]; exact Mod.setCell (Mod.refl (· = b.rn.q) w5) (p := ⟨b.rn.q, 3, none⟩) (.inl rfl) _
  have hq6 := hq5.set_ 3 (.slice A5 (X.ln + 1) c5)
  simp only [List.setIfInBounds_toArray, List.set_cons_succ, List.set_cons_zero] at hq6
  rw [← hw6] at hq6
  replace hq5 := zH hq5
  replace hq6 := zH hq6
  replace hm56 := zH hm56
  replace ho5 := zH ho5
  replace hm5 := zH hm5
  replace hm5' := zH hm5'
  replace hw6 := zH hw6
  refine rdZ 10 rfl (fun K hK => ?_)
  go_simp
  rw [← hw6.out]
  have hS6 : Mod (fun j => fp X.LA j ∨ j = b.rn.q) w4 w6 := (hm5'.out.mono fun j hj => .inl hj).trans (hm56.out.mono fun j hj => .inr hj)
  refine hK.out _ _ (hS6) (fun hHeld => ?_)
  clear hK K
  try simp only [Act.put, q1Z, q2Z, q3Z, q4Z, q5Z, q6Z]
  refine wpAnyH_done (by kernel_rfl) ?_ _
  clear hHeld
  have h4e := h4.out
  have hO := Off.or (Off.arr h4e.la) (Off.one h4e.lies (g := b.rn.q) (c := 8) (by simp [RpB.all]))
  have hO' : Off w4 col k [8, 9, 10, 11, 12, 13, 14, 15, 16, 17] (fun j => fp X.LA j ∨ j = b.rn.q) := fun j hj hf c hc => hO j hj hf c (fun hh => hc (by simp at hh ⊢; omega))
  have hnA : ¬ fp A5 b.rn.q := Ow.ne_blk ho5.out hq5.out (by decide)
  have ho6 := Ow.mod ho5.out hm56.out (fun j hj hh => hnA (by have e2 : j = b.rn.q := hh; rwa [e2] at hj))
  have harr : Arr w6 col k 17 A5 := by
   intro j hj
   refine ⟨ho6.lt j hj, ?_⟩
   rcases hA5 with rfl | rfl
   ·exact (h4e.la j hj).2
   ·obtain ⟨a, ha, rfl⟩ := hj
    cases ha
    exact hcn _ (by simp; omega)
  have h6 := zH (h4e.set_rn hS6 hO' (K := X.K) (D := X.D) (T := putI' (idI o) rep6 X.T) (A := A5) (ln := X.ln + 1) (c := c5) (C := X.C) (cl := X.cl) (lv := X.lv ++ odV o L)
   ⟨hq6.out, h4e.rn.kn.mod hS6 (hO.nf h4e.lies (c := 9) (by simp [RpB.all]) (by decide)), h4e.rn.dn.mod hS6 (hO.nf h4e.lies (c := 10) (by simp [RpB.all]) (by decide)), h4e.rn.tl.mod hS6 (hO.nf h4e.lies (c := 11) (by simp [RpB.all]) (by decide)),
    h4e.rn.book.mod hS6 (hO.nf h4e.lies (c := 12) (by simp [RpB.all]) (by decide)) (hO.nf h4e.lies (c := 13) (by simp [RpB.all]) (by decide)) (hO.nf h4e.lies (c := 14) (by simp [RpB.all]) (by decide)) (hO.nf h4e.lies (c := 15) (by simp [RpB.all]) (by decide)) (hO.nf h4e.lies (c := 16) (by simp [RpB.all]) (by decide))⟩ harr ho6)
  have hfar : ∀ j, w.heap.size ≤ j → ¬ (fp X.LA j ∨ j = b.rn.q) := by
   rintro j hj (hf | rfl)
   ·have := (h.out.la _ hf).1; omega
   ·omega
  have hbi6 := hbi4.out.mod hS6 (hfar _ (Nat.le_refl _))
  have hbo6 := hbo4.out.mod hS6 (hfar _ (by omega))
  have hbd6 := hbd4.out.mod hS6 (hfar _ (by omega))
  have hbr6 := hbr4.out.mod hS6 (hfar _ (by omega))
  have hM6 := zH (hm4w.out.trans (hS6.mono (fun j hj => hj.elim (fun hf => own_arr h.out.la j hf) (fun e => own_one h.out.lies (c := 8) (by simp [RpB.all]) j e))))
  have hfA : Hid (¬ fp A5 (w.heap.size + 2)) := zH (by
   rcases hA5 with rfl | rfl
   ·exact hfar _ (by omega) ∘ Or.inl
   ·rintro ⟨a, ha, hh⟩; cases ha; simp at hh; omega)
  have li6 := hbi6.lt
  have lo6 := hbo6.lt
  have lr6 := hbr6.lt
  have hbi6_0 := hbi6.cell_ (i := 0) rfl
  have hbi6_1 := hbi6.cell_ (i := 1) rfl
  have hbo6_0 := hbo6.cell_ (i := 0) rfl
  have hbo6_1 := hbo6.cell_ (i := 1) rfl
  have hbr6_0 := hbr6.cell_ (i := 0) rfl
  have hbr6_1 := hbr6.cell_ (i := 1) rfl
  have hbr6_2 := hbr6.cell_ (i := 2) rfl
  have hbr6_3 := hbr6.cell_ (i := 3) rfl
  clear hS6 hA5 hnA h4e hO hO' ho6 harr fr5 cq5 hlq5 hfar c4
  replace hbi6 := zH hbi6
  replace hbo6 := zH hbo6
  replace hbd6 := zH hbd6
  replace hbr6 := zH hbr6
  go_wp2_with (refine wpList_store_blk rfl 174 (.tmp 6) (.tmp 49) rfl (w.heap.size + 2) 0 _ rfl rfl hbd6.out (by simp) did_size (by rfl) #[.int .i64 i.r, .int .i64 i.n, .int .i64 o.c, .int .i64 o.s, .int .i64 6, .int .i64 0, .int .i64 0, .int .i64 0, .bool false] rfl ?_; intro w7 hb7 hm7)
  have hm7' := hM6.out.then hm7 (fun j hj e => by have e2 : j = w.heap.size + 2 := e; omega)
  have hO7 : Off w6 col k [17] (only (w.heap.size + 2)) := by
   intro j hj hh c hc e
   have e2 : j = w.heap.size + 2 := hh
   rw [e2, hcn _ (by omega)] at e
   simp only [Prod.mk.injEq, true_and] at e
   exact hc (by simp [e])
  have hO7' : Off w6 col k [8, 9, 10, 11, 12, 13, 14, 15, 16, 17] (only (w.heap.size + 2)) := fun j hj hf c hc => hO7 j hj hf c (fun hh => hc (by simp at hh ⊢; omega))
  have h6' := h6.out
  have h7 := h6'.set_rn hm7 hO7' (K := X.K) (D := X.D) (T := putI' (idI o) rep6 X.T) (A := A5) (ln := X.ln + 1) (c := c5) (C := X.C) (cl := X.cl) (lv := X.lv ++ odV o L)
   (h6'.rn.mod hm7 (hO7.nf h6'.lies (c := 8) (by simp [RpB.all]) (by decide)) (hO7.nf h6'.lies (c := 9) (by simp [RpB.all]) (by decide)) (hO7.nf h6'.lies (c := 10) (by simp [RpB.all]) (by decide)) (hO7.nf h6'.lies (c := 11) (by simp [RpB.all]) (by decide)) (hO7.nf h6'.lies (c := 12) (by simp [RpB.all]) (by decide)) (hO7.nf h6'.lies (c := 13) (by simp [RpB.all]) (by decide)) (hO7.nf h6'.lies (c := 14) (by simp [RpB.all]) (by decide)) (hO7.nf h6'.lies (c := 15) (by simp [RpB.all]) (by decide)) (hO7.nf h6'.lies (c := 16) (by simp [RpB.all]) (by decide))) (h6'.la.grow (Ext.refl _ _) hm7.size) (h6'.ls.mod hm7 (fun j hj hh => hfA.out (by have e2 : j = w.heap.size + 2 := hh; rwa [e2] at hj)))
  exact ret_row rfl (w.heap.size + 2) rfl hb7 Tryz.underlying174 rfl did_size rfl ⟨rfl, A5, c5, col, h7, Ext.refl _ _, hm7'⟩
 focus
  go_simp
  refine hK.out _ _ ((hMa.out.mono fun j hj => .inl hj)) (fun hHeld => ?_)
  clear hK K
  try simp only [Act.put, q1Z, q2Z, q3Z, q4Z, q5Z, q6Z]
  have c4' : (w4.alloc (.cells #[.int .i64 o.c, .int .i64 o.s, .int .i64 o.k, .string (txt o.acct), .string (txt o.peer), .int .i64 o.sum, .slice L.a L.n L.c, .int .i64 o.per, .int .i64 o.hold, .string (txt o.note)] 40)).drew.cell? ⟨b.rn.q, 3, none⟩ = some (.slice X.LA X.ln X.lc) := hMa.out.cell_some (a := ⟨b.rn.q, 3, none⟩) c4 hqA.out
  refine rdZ 4 rfl (fun K hK => ?_)
  go_simp
  refine hK.out _ _ ((hMa.out.mono fun j hj => .inl hj)) (fun hHeld => ?_)
  clear hK K
  try simp only [Act.put, q1Z, q2Z, q3Z, q4Z, q5Z, q6Z]
  refine rdZ 7 rfl (fun K hK => ?_)
  refine step_append_ow (by rfl) (.tmp 38) (.tmp 40) 30 (by rfl) 40 i0 _ 10 120 Tryz.underlying30 hi0 hz0 hz1 hz2 rfl (by omega) X.LA X.ln X.lc X.lv (by rfl) hoa.out (some ⟨w4.heap.size, 0, none⟩) 1 1 (odV o L) (by rfl) hra.out (odV_one o L) (by omega) (by omega) ?_
  intro A5 c5 w5 ho5 hm5 hA5
  have hm5' := hMa.out.trans hm5
  refine hK.out _ _ ((hm5'.mono fun j hj => .inl hj)) (fun hHeld => ?_)
  clear hK K
  try simp only [Act.put, q1Z, q2Z, q3Z, q4Z, q5Z, q6Z]
  refine tkZ 8 ?_ rfl ?_ ?_
  rotate_left
  ·intro W hSw; (try dsimp only at hSw); go_simp; (try with_reducible rfl)
  try simp only [Act.put, q1Z, q2Z, q3Z, q4Z, q5Z, q6Z]
  refine tkZ 9 ?_ rfl ?_ ?_
  rotate_left
  ·intro W hSw; (try dsimp only at hSw); go_simp; (try with_reducible rfl)
  try simp only [Act.put, q1Z, q2Z, q3Z, q4Z, q5Z, q6Z]
  have hq5 := hq4.out.mod hm5' hqA.out
  have fr5 := hq5.frozen 3
  have cq5 := hq5.cell_ (i := 3) rfl
  have hlq5 := hq5.lt
  obtain ⟨w6, hw6⟩ : ∃ w6, w6 = w5.setCell ⟨b.rn.q, 3, none⟩ (.slice A5 (X.ln + 1) c5) := ⟨_, rfl⟩
  have hm56 : Mod (· = b.rn.q) w5 w6 := by rw [hw6]; exact Mod.setCell (Mod.refl (· = b.rn.q) w5) (p := ⟨b.rn.q, 3, none⟩) (.inl rfl) _
  have hq6 := hq5.set_ 3 (.slice A5 (X.ln + 1) c5)
  simp only [List.setIfInBounds_toArray, List.set_cons_succ, List.set_cons_zero] at hq6
  rw [← hw6] at hq6
  replace hq5 := zH hq5
  replace hq6 := zH hq6
  replace hm56 := zH hm56
  replace ho5 := zH ho5
  replace hm5 := zH hm5
  replace hm5' := zH hm5'
  replace hw6 := zH hw6
  refine rdZ 10 rfl (fun K hK => ?_)
  go_simp
  rw [← hw6.out]
  have hS6 : Mod (fun j => fp X.LA j ∨ j = b.rn.q) w4 w6 := (hm5'.out.mono fun j hj => .inl hj).trans (hm56.out.mono fun j hj => .inr hj)
  refine hK.out _ _ (hS6) (fun hHeld => ?_)
  clear hK K
  try simp only [Act.put, q1Z, q2Z, q3Z, q4Z, q5Z, q6Z]
  refine wpAnyH_done (by kernel_rfl) ?_ _
  clear hHeld
  have h4e := h4.out
  have hO := Off.or (Off.arr h4e.la) (Off.one h4e.lies (g := b.rn.q) (c := 8) (by simp [RpB.all]))
  have hO' : Off w4 col k [8, 9, 10, 11, 12, 13, 14, 15, 16, 17] (fun j => fp X.LA j ∨ j = b.rn.q) := fun j hj hf c hc => hO j hj hf c (fun hh => hc (by simp at hh ⊢; omega))
  have hnA : ¬ fp A5 b.rn.q := Ow.ne_blk ho5.out hq5.out (by decide)
  have ho6 := Ow.mod ho5.out hm56.out (fun j hj hh => hnA (by have e2 : j = b.rn.q := hh; rwa [e2] at hj))
  have harr : Arr w6 col k 17 A5 := by
   intro j hj
   refine ⟨ho6.lt j hj, ?_⟩
   rcases hA5 with rfl | rfl
   ·exact (h4e.la j hj).2
   ·obtain ⟨a, ha, rfl⟩ := hj
    cases ha
    exact hcn _ (by simp; omega)
  have h6 := zH (h4e.set_rn hS6 hO' (K := X.K) (D := X.D) (T := putI' (idI o) rep6 X.T) (A := A5) (ln := X.ln + 1) (c := c5) (C := X.C) (cl := X.cl) (lv := X.lv ++ odV o L)
   ⟨hq6.out, h4e.rn.kn.mod hS6 (hO.nf h4e.lies (c := 9) (by simp [RpB.all]) (by decide)), h4e.rn.dn.mod hS6 (hO.nf h4e.lies (c := 10) (by simp [RpB.all]) (by decide)), h4e.rn.tl.mod hS6 (hO.nf h4e.lies (c := 11) (by simp [RpB.all]) (by decide)),
    h4e.rn.book.mod hS6 (hO.nf h4e.lies (c := 12) (by simp [RpB.all]) (by decide)) (hO.nf h4e.lies (c := 13) (by simp [RpB.all]) (by decide)) (hO.nf h4e.lies (c := 14) (by simp [RpB.all]) (by decide)) (hO.nf h4e.lies (c := 15) (by simp [RpB.all]) (by decide)) (hO.nf h4e.lies (c := 16) (by simp [RpB.all]) (by decide))⟩ harr ho6)
  have hfar : ∀ j, w.heap.size ≤ j → ¬ (fp X.LA j ∨ j = b.rn.q) := by
   rintro j hj (hf | rfl)
   ·have := (h.out.la _ hf).1; omega
   ·omega
  have hbi6 := hbi4.out.mod hS6 (hfar _ (Nat.le_refl _))
  have hbo6 := hbo4.out.mod hS6 (hfar _ (by omega))
  have hbd6 := hbd4.out.mod hS6 (hfar _ (by omega))
  have hbr6 := hbr4.out.mod hS6 (hfar _ (by omega))
  have hM6 := zH (hm4w.out.trans (hS6.mono (fun j hj => hj.elim (fun hf => own_arr h.out.la j hf) (fun e => own_one h.out.lies (c := 8) (by simp [RpB.all]) j e))))
  have hfA : Hid (¬ fp A5 (w.heap.size + 2)) := zH (by
   rcases hA5 with rfl | rfl
   ·exact hfar _ (by omega) ∘ Or.inl
   ·rintro ⟨a, ha, hh⟩; cases ha; simp at hh; omega)
  have li6 := hbi6.lt
  have lo6 := hbo6.lt
  have lr6 := hbr6.lt
  have hbi6_0 := hbi6.cell_ (i := 0) rfl
  have hbi6_1 := hbi6.cell_ (i := 1) rfl
  have hbo6_0 := hbo6.cell_ (i := 0) rfl
  have hbo6_1 := hbo6.cell_ (i := 1) rfl
  have hbr6_0 := hbr6.cell_ (i := 0) rfl
  have hbr6_1 := hbr6.cell_ (i := 1) rfl
  have hbr6_2 := hbr6.cell_ (i := 2) rfl
  have hbr6_3 := hbr6.cell_ (i := 3) rfl
  clear hS6 hA5 hnA h4e hO hO' ho6 harr fr5 cq5 hlq5 hfar c4
  replace hbi6 := zH hbi6
  replace hbo6 := zH hbo6
  replace hbd6 := zH hbd6
  replace hbr6 := zH hbr6
  go_wp2_with (refine wpList_store_blk rfl 174 (.tmp 6) (.tmp 49) rfl (w.heap.size + 2) 0 _ rfl rfl hbd6.out (by simp) did_size (by rfl) #[.int .i64 i.r, .int .i64 i.n, .int .i64 o.c, .int .i64 o.s, .int .i64 6, .int .i64 0, .int .i64 0, .int .i64 0, .bool false] rfl ?_; intro w7 hb7 hm7)
  have hm7' := hM6.out.then hm7 (fun j hj e => by have e2 : j = w.heap.size + 2 := e; omega)
  have hO7 : Off w6 col k [17] (only (w.heap.size + 2)) := by
   intro j hj hh c hc e
   have e2 : j = w.heap.size + 2 := hh
   rw [e2, hcn _ (by omega)] at e
   simp only [Prod.mk.injEq, true_and] at e
   exact hc (by simp [e])
  have hO7' : Off w6 col k [8, 9, 10, 11, 12, 13, 14, 15, 16, 17] (only (w.heap.size + 2)) := fun j hj hf c hc => hO7 j hj hf c (fun hh => hc (by simp at hh ⊢; omega))
  have h6' := h6.out
  have h7 := h6'.set_rn hm7 hO7' (K := X.K) (D := X.D) (T := putI' (idI o) rep6 X.T) (A := A5) (ln := X.ln + 1) (c := c5) (C := X.C) (cl := X.cl) (lv := X.lv ++ odV o L)
   (h6'.rn.mod hm7 (hO7.nf h6'.lies (c := 8) (by simp [RpB.all]) (by decide)) (hO7.nf h6'.lies (c := 9) (by simp [RpB.all]) (by decide)) (hO7.nf h6'.lies (c := 10) (by simp [RpB.all]) (by decide)) (hO7.nf h6'.lies (c := 11) (by simp [RpB.all]) (by decide)) (hO7.nf h6'.lies (c := 12) (by simp [RpB.all]) (by decide)) (hO7.nf h6'.lies (c := 13) (by simp [RpB.all]) (by decide)) (hO7.nf h6'.lies (c := 14) (by simp [RpB.all]) (by decide)) (hO7.nf h6'.lies (c := 15) (by simp [RpB.all]) (by decide)) (hO7.nf h6'.lies (c := 16) (by simp [RpB.all]) (by decide))) (h6'.la.grow (Ext.refl _ _) hm7.size) (h6'.ls.mod hm7 (fun j hj hh => hfA.out (by have e2 : j = w.heap.size + 2 := hh; rwa [e2] at hj)))
  exact ret_row rfl (w.heap.size + 2) rfl hb7 Tryz.underlying174 rfl did_size rfl ⟨rfl, A5, c5, col, h7, Ext.refl _ _, hm7'⟩
theorem do_ok (w : World) (col : Col) (k : Nat) (b : RpB) (me n : Int) (X : RpS) (h : RpM w col k b me n X) (i : Is) (o : Od) (L : SV) (ho : OdM w o L) (hk : o.k = 7) (hr : rightO o = true) (hL : L.n ≤ 140737488355328) (hz : ∀ l ∈ o.legs, (txt l.n).size ≤ maxLen)
  (hg : getV X.C o.acct = (zeroA, 6)) (hsz : (txt o.acct).size ≤ maxLen) (hid : inI (idI o)) (hT : findI X.T (idI o) = none) (hTl : X.T.length + 1 < maxLen) (hln : X.ln ≤ 1000000) :
  Calls Tryz.prog 91 #[.pointer (some ⟨b.rn.q, 0, none⟩), .agg #[.int .i64 i.r, .int .i64 i.n], .agg #[.int .i64 o.c, .int .i64 o.s, .int .i64 o.k, .string (txt o.acct), .string (txt o.peer), .int .i64 o.sum, .slice L.a L.n L.c, .int .i64 o.per, .int .i64 o.hold, .string (txt o.note)]] w (DoPost w col k b me n X i o L) := by
 refine (doAux_ok w (tint w col (k, 17)) k b me n X (h.ext (tint_ext w col _)) i o L ho hk hr hL hz hg hsz hid hT hTl hln (fun j hj => tint_new hj)).mono ?_
 rintro e w' ⟨h1, A, c, col', h2, h3, h4⟩
 exact ⟨h1, A, c, col', h2, (tint_ext w col _).trans h3 (Nat.le_refl _), (Mod.refl (own col k) w).then h4 (fun j hj hh => by unfold own at *; rwa [tint_ext w col _ j hj] at hh)⟩
end Go.Proofs.YtfkfiokkjjnhiaaGreat
