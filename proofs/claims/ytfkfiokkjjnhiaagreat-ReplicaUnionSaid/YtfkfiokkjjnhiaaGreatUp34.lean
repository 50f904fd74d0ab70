import Derived.Test.YtfkfiokkjjnhiaaGreatUp33
import Derived.Test.YtfkfiokkjjnhiaaGreatUp12
import Derived.Test.YtfkfiokkjjnhiaaGreatUp16
set_option linter.unusedVariables false
set_option linter.unusedSimpArgs false
set_option maxHeartbeats 16000000
namespace Go.Proofs.YtfkfiokkjjnhiaaGreat
open Go.RowKit
theorem results_tct {fn : Func} {a p u : Tmp} {ty : TypeId} (h : fn.results = #[.tmp a, .cell p ty, .tmp u]) (tmps : Array Value) (w : World) (g : Nat) (cs : Array Value)
  (hp : tmps.getD p undef = .pointer (some ⟨g, 0, none⟩)) (hl : (loadVar ty ⟨g, 0, none⟩).run Tryz.prog w = .ok (.agg cs) w) :
  (results fn tmps).run Tryz.prog w = .ok (.tuple #[tmps.getD a undef, .agg cs, tmps.getD u undef]) w := by
 have hp' : tmps[p]?.getD undef = .pointer (some ⟨g, 0, none⟩) := by simpa using hp
 simp [results, h, hp', asAddr, hl]
theorem ret_tct {fn : Func} {x p u : Tmp} (h : fn.results = #[.tmp x, .cell p 27, .tmp u]) {a : Act} {w : World} {R : Ending → World → Prop} (g : Nat) (cs : Array Value) (hp : a.tmps.getD p undef = .pointer (some ⟨g, 0, none⟩))
  (hg : Blk w g 27 cs) (hs : cs.size = 2) (hd : a.defers = []) (hR : R (.returned (.tuple #[a.tmps.getD x undef, .agg cs, a.tmps.getD u undef])) w) : bodyPost Tryz.prog fn R .ret a w :=
 bodyPost_ret (results_tct h a.tmps w g cs hp (run_loadVar_row w g _ _ cs _ _ hg Tryz.underlying27 rfl (by rw [hs]; exact inst_size))) hd hR
structure Lead (w : World) (col : Col) (p hm : Nat) (D0 : SV) (H : List IntV) : Prop where
 ld : LdB w p hm e1 L0 D0
 hd : MapN w hm H
 cp : col p = (51, 18)
 ch : col hm = (51, 19)
def SubPost (w : World) (col : Col) (b : RpB) (X : RpS) (e : Ending) (w' : World) : Prop :=
 ∃ A c D p hm X' col', e = .returned (.tuple #[.slice A 2 c, .agg #[.int .i64 1, .int .i64 1], .int .i64 0]) ∧ D.n = 0 ∧ OwM w' A 2 c [ms1 1 0 1 0 D, ms1 1 2 1 0 D] ∧ RpM w' col' 1 b 1 3 X' ∧ Heard X' D ∧ X'.Tl = [] ∧ X'.Ld = [(i1, .pointer (some ⟨p, 0, none⟩))] ∧
  Lead w' col' p hm D [(1, .slice D.a D.n D.c)] ∧ X'.Wt = X.Wt ∧ Ext w col col' ∧ Mod (own col 1) w w'
set_option maxRecDepth 100000
theorem submit_ok (w : World) (col : Col) (b : RpB) (X : RpS) (h : RpM w col 1 b 1 3 X) (hX : Blank X) (hcn : ∀ j, w.heap.size ≤ j → col j = (99, 0)) :
  Calls Tryz.prog 12 #[.pointer (some ⟨b.q, 0, none⟩), .agg #[.int .i64 e1.o.c, .int .i64 e1.o.s, .int .i64 e1.o.k, .string (txt e1.o.acct), .string (txt e1.o.peer), .int .i64 e1.o.sum, .slice L0.a L0.n L0.c, .int .i64 e1.o.per, .int .i64 e1.o.hold, .string (txt e1.o.note)]] w (SubPost w col b X) := by
 have hlq := h.q.lt
 obtain ⟨w0, hw0⟩ : ∃ w0, w0 = ((w.alloc (.cells #[.int .i64 e1.o.c, .int .i64 e1.o.s, .int .i64 e1.o.k, .string (txt e1.o.acct), .string (txt e1.o.peer), .int .i64 e1.o.sum, .slice L0.a L0.n L0.c, .int .i64 e1.o.per, .int .i64 e1.o.hold, .string (txt e1.o.note)] 40)).alloc (.cells #[.int .i64 0, .int .i64 0] 27)) := ⟨_, rfl⟩
 have hs0 : w0.heap.size = w.heap.size + 2 := by rw [hw0]; simp
 have hm0 : Mod none_ w w0 := by rw [hw0]; exact ((Mod.refl none_ w).alloc _).alloc _
 have hbo : Blk w0 w.heap.size 40 #[.int .i64 e1.o.c, .int .i64 e1.o.s, .int .i64 e1.o.k, .string (txt e1.o.acct), .string (txt e1.o.peer), .int .i64 e1.o.sum, .slice L0.a L0.n L0.c, .int .i64 e1.o.per, .int .i64 e1.o.hold, .string (txt e1.o.note)] := by rw [hw0]; exact (Blk.new w _ _).alloc _
 have hbi : Blk w0 (w.heap.size + 1) 27 #[.int .i64 0, .int .i64 0] := by
  have := Blk.new (w.alloc (.cells #[.int .i64 e1.o.c, .int .i64 e1.o.s, .int .i64 e1.o.k, .string (txt e1.o.acct), .string (txt e1.o.peer), .int .i64 e1.o.sum, .slice L0.a L0.n L0.c, .int .i64 e1.o.per, .int .i64 e1.o.hold, .string (txt e1.o.note)] 40)) 27 #[.int .i64 0, .int .i64 0]
  rw [hw0]; simpa using this
 have kR := zH (rightO_ok w0 e1.o L0 ⟨Rd.none_, Nat.le_refl _⟩ (by decide) (by decide) (fun l hl => by cases hl))
 rw [show rightO e1.o = true from rightO1] at kR
 replace hm0 := zH hm0
 replace hbo := zH hbo
 replace hbi := zH hbi
 replace h := zH h
 replace hX := zH hX
 replace hcn := zH hcn
 go_enter Tryz.func12, Tryz.ntmps12
 go_upto_region 1 with fail
 rw [← hw0]
 replace hw0 := zH hw0
 go_wp2_with (refine wpList_step (fun K hK => ?_); rw [if_pos (by rfl)]; refine wp_load_mid 40 (.tmp 3) rfl w.heap.size 0 rfl [.int .i64 e1.o.c, .int .i64 e1.o.s, .int .i64 e1.o.k, .string (txt e1.o.acct), .string (txt e1.o.peer), .int .i64 e1.o.sum, .slice L0.a L0.n L0.c, .int .i64 e1.o.per, .int .i64 e1.o.hold, .string (txt e1.o.note)] _ (Blk.range hbo.out 0 _ rfl) Tryz.underlying40 rfl order_size ?_; refine hK _ _ ?_)
 refine kR.out.mono ?_
 rintro e w1 ⟨rfl, hm1⟩
 dsimp only
 have hM1 := zH (hm0.out.trans hm1)
 have hs1 : w.heap.size + 2 ≤ w1.heap.size := by have := hm1.size; omega
 have hr1 := h.out.mod0 hM1.out
 have q0 : w1.cell? ⟨b.q, 0, none⟩ = some (.int .i64 1) := hr1.q.cell_ rfl
 have lq1 := hr1.q.lt
 have hbo1 := zH (hbo.out.mod hm1 (fun h => h))
 have hbi1 := zH (hbi.out.mod hm1 (fun h => h))
 obtain ⟨w2, hw2⟩ : ∃ w2, w2 = w1.alloc (.cells #[.int .i64 1, .int .i64 1] 27) := ⟨_, rfl⟩
 have hm2 : Mod none_ w1 w2 := by rw [hw2]; exact (Mod.refl none_ w1).alloc _
 have hb2 : Blk w2 w1.heap.size 27 #[.int .i64 1, .int .i64 1] := by rw [hw2]; exact Blk.new w1 _ _
 have hM2 := zH (hM1.out.trans hm2)
 have hr2 := zH (hr1.mod0 hm2)
 have hbo2 := zH (hbo1.out.mod hm2 (fun h => h))
 have hbi2 := zH (hbi1.out.mod hm2 (fun h => h))
 have hS2 := zH (show MapK w2 b.sl [] from by have := hr2.out.sl; rw [hX.out.S] at this; exact this)
 have q3 : w2.cell? ⟨b.q, 3, none⟩ = some (.map (some b.sl)) := hr2.out.q.cell_ rfl
 have lq2 := hr2.out.q.lt
 clear hm1 kR hr1
 replace hm2 := zH hm2
 replace hb2 := zH hb2
 go_upto_region 4 with fail
 rw [← hw2]
 replace hw2 := zH hw2
 go_wp2_with (refine rangeK_it rfl (.tmp 28) rfl Tryz.underlying82 b.sl [] rfl hS2.out ?_; intro w3 hit hm hsz; replace hit := zH hit; have hm3 := zH hm; clear hm hsz)
 go_frame
 go_loopw [30] (fun _ wr => wr = w3) (fun _ _ => 0)
 case atStart => exact rfl
 case round =>
  obtain rfl := hrel
  rcases hit.out.next 0 with ⟨_, hrun⟩ | ⟨p, w4, hpR, _⟩
  ·have hM3 := zH (hM2.out.trans hm3.out)
   have hr3 := zH (hr2.out.mod0 hm3.out)
   have hbo3 := zH (hbo2.out.mod hm3.out (fun h => h))
   have hbi3 := zH (hbi2.out.mod hm3.out (fun h => h))
   have hb3 := zH (hb2.out.mod hm3.out (fun h => h))
   have hs3 : w1.heap.size < wr.heap.size := hb3.out.lt
   go_upto_region 9 with fail
   have kW := zH (fun W (hW : Mod none_ wr W) => show Calls Tryz.prog 33 #[.pointer (some ⟨b.q, 0, none⟩), .agg #[.int .i64 1, .int .i64 1], .agg #[.int .i64 e1.o.c, .int .i64 e1.o.s, .int .i64 e1.o.k, .string (txt e1.o.acct), .string (txt e1.o.peer), .int .i64 e1.o.sum, .slice L0.a L0.n L0.c, .int .i64 e1.o.per, .int .i64 e1.o.hold, .string (txt e1.o.note)], .slice none 0 0] W (NilPost W) from by
    have hr := hr3.out.mod0 hW
    exact waits0_ok W b.q b.sl (hr.q.cell_ rfl) (by have := hr.sl; rw [hX.out.S] at this; exact this) ⟨1, 1⟩ e1.o L0 none 0)
   go_cut [9] from 48 to 53 (fun s9 wx => ∃ p A2 c2, s9 = .pointer (some ⟨p, 0, none⟩) ∧ w.heap.size ≤ p ∧ Blk wx p 53 #[.int .i64 e1.o.c, .int .i64 e1.o.s, .int .i64 e1.o.k, .string (txt e1.o.acct), .string (txt e1.o.peer), .int .i64 e1.o.sum, .slice L0.a L0.n L0.c, .int .i64 e1.o.per, .int .i64 e1.o.hold, .string (txt e1.o.note), .bool false, .slice A2 0 c2] ∧ Mod none_ wr wx)
   case first =>
    have hzE := zH (fun W => Blk.new W 53 #[.int .i64 0, .int .i64 0, .int .i64 0, .string ⟨#[]⟩, .string ⟨#[]⟩, .int .i64 0, .slice none 0 0, .int .i64 0, .int .i64 0, .string ⟨#[]⟩, .bool false, .slice none 0 0])
    refine wp_region_held_drew (S := fun W => Mod none_ wr W) (by kernel_rfl) (Mod.refl none_ wr).drew (fun hHeld => ?_)
    refine wpAnyH_take (i := 0) rfl (by kernel_rfl) (by kernel_rfl) (by kernel_rfl) (fun _ _ _ h => h) (yieldsIf_load_mid (by rfl) 40 (.tmp 3) rfl w.heap.size 0 rfl [.int .i64 e1.o.c, .int .i64 e1.o.s, .int .i64 e1.o.k, .string (txt e1.o.acct), .string (txt e1.o.peer), .int .i64 e1.o.sum, .slice L0.a L0.n L0.c, .int .i64 e1.o.per, .int .i64 e1.o.hold, .string (txt e1.o.note)] _ (fun W hW => Blk.range (hbo3.out.mod hW (fun h => h)) 0 _ rfl) Tryz.underlying40 rfl order_size) (by assumption) ?_
    try simp only [Act.put, q1Z, q2Z, q3Z, q4Z, q5Z, q6Z]
    refine tkZ 1 ?_ rfl ?_ ?_
    rotate_left
    ·intro W hSw; (try dsimp only at hSw); go_simp; (try with_reducible rfl)
    try simp only [Act.put, q1Z, q2Z, q3Z, q4Z, q5Z, q6Z]
    refine wpAnyH_take (i := 2) rfl (by kernel_rfl) (by kernel_rfl) (by kernel_rfl) (fun _ _ _ h => h) (yieldsIf_load_mid (by rfl) 27 (.tmp 7) rfl w1.heap.size 0 rfl [.int .i64 1, .int .i64 1] _ (fun W hW => Blk.range (hb3.out.mod hW (fun h => h)) 0 _ rfl) Tryz.underlying27 rfl inst_size) (by assumption) ?_
    try simp only [Act.put, q1Z, q2Z, q3Z, q4Z, q5Z, q6Z]
    refine wpAnyH_take (i := 3) rfl (by kernel_rfl) (by kernel_rfl) (by kernel_rfl) (fun _ _ _ h => h) (yieldsIf_load_mid (by rfl) 40 (.tmp 3) rfl w.heap.size 0 rfl [.int .i64 e1.o.c, .int .i64 e1.o.s, .int .i64 e1.o.k, .string (txt e1.o.acct), .string (txt e1.o.peer), .int .i64 e1.o.sum, .slice L0.a L0.n L0.c, .int .i64 e1.o.per, .int .i64 e1.o.hold, .string (txt e1.o.note)] _ (fun W hW => Blk.range (hbo3.out.mod hW (fun h => h)) 0 _ rfl) Tryz.underlying40 rfl order_size) (by assumption) ?_
    try simp only [Act.put, q1Z, q2Z, q3Z, q4Z, q5Z, q6Z]
    refine wpAnyH_ready (rs := [4, 6]) (by kernel_rfl) (by simp) ?_
    refine AllReadyH.cons rfl (fun K hK => ?_) (AllReadyH.cons rfl (fun K hK => ?_) AllReadyH.nil)
    focus
     go_simp
     refine (kW.out _ (Mod.refl none_ wr).drew).mono ?_
     rintro e w4 ⟨A2, c2, rfl, hm4⟩
     dsimp only
     have hM4 := (Mod.refl none_ wr).drew.trans hm4
     have hsz4 := hM4.size
     refine hK.out _ _ (hM4) (fun hHeld => ?_)
     clear hK K
     try simp only [Act.put, q1Z, q2Z, q3Z, q4Z, q5Z, q6Z]
     refine tkZ 5 ?_ rfl ?_ ?_
     rotate_left
     ·intro W hSw; (try dsimp only at hSw); go_simp; (try with_reducible rfl)
     try simp only [Act.put, q1Z, q2Z, q3Z, q4Z, q5Z, q6Z]
     refine rdZ 6 rfl (fun K hK => ?_)
     go_simp
     refine hK.out _ _ ((hM4.alloc _)) (fun hHeld => ?_)
     clear hK K
     try simp only [Act.put, q1Z, q2Z, q3Z, q4Z, q5Z, q6Z]
     refine rdZ 7 rfl (fun K hK => ?_)
     refine step_store_blk rfl 53 (.tmp 9) (.tmp 53) rfl w4.heap.size 0 _ rfl rfl (hzE.out w4) (by simp) entry_size (by rfl) #[.int .i64 e1.o.c, .int .i64 e1.o.s, .int .i64 e1.o.k, .string (txt e1.o.acct), .string (txt e1.o.peer), .int .i64 e1.o.sum, .slice L0.a L0.n L0.c, .int .i64 e1.o.per, .int .i64 e1.o.hold, .string (txt e1.o.note), .bool false, .slice A2 0 c2] rfl ?_
     intro w5 hb5 hm5
     have hM5 := (hM4.alloc (.cells #[.int .i64 0, .int .i64 0, .int .i64 0, .string ⟨#[]⟩, .string ⟨#[]⟩, .int .i64 0, .slice none 0 0, .int .i64 0, .int .i64 0, .string ⟨#[]⟩, .bool false, .slice none 0 0] 53)).in_new (g := w4.heap.size) hM4.size hm5
     refine hK.out _ _ (hM5) (fun hHeld => ?_)
     clear hK K
     try simp only [Act.put, q1Z, q2Z, q3Z, q4Z, q5Z, q6Z]
     refine wpAnyH_done (by kernel_rfl) ?_ _
     clear hHeld hm4 hm5 hM4
     have hend := zH hM5
     have hpw : w.heap.size ≤ w4.heap.size := Nat.le_trans hM3.out.size hsz4
     clear hM5
     replace hb5 := zH hb5
     go_wp2_with fail
     all_goals go_meet
     exact ⟨w4.heap.size, A2, c2, rfl, hpw, hb5.out, hend.out⟩
    focus
     go_simp
     have hMa := (Mod.refl none_ wr).drew.alloc (.cells #[.int .i64 0, .int .i64 0, .int .i64 0, .string ⟨#[]⟩, .string ⟨#[]⟩, .int .i64 0, .slice none 0 0, .int .i64 0, .int .i64 0, .string ⟨#[]⟩, .bool false, .slice none 0 0] 53)
     refine hK.out _ _ (hMa) (fun hHeld => ?_)
     clear hK K
     try simp only [Act.put, q1Z, q2Z, q3Z, q4Z, q5Z, q6Z]
     refine rdZ 4 rfl (fun K hK => ?_)
     go_simp
     refine (kW.out _ hMa).mono ?_
     rintro e w4 ⟨A2, c2, rfl, hm4⟩
     dsimp only
     have hM4 := hMa.trans hm4
     refine hK.out _ _ (hM4) (fun hHeld => ?_)
     clear hK K
     try simp only [Act.put, q1Z, q2Z, q3Z, q4Z, q5Z, q6Z]
     refine tkZ 5 ?_ rfl ?_ ?_
     rotate_left
     ·intro W hSw; (try dsimp only at hSw); go_simp; (try with_reducible rfl)
     try simp only [Act.put, q1Z, q2Z, q3Z, q4Z, q5Z, q6Z]
     refine rdZ 7 rfl (fun K hK => ?_)
     refine step_store_blk rfl 53 (.tmp 9) (.tmp 53) rfl wr.heap.size 0 _ rfl rfl ((hzE.out wr.drew).mod hm4 (fun h => h)) (by simp) entry_size (by rfl) #[.int .i64 e1.o.c, .int .i64 e1.o.s, .int .i64 e1.o.k, .string (txt e1.o.acct), .string (txt e1.o.peer), .int .i64 e1.o.sum, .slice L0.a L0.n L0.c, .int .i64 e1.o.per, .int .i64 e1.o.hold, .string (txt e1.o.note), .bool false, .slice A2 0 c2] rfl ?_
     intro w5 hb5 hm5
     have hM5 := hM4.in_new (g := wr.heap.size) (Nat.le_refl _) hm5
     refine hK.out _ _ (hM5) (fun hHeld => ?_)
     clear hK K
     try simp only [Act.put, q1Z, q2Z, q3Z, q4Z, q5Z, q6Z]
     refine wpAnyH_done (by kernel_rfl) ?_ _
     clear hHeld hm4 hm5 hM4 hMa
     have hend := zH hM5
     clear hM5
     replace hb5 := zH hb5
     go_wp2_with fail
     all_goals go_meet
     exact ⟨wr.heap.size, A2, c2, rfl, hM3.out.size, hb5.out, hend.out⟩
   case rest =>
    obtain ⟨pe, A2, c2, rfl, hpw, hbp, hmx⟩ := hcut
    have hM4 := zH (hM3.out.trans hmx)
    have hr4 := zH (hr3.out.mod0 hmx)
    have hbi4 := zH (hbi3.out.mod hmx (fun h => h))
    have hb4 := zH (hb3.out.mod hmx (fun h => h))
    have sx := hmx.size
    have lbp := hbp.lt
    have hD2 : ((⟨A2, 0, c2⟩ : SV)).n = 0 := rfl
    have kK := zH (show Calls Tryz.prog 34 #[.pointer (some ⟨b.q, 0, none⟩), .agg #[.int .i64 1, .int .i64 1], .agg #[.int .i64 0, .int .i64 1, .int .i64 0, .int .i64 e1.o.c, .int .i64 e1.o.s, .int .i64 e1.o.k, .string (txt e1.o.acct), .string (txt e1.o.peer), .int .i64 e1.o.sum, .slice L0.a L0.n L0.c, .int .i64 e1.o.per, .int .i64 e1.o.hold, .string (txt e1.o.note), .bool false, .slice A2 0 c2]] wc (KeepPost wc col 1 b 1 3 X (sl1 1 ⟨A2, 0, c2⟩)) from
     keep_ok wc col 1 b 1 3 X hr4.out (sl1 1 ⟨A2, 0, c2⟩) (slZ i1) rfl (by show (1 : Int) ≠ 0; decide) (by show (findI X.S i1).getD _ = _; rw [hX.out.S]; rfl) (e1_mem wc hD2) (ok1 hD2) nums1 (right1 _ (.inl rfl)) (by have := rec1_len ⟨A2, 0, c2⟩ (st := 1) (.inl rfl); have := hX.out.l; unfold RpW; omega) i1_in rfl rfl (by show (1 : Int) ≠ 0; decide) (by rw [hX.out.S]; decide))
    have d11 : wc.cell? ⟨pe, 11, none⟩ = some (.slice A2 0 c2) := hbp.cell_ rfl
    have n1_ : wc.cell? ⟨w1.heap.size, 1, none⟩ = some (.int .i64 1) := hb4.out.cell_ rfl
    have lb4 := hb4.out.lt
    clear hmx hD2 kW hr3 hbi3 hb3 hbo3
    replace hbp := zH hbp
    go_upto_region 12 with fail
    go_wp2_with (first
     | (refine wpList_load_blk rfl 53 (.tmp 9) rfl pe 0 rfl hbp.out [.int .i64 e1.o.c, .int .i64 e1.o.s, .int .i64 e1.o.k, .string (txt e1.o.acct), .string (txt e1.o.peer), .int .i64 e1.o.sum, .slice L0.a L0.n L0.c, .int .i64 e1.o.per, .int .i64 e1.o.hold, .string (txt e1.o.note), .bool false, .slice A2 0 c2] rfl Tryz.underlying53 rfl entry_size ?_)
     | (refine wpList_load_blk rfl 27 (.tmp 7) rfl w1.heap.size 0 rfl hb4.out [.int .i64 1, .int .i64 1] rfl Tryz.underlying27 rfl inst_size ?_))
    refine kK.out.mono ?_
    rintro e w5 ⟨rfl, A5, c5, s5, col5, hr5, hx5, hm5⟩
    dsimp only
    have hno : ∀ j, w.heap.size ≤ j → ¬ own col 1 j := fun j hj => by unfold own; rw [hcn.out j hj]; decide
    have hbp5 := zH (hbp.out.mod hm5 (hno _ hpw))
    have hbi5 := zH (hbi4.out.mod hm5 (hno _ (by omega)))
    have hb5 := zH (hb4.out.mod hm5 (hno _ (by omega)))
    have hM5 := zH ((hM4.out.any (own col 1)).trans hm5)
    have hX5 := zH (show Ext w col col5 from fun j hj => hx5 j (Nat.lt_of_lt_of_le hj hM4.out.size))
    have hx5' := zH hx5
    have sw5 : wc.heap.size ≤ w5.heap.size := hm5.size
    have hmk := fun W => run_makeMap (P := Tryz.prog) 92 W
    have hmd := (MapN.made w5)
    have hma : Mod none_ w5 (w5.alloc (.map #[] 0)).drew := ((Mod.refl none_ w5).alloc (.map #[] 0)).drew
    obtain ⟨w6, hrun6, hh6, hm6, hs6⟩ := MapN.store_run (w := (w5.alloc (.map #[] 0)).drew) (hmd.mod (Mod.refl none_ _).drew (fun h => h)) (t := 92) Tryz.underlying92 (by decide) (i := 1) (by decide) (.slice A2 0 c2)
    unfold inV at hrun6
    have hm56 : Mod none_ w5 w6 := hma.then hm6 (fun j hj e => by have e2 : j = w5.heap.size := e; omega)
    have hs6' := zH (show w6.heap.size = w5.heap.size + 1 from by rw [hs6]; show (w5.alloc (.map #[] 0)).heap.size = _; simp)
    have hb1s := zH (fun W => Blk.new W 96 #[.int .i64 0, .int .i64 2, .int .i64 e1.o.c, .int .i64 e1.o.s, .int .i64 e1.o.k, .string (txt e1.o.acct), .string (txt e1.o.peer), .int .i64 e1.o.sum, .slice L0.a L0.n L0.c, .int .i64 e1.o.per, .int .i64 e1.o.hold, .string (txt e1.o.note), .bool false, .slice A2 0 c2, .map (some (w5.heap.size)), .map none, .map none])
    clear hm5 hx5 kK d11 n1_ lb4 hbi4 hb4 hmd hma hm6 hs6
    replace hr5 := zH hr5
    replace hh6 := zH hh6
    replace hm56 := zH hm56
    go_upto_region 15 with fail
    refine wp_region_held_drew (S := fun W => Mod none_ w5 W) (by kernel_rfl) (Mod.refl none_ w5).drew (fun hHeld => ?_)
    refine wpAnyH_take (i := 0) rfl (by kernel_rfl) (by kernel_rfl) (by kernel_rfl) (fun _ _ _ h => h) (yieldsIf_load_mid (by rfl) 53 (.tmp 9) rfl pe 0 rfl [.int .i64 e1.o.c, .int .i64 e1.o.s, .int .i64 e1.o.k, .string (txt e1.o.acct), .string (txt e1.o.peer), .int .i64 e1.o.sum, .slice L0.a L0.n L0.c, .int .i64 e1.o.per, .int .i64 e1.o.hold, .string (txt e1.o.note), .bool false, .slice A2 0 c2] _ (fun W hW => Blk.range (hbp5.out.mod hW (fun h => h)) 0 _ rfl) Tryz.underlying53 rfl entry_size) (by assumption) ?_
    try simp only [Act.put, q1Z, q2Z, q3Z, q4Z, q5Z, q6Z]
    refine tkZ 2 ?_ rfl ?_ ?_
    rotate_left
    ·intro W hSw; (try dsimp only at hSw); go_simp; (try with_reducible rfl)
    try simp only [Act.put, q1Z, q2Z, q3Z, q4Z, q5Z, q6Z]
    refine tkZ 3 ?_ rfl ?_ ?_
    rotate_left
    ·intro W hSw; (try dsimp only at hSw); go_simp; (try with_reducible rfl)
    try simp only [Act.put, q1Z, q2Z, q3Z, q4Z, q5Z, q6Z]
    refine tkZ 4 ?_ rfl ?_ ?_
    rotate_left
    ·intro W hSw; (try dsimp only at hSw); go_simp; (try with_reducible rfl)
    try simp only [Act.put, q1Z, q2Z, q3Z, q4Z, q5Z, q6Z]
    refine tkZ 5 ?_ rfl ?_ ?_
    rotate_left
    ·intro W hSw; have c0 : W.cell? ⟨b.q, 0, none⟩ = some (.int .i64 1) := (hr5.out.q.mod hSw (fun h => h)).cell_ rfl; go_simp; (try with_reducible rfl)
    try simp only [Act.put, q1Z, q2Z, q3Z, q4Z, q5Z, q6Z]
    refine tkZ 6 ?_ rfl ?_ ?_
    rotate_left
    ·intro W hSw; (try dsimp only at hSw); go_simp; (try with_reducible rfl)
    try simp only [Act.put, q1Z, q2Z, q3Z, q4Z, q5Z, q6Z]
    refine tkZ 7 ?_ rfl ?_ ?_
    rotate_left
    ·intro W hSw; have c11 : W.cell? ⟨pe, 11, none⟩ = some (.slice A2 0 c2) := (hbp5.out.mod hSw (fun h => h)).cell_ rfl; go_simp; (try with_reducible rfl)
    try simp only [Act.put, q1Z, q2Z, q3Z, q4Z, q5Z, q6Z]
    refine rdZ 1 rfl (fun K hK => ?_)
    go_simp
    refine hK.out _ _ ((((Mod.refl none_ w5).alloc (.map #[] 0)).drew)) (fun hHeld => ?_)
    clear hK K
    try simp only [Act.put, q1Z, q2Z, q3Z, q4Z, q5Z, q6Z]
    refine rdZ 8 rfl (fun K hK => ?_)
    go_simp
    refine hK.out _ _ (hm56.out) (fun hHeld => ?_)
    clear hK K
    try simp only [Act.put, q1Z, q2Z, q3Z, q4Z, q5Z, q6Z]
    refine tkZ 9 ?_ rfl ?_ ?_
    rotate_left
    ·intro W hSw; (try dsimp only at hSw); go_simp; (try with_reducible rfl)
    try simp only [Act.put, q1Z, q2Z, q3Z, q4Z, q5Z, q6Z]
    refine tkZ 10 ?_ rfl ?_ ?_
    rotate_left
    ·intro W hSw; (try dsimp only at hSw); go_simp; (try with_reducible rfl)
    try simp only [Act.put, q1Z, q2Z, q3Z, q4Z, q5Z, q6Z]
    refine rdZ 11 rfl (fun K hK => ?_)
    go_simp
    have hm67 := hm56.out.alloc (.cells #[.int .i64 0, .int .i64 2, .int .i64 e1.o.c, .int .i64 e1.o.s, .int .i64 e1.o.k, .string (txt e1.o.acct), .string (txt e1.o.peer), .int .i64 e1.o.sum, .slice L0.a L0.n L0.c, .int .i64 e1.o.per, .int .i64 e1.o.hold, .string (txt e1.o.note), .bool false, .slice A2 0 c2, .map (some (w5.heap.size)), .map none, .map none] 96)
    refine hK.out _ _ (hm67) (fun hHeld => ?_)
    clear hK K
    try simp only [Act.put, q1Z, q2Z, q3Z, q4Z, q5Z, q6Z]
    refine rdZ 12 rfl (fun K hK => ?_)
    go_simp
    refine hK.out _ _ (hm67) (fun hHeld => ?_)
    clear hK K
    try simp only [Act.put, q1Z, q2Z, q3Z, q4Z, q5Z, q6Z]
    refine wpAnyH_done (by kernel_rfl) ?_ _
    clear hHeld hrun6
    obtain ⟨w7, hw7⟩ : ∃ w7, w7 = w6.alloc (.cells #[.int .i64 0, .int .i64 2, .int .i64 e1.o.c, .int .i64 e1.o.s, .int .i64 e1.o.k, .string (txt e1.o.acct), .string (txt e1.o.peer), .int .i64 e1.o.sum, .slice L0.a L0.n L0.c, .int .i64 e1.o.per, .int .i64 e1.o.hold, .string (txt e1.o.note), .bool false, .slice A2 0 c2, .map (some (w5.heap.size)), .map none, .map none] 96) := ⟨_, rfl⟩
    rw [← hw7] at hm67 ⊢
    have hl7 : Blk w7 w6.heap.size 96 #[.int .i64 0, .int .i64 2, .int .i64 e1.o.c, .int .i64 e1.o.s, .int .i64 e1.o.k, .string (txt e1.o.acct), .string (txt e1.o.peer), .int .i64 e1.o.sum, .slice L0.a L0.n L0.c, .int .i64 e1.o.per, .int .i64 e1.o.hold, .string (txt e1.o.note), .bool false, .slice A2 0 c2, .map (some (w5.heap.size)), .map none, .map none] := by rw [hw7]; exact Blk.new w6 _ _
    have hh7 := hh6.out.mod (show Mod none_ w6 w7 from by rw [hw7]; exact (Mod.refl none_ w6).alloc _) (fun h => h)
    obtain ⟨col6, hc6⟩ : ∃ col6 : Col, col6 = fun j => if j < w5.heap.size then col5 j else if j = w5.heap.size then (51, 19) else if j = w6.heap.size then (51, 18) else (99, 0) := ⟨_, rfl⟩
    have he6 : Ext w5 col5 col6 := fun j hj => by rw [hc6]; dsimp only; rw [if_pos hj]
    have hch : col6 w5.heap.size = (51, 19) := by rw [hc6]; dsimp only; rw [if_neg (by omega), if_pos rfl]
    have hcp : col6 w6.heap.size = (51, 18) := by have := hs6'.out; rw [hc6]; dsimp only; rw [if_neg (by omega), if_neg (by omega), if_pos rfl]
    have hr7 := (hr5.out.ext he6).mod0 hm67
    have hM7 := zH (hM5.out.trans (hm67.any _))
    have hX7 := zH (hX5.out.trans he6 hM5.out.size)
    have hbi7 := hbi5.out.mod hm67 (fun h => h)
    have hb7 := hb5.out.mod hm67 (fun h => h)
    have hs7 : w5.heap.size ≤ w7.heap.size := hm67.size
    have h99 := zH (show col6 (w.heap.size + 1) = (99, 0) from (he6 _ (by omega)).trans ((hx5'.out _ (by omega)).trans (hcn.out _ (by omega))))
    clear hc6 hm67 he6 hw7
    obtain ⟨w8, hrun8, hld8, hm8, hs8⟩ := MapK.store_run (w := w7.drew) (hr7.ld.mod (Mod.refl none_ w7).drew (fun h => h)) Tryz.underlying84 (by show X.Ld.length + 1 < _; rw [hX.out.Ld]; decide) (i := ⟨1, 1⟩) i1_in (.pointer (some ⟨w6.heap.size, 0, none⟩))
    unfold isVal at hrun8
    dsimp only at hrun8
    have hm78 : Mod (· = b.ld) w7 w8 := (Mod.refl (· = b.ld) w7).drew.trans hm8
    have hr8 := zH (hr7.set_ld hm78 (Off.one hr7.lies (by simp [RpB.all])) hld8)
    have hldl : b.ld < w.heap.size := (h.out.lies (b.ld, 4) (by simp [RpB.all])).1
    have hl8 := zH (hl7.mod hm78 (fun e => by have e2 : w6.heap.size = b.ld := e; have := hs6'.out; omega))
    have hh8 := zH (hh7.mod hm78 (fun e => by have e2 : w5.heap.size = b.ld := e; omega))
    have hbi8 := zH (hbi7.mod hm78 (fun e => by have e2 : w.heap.size + 1 = b.ld := e; omega))
    have hb8 := zH (hb7.mod hm78 (fun e => by have e2 : w1.heap.size = b.ld := e; omega))
    have hM8 := zH (hM7.out.trans (hm78.mono (fun j hj => own_one h.out.lies (c := 4) (by simp [RpB.all]) j hj)))
    have q5 : w7.cell? ⟨b.q, 5, none⟩ = some (.map (some b.ld)) := hr7.q.cell_ rfl
    have lq7 := hr7.q.lt
    have y0 : w7.cell? ⟨w1.heap.size, 0, none⟩ = some (.int .i64 1) := hb7.cell_ rfl
    have y1 : w7.cell? ⟨w1.heap.size, 1, none⟩ = some (.int .i64 1) := hb7.cell_ rfl
    have ly := hb7.lt
    have hs8' : w7.heap.size ≤ w8.heap.size := hm78.size
    clear hm8 hm78 hs8 hld8
    replace hr7 := zH hr7
    replace hl7 := zH hl7
    replace hh7 := zH hh7
    replace hbi7 := zH hbi7
    replace hb7 := zH hb7
    replace hch := zH hch
    replace hcp := zH hcp
    go_upto_region 16 with fail
    refine wp_region_still_tail 6 (by kernel_rfl) (by kernel_rfl) ?_
    simp only [List.take_succ_cons, List.take_zero, List.drop_succ_cons, List.drop_zero]
    change wpStill _ _ (World.drew _) _ _ _
    repeat still_step
    refine wpStill_nil ?_
    change wpList _ _ _ _ _ (World.drew _)
    go_upto_region 17 with fail
    clear hrun8 q5 lq7 y0 y1 ly
    have hD0 : ((⟨A2, 0, c2⟩ : SV)).n = 0 := rfl
    have kA := zH (show Calls Tryz.prog 36 #[.pointer (some ⟨b.q, 0, none⟩), .agg #[.int .i64 1, .int .i64 1], .pointer (some ⟨w6.heap.size, 0, none⟩)] w8.drew (fun e' w' => e' = .returned (.agg #[.int .i64 1, .int .i64 0, .int .i64 1, .int .i64 i1.r, .int .i64 i1.n, .int .i64 0, .int .i64 0, .int .i64 0, .int .i64 e1.o.c, .int .i64 e1.o.s, .int .i64 e1.o.k, .string (txt e1.o.acct), .string (txt e1.o.peer), .int .i64 e1.o.sum, .slice L0.a L0.n L0.c, .int .i64 e1.o.per, .int .i64 e1.o.hold, .string (txt e1.o.note), .bool e1.none, .slice A2 0 c2]) ∧ Mod none_ w8.drew w') from
     asks_ok w8.drew b.q w6.heap.size w5.heap.size 1 ((hr8.out.mod0 (Mod.refl none_ w8).drew).q.cell_ rfl) i1 e1 L0 ⟨A2, 0, c2⟩ ⟨hl8.out.mod (Mod.refl none_ w8).drew (fun h => h)⟩)
    have kO := zH (fun W (hW : Mod none_ w8 W) => show Calls Tryz.prog 35 #[.pointer (some ⟨b.q, 0, none⟩), .agg #[.int .i64 1, .int .i64 0, .int .i64 1, .int .i64 i1.r, .int .i64 i1.n, .int .i64 0, .int .i64 0, .int .i64 0, .int .i64 e1.o.c, .int .i64 e1.o.s, .int .i64 e1.o.k, .string (txt e1.o.acct), .string (txt e1.o.peer), .int .i64 e1.o.sum, .slice L0.a L0.n L0.c, .int .i64 e1.o.per, .int .i64 e1.o.hold, .string (txt e1.o.note), .bool e1.none, .slice A2 0 c2]] W (fun e w' => ∃ A k c, e = .returned (.slice A k c) ∧ OwM w' A k c [ms1 1 0 1 0 ⟨A2, 0, c2⟩, ms1 1 2 1 0 ⟨A2, 0, c2⟩] ∧ Fresh W A ∧ Mod none_ W w') from
     others_ok W b.q 1 3 ((hr8.out.mod0 hW).q.cell_ rfl) ((hr8.out.mod0 hW).q.cell_ rfl) (by omega) (ms1 1 0 1 0 ⟨A2, 0, c2⟩))
    refine wp_region_held_drew (S := fun W => Mod (only (w.heap.size + 1)) w8 W) (by kernel_rfl) (Mod.refl (only (w.heap.size + 1)) w8).drew (fun hHeld => ?_)
    refine tkZ 0 ?_ rfl ?_ ?_
    rotate_left
    ·intro W hSw; (try dsimp only at hSw); go_simp; (try with_reducible rfl)
    try simp only [Act.put, q1Z, q2Z, q3Z, q4Z, q5Z, q6Z]
    refine tkZ 1 ?_ rfl ?_ ?_
    rotate_left
    ·intro W hSw; (try dsimp only at hSw); go_simp; (try with_reducible rfl)
    try simp only [Act.put, q1Z, q2Z, q3Z, q4Z, q5Z, q6Z]
    refine wpAnyH_take (i := 2) rfl (by kernel_rfl) (by kernel_rfl) (by kernel_rfl) (fun _ _ _ h => h) (yieldsIf_load_mid (by rfl) 27 (.tmp 7) rfl w1.heap.size 0 rfl [.int .i64 1, .int .i64 1] _ (fun W hW => Blk.range (hb8.out.mod hW (fun e => by have e2 : w1.heap.size = w.heap.size + 1 := e; omega)) 0 _ rfl) Tryz.underlying27 rfl inst_size) (by assumption) ?_
    try simp only [Act.put, q1Z, q2Z, q3Z, q4Z, q5Z, q6Z]
    refine tkZ 3 ?_ rfl ?_ ?_
    rotate_left
    ·intro W hSw; (try dsimp only at hSw); go_simp; (try with_reducible rfl)
    try simp only [Act.put, q1Z, q2Z, q3Z, q4Z, q5Z, q6Z]
    refine wpAnyH_take (i := 6) rfl (by kernel_rfl) (by kernel_rfl) (by kernel_rfl) (fun _ _ _ h => h) (yieldsIf_load_mid (by rfl) 27 (.tmp 7) rfl w1.heap.size 0 rfl [.int .i64 1, .int .i64 1] _ (fun W hW => Blk.range (hb8.out.mod hW (fun e => by have e2 : w1.heap.size = w.heap.size + 1 := e; omega)) 0 _ rfl) Tryz.underlying27 rfl inst_size) (by assumption) ?_
    try simp only [Act.put, q1Z, q2Z, q3Z, q4Z, q5Z, q6Z]
    refine rdZ 4 rfl (fun K hK => ?_)
    go_simp
    refine kA.out.mono ?_
    rintro e w9 ⟨rfl, hm9⟩
    dsimp only
    have hm9' := (Mod.refl none_ w8).drew.trans hm9
    refine hK.out _ _ ((hm9'.any _)) (fun hHeld => ?_)
    clear hK K
    try simp only [Act.put, q1Z, q2Z, q3Z, q4Z, q5Z, q6Z]
    refine rdZ 5 rfl (fun K hK => ?_)
    go_simp
    refine (kO.out _ hm9').mono ?_
    rintro e w10 ⟨A10, k10, c10, rfl, ho10, hf10, hm10⟩
    dsimp only
    have hk10 : k10 = 2 := by have := ho10.1; rw [mss_length] at this; simp at this; omega
    subst hk10
    have hm10' := hm9'.trans hm10
    refine hK.out _ _ ((hm10'.any _)) (fun hHeld => ?_)
    clear hK K
    try simp only [Act.put, q1Z, q2Z, q3Z, q4Z, q5Z, q6Z]
    refine rdZ 7 rfl (fun K hK => ?_)
    go_simp
    refine hK.out _ _ ((hm10'.any _)) (fun hHeld => ?_)
    clear hK K
    try simp only [Act.put, q1Z, q2Z, q3Z, q4Z, q5Z, q6Z]
    refine rdZ 8 rfl (fun K hK => ?_)
    have hbi10 := hbi8.out.mod hm10' (fun h => h)
    refine step_store_blk rfl 27 (.tmp 5) (.tmp 96) rfl (w.heap.size + 1) 0 _ rfl rfl hbi10 (by simp) inst_size (by rfl) #[.int .i64 1, .int .i64 1] rfl ?_
    intro w11 hb11 hm11
    have hm811 : Mod (only (w.heap.size + 1)) w8 w11 := (hm10'.any _).trans hm11
    refine hK.out _ _ (hm811) (fun hHeld => ?_)
    clear hK K
    try simp only [Act.put, q1Z, q2Z, q3Z, q4Z, q5Z, q6Z]
    refine rdZ 9 rfl (fun K hK => ?_)
    go_simp
    refine hK.out _ _ (hm811) (fun hHeld => ?_)
    clear hK K
    try simp only [Act.put, q1Z, q2Z, q3Z, q4Z, q5Z, q6Z]
    refine wpAnyH_done (by kernel_rfl) ?_ _
    clear hHeld
    have hX' := hX.out
    have hM11 := zH (hM8.out.then hm811 (fun j hj e => by have e2 : j = w.heap.size + 1 := e; omega))
    have hr11 := zH (hr8.out.far hm811 (by
     rintro j hj hh c _ e
     have e2 : j = w.heap.size + 1 := hh
     rw [e2, h99.out] at e
     simp at e))
    have ho11 := zH (Ow.mod ho10 hm11 (fun j hj hh => by
     have e2 : j = w.heap.size + 1 := hh
     obtain ⟨a, ha, rfl⟩ := hj
     have h1 := hf10 a ha
     have h2 := hm9'.size
     omega))
    have hl11 := zH (hl8.out.mod hm811 (fun e => by have e2 : w6.heap.size = w.heap.size + 1 := e; have := hs6'.out; omega))
    have hh11 := zH (hh8.out.mod hm811 (fun e => by have e2 : w5.heap.size = w.heap.size + 1 := e; omega))
    clear hm811 hm11 hm10 hm10' hm9 hm9' hf10 ho10 hbi10 kA kO
    replace hb11 := zH hb11
    go_wp2_with fail
    refine ret_tct rfl (w.heap.size + 1) _ rfl hb11.out rfl rfl ?_
    refine ⟨A10, c10, ⟨A2, 0, c2⟩, w6.heap.size, w5.heap.size, _, col6, rfl, rfl, ho11.out, hr11.out, ⟨?_, hX'.K, hX'.D, hX'.T, hX'.C, hX'.ln, hX'.lv, ?_⟩, hX'.Tl, ?_, ⟨⟨hl11.out⟩, hh11.out, hcp.out, hch.out⟩, rfl, hX7.out, hM11.out⟩
    ·show putI' i1 _ X.S = _
     rw [hX'.S]; rfl
    ·show (X.l ++ logB [sl1 1 ⟨A2, 0, c2⟩]).length ≤ _
     have := rec1_len ⟨A2, 0, c2⟩ (st := 1) (.inl rfl)
     have := hX'.l
     rw [List.length_append]; omega
    ·show putI' ⟨1, 1⟩ _ X.Ld = _
     rw [hX'.Ld]; rfl
  ·cases hpR
theorem LastOf.mem0 {xs ys : List Rs} (h : LastOf xs ys) {y : Rs} (hy : y ∈ ys) : y ∈ xs := List.mem_reverse.1 (List.mem_of_find?_eq_some (h.last y hy))
set_option maxRecDepth 512
theorem scan0_ok (w : World) (A : Option Addr) (c : Nat) : Calls Tryz.prog 147 #[.slice A 0 c] w fun e w' => e = .returned (.tuple #[.slice none 0 0, .int .i64 0, .int .i64 0]) ∧ Mod none_ w w' := by
 go_enter Tryz.func147, Tryz.ntmps147
 go_wp2_with fail
 go_step3
 go_wp2_with fail
 go_step3
 go_wp2_with fail
 go_loopw [5, 6, 7] (fun v i e wr => v = .slice none 0 0 ∧ i = .int .i64 0 ∧ e = .int .i64 0 ∧ Mod none_ w wr) (fun _ _ _ _ => 0)
 case atStart => exact ⟨rfl, rfl, rfl, Mod.refl _ _⟩
 case round =>
  obtain ⟨rfl, rfl, rfl, hm⟩ := hrel
  replace hm := zH hm
  go_wp2
  rw [Exit.noGoto_ret]
  go_ret3
  exact ⟨rfl, hm.out⟩
theorem lscan0_ok (w : World) (A : Option Addr) (c : Nat) : Calls Tryz.prog 81 #[.slice A 0 c] w fun e w' => e = .returned (.tuple #[.slice none 0 0, .int .i64 0]) ∧ Mod none_ w w' := by
 have kS := zH (scan0_ok w A c)
 go_enter Tryz.func81, Tryz.ntmps81
 go_wp2_with fail
 go_step3
 go_wp2_with fail
 refine kS.out.mono ?_
 rintro e w1 ⟨rfl, hm1⟩
 dsimp only
 replace hm1 := zH hm1
 clear kS
 go_wp2_with fail
 go_step3
 go_wp2_with fail
 go_loopw [7, 8, 23] (fun v s y wr => v = .slice none 0 0 ∧ s = .int .i64 0 ∧ y = .int .i64 0 ∧ Mod none_ w wr) (fun _ _ _ _ => 0)
 case atStart => exact ⟨rfl, rfl, rfl, hm1.out⟩
 case round =>
  obtain ⟨rfl, rfl, rfl, hm⟩ := hrel
  replace hm := zH hm
  go_wp2_with fail
  rw [Exit.noGoto_ret]
  go_ret2
  exact ⟨rfl, hm.out⟩
set_option maxRecDepth 100000
theorem trim0_ok (w : World) (p : Nat) (r : Nat) (hd : Dk w p none 0 ⟨[], 0, r, false⟩) :
  Calls Tryz.prog 51 #[.pointer (some ⟨p, 0, none⟩)] w fun e w' =>
   ∃ A' c', e = .returned (.tuple #[.slice A' 0 c', .int .i64 0]) ∧ Dk w' p none 0 ⟨[], 0, r, false⟩ ∧ Mod (dkf p none) w w' := by
 have kB := zH (disk_bytes p none 0 w _ hd)
 dsimp only at kB
 replace hd := zH hd
 go_enter Tryz.func51, Tryz.ntmps51
 go_wp2_with fail
 refine kB.out.mono ?_
 rintro e w1 ⟨A1, c1, rfl, ho1, hf1, hm1⟩
 dsimp only
 have kS := zH (lscan0_ok w1 A1 c1)
 simp only [List.length_nil]
 clear ho1 hf1
 replace hm1 := zH hm1
 go_wp2_with fail
 refine kS.out.mono ?_
 rintro e w2 ⟨rfl, hm2⟩
 dsimp only
 have hM2 := zH (hm1.out.trans hm2)
 have kC := zH (disk_cut p none 0 [] 0 r w2 0 (hd.out.mod0 hM2.out) (Nat.le_refl _))
 clear hm2 kS
 go_wp2_with fail
 refine kC.out.mono ?_
 rintro e w3 ⟨rfl, hd3, hm3⟩
 dsimp only
 have kL := zH (last_ok w3 none 0 0 [] (show RdR w3 none 0 [] from Rd.none_) (fun x hx => by cases hx) (by omega))
 have hM3 := zH ((hM2.out.any _).trans hm3)
 clear hm3 kC hM2
 replace hd3 := zH hd3
 go_wp2_with fail
 refine kL.out.mono ?_
 rintro e w4 ⟨A4, n4, c4, ys, rfl, hL, ho4, hf4, hm4⟩
 dsimp only
 have hy0 : ys = [] := by
  cases ys with
  | nil => rfl
  | cons y ys => exact absurd (hL.mem0 List.mem_cons_self) List.not_mem_nil
 have hn4 : n4 = 0 := by have := OwR.len ho4; rw [hy0] at this; exact this.symm
 subst hn4
 clear hL ho4 hf4 hy0
 replace hm4 := zH hm4
 go_wp2_with fail
 go_ret2
 exact ⟨A4, c4, rfl, hd3.out.mod0 hm4.out, hM3.out.trans (hm4.out.any _)⟩
end Go.Proofs.YtfkfiokkjjnhiaaGreat
