import Derived.Test.YtfkfiokkjjnhiaaGreatUp31
set_option linter.unusedVariables false
set_option linter.unusedSimpArgs false
set_option maxHeartbeats 16000000
namespace Go.Proofs.YtfkfiokkjjnhiaaGreat
open Go.RowKit
def SettlePost (w : World) (col : Col) (k : Nat) (b : RpB) (X : RpS) (D : SV) (e : Ending) (w' : World) : Prop :=
 ∃ A c g X' col', e = .returned (.tuple #[.slice A 2 c, .int .i64 0]) ∧ OwM w' A 2 c [ms1 1 0 5 0 D, ms1 1 2 5 0 D] ∧ RpM w' col' k b 1 3 X' ∧ Stood X X' D ∧ X'.Tl = [(i1, .map (some g))] ∧ MapN w' g [] ∧ col' g = (50 + k, 20) ∧ Ext w col col' ∧ Mod (own col k) w w'
theorem others3 (D : SV) : othersL 1 3 (ms1 0 0 5 0 D) = [ms1 1 0 5 0 D, ms1 1 2 5 0 D] := rfl
set_option maxRecDepth 100000
theorem settle_ok (w : World) (col : Col) (k : Nat) (b : RpB) (X : RpS) (h : RpM w col k b 1 3 X) (D0 D : SV) (h0 : D0.n = 0) (hD : D.n = 0) (hX : Heard X D0) (htl : X.Tl = []) (hk9 : k ≠ 99) (hcn : ∀ j, w.heap.size ≤ j → col j = (99, 0)) :
  Calls Tryz.prog 144 #[.pointer (some ⟨b.q, 0, none⟩), .agg #[.int .i64 i1.r, .int .i64 i1.n], .agg #[.int .i64 e1.o.c, .int .i64 e1.o.s, .int .i64 e1.o.k, .string (txt e1.o.acct), .string (txt e1.o.peer), .int .i64 e1.o.sum, .slice L0.a L0.n L0.c, .int .i64 e1.o.per, .int .i64 e1.o.hold, .string (txt e1.o.note), .bool e1.none, .slice D.a D.n D.c]] w (SettlePost w col k b X D) := by
 obtain ⟨w0, hw0⟩ : ∃ w0, w0 = ((w.alloc (.cells #[.int .i64 i1.r, .int .i64 i1.n] 27)).alloc (.cells #[.int .i64 e1.o.c, .int .i64 e1.o.s, .int .i64 e1.o.k, .string (txt e1.o.acct), .string (txt e1.o.peer), .int .i64 e1.o.sum, .slice L0.a L0.n L0.c, .int .i64 e1.o.per, .int .i64 e1.o.hold, .string (txt e1.o.note), .bool e1.none, .slice D.a D.n D.c] 53)) := ⟨_, rfl⟩
 have hs0 : w0.heap.size = w.heap.size + 2 := by rw [hw0]; simp
 have hm0 : Mod none_ w w0 := by rw [hw0]; exact ((Mod.refl none_ w).alloc _).alloc _
 have hbi : Blk w0 w.heap.size 27 #[.int .i64 i1.r, .int .i64 i1.n] := by rw [hw0]; exact (Blk.new w _ _).alloc _
 have hbe : Blk w0 (w.heap.size + 1) 53 #[.int .i64 e1.o.c, .int .i64 e1.o.s, .int .i64 e1.o.k, .string (txt e1.o.acct), .string (txt e1.o.peer), .int .i64 e1.o.sum, .slice L0.a L0.n L0.c, .int .i64 e1.o.per, .int .i64 e1.o.hold, .string (txt e1.o.note), .bool e1.none, .slice D.a D.n D.c] := by
  have := Blk.new (w.alloc (.cells #[.int .i64 i1.r, .int .i64 i1.n] 27)) 53 #[.int .i64 e1.o.c, .int .i64 e1.o.s, .int .i64 e1.o.k, .string (txt e1.o.acct), .string (txt e1.o.peer), .int .i64 e1.o.sum, .slice L0.a L0.n L0.c, .int .i64 e1.o.per, .int .i64 e1.o.hold, .string (txt e1.o.note), .bool e1.none, .slice D.a D.n D.c]
  rw [hw0]; simpa using this
 have kS := zH (standMe_ok w0 col k b 3 X (h.mod0 hm0) D0 D h0 hD hX htl hk9)
 replace hm0 := zH hm0
 replace hbi := zH hbi
 replace hbe := zH hbe
 replace h := zH h
 replace hX := zH hX
 replace h0 := zH h0
 replace hD := zH hD
 replace htl := zH htl
 replace hcn := zH hcn
 go_enter Tryz.func144, Tryz.ntmps144
 go_upto_region 1 with fail
 rw [← hw0]
 replace hw0 := zH hw0
 go_wp2_with (first
  | (refine wpList_load_blk rfl 53 (.tmp 5) rfl (w.heap.size + 1) 0 rfl hbe.out [.int .i64 e1.o.c, .int .i64 e1.o.s, .int .i64 e1.o.k, .string (txt e1.o.acct), .string (txt e1.o.peer), .int .i64 e1.o.sum, .slice L0.a L0.n L0.c, .int .i64 e1.o.per, .int .i64 e1.o.hold, .string (txt e1.o.note), .bool e1.none, .slice D.a D.n D.c] rfl Tryz.underlying53 rfl entry_size ?_)
  | (refine wpList_load_blk rfl 27 (.tmp 4) rfl w.heap.size 0 rfl hbi.out [.int .i64 i1.r, .int .i64 i1.n] rfl Tryz.underlying27 rfl inst_size ?_))
 refine kS.out.mono ?_
 rintro e w1 ⟨rfl, g, X', col1, hr1, hst, htl1, hmd1, hcg1, hx1, hm1⟩
 dsimp only
 have hno : ∀ j, w.heap.size ≤ j → ¬ own col k j := fun j hj => by unfold own; rw [hcn.out j hj]; exact fun e => hk9 e.symm
 have hbi1 := zH (hbi.out.mod hm1 (hno _ (Nat.le_refl _)))
 have hbe1 := zH (hbe.out.mod hm1 (hno _ (by omega)))
 have hM1 := zH ((hm0.out.any (own col k)).trans hm1)
 have kO := zH (show Calls Tryz.prog 35 #[.pointer (some ⟨b.q, 0, none⟩), .agg #[.int .i64 0, .int .i64 0, .int .i64 5, .int .i64 i1.r, .int .i64 i1.n, .int .i64 0, .int .i64 0, .int .i64 0, .int .i64 e1.o.c, .int .i64 e1.o.s, .int .i64 e1.o.k, .string (txt e1.o.acct), .string (txt e1.o.peer), .int .i64 e1.o.sum, .slice L0.a L0.n L0.c, .int .i64 e1.o.per, .int .i64 e1.o.hold, .string (txt e1.o.note), .bool e1.none, .slice D.a D.n D.c]] w1 _ from others_ok w1 b.q 1 3 (hr1.q.cell_ rfl) (hr1.q.cell_ rfl) (by omega) (ms1 0 0 5 0 D))
 have hX1 := zH (show Ext w col col1 from fun j hj => hx1 j (Nat.lt_of_lt_of_le hj hm0.out.size))
 clear hm1 hx1 kS hno
 replace hr1 := zH hr1
 replace hst := zH hst
 replace htl1 := zH htl1
 replace hmd1 := zH hmd1
 replace hcg1 := zH hcg1
 go_wp2_with (first
  | (refine wpList_load_blk rfl 53 (.tmp 5) rfl (w.heap.size + 1) 0 rfl hbe1.out [.int .i64 e1.o.c, .int .i64 e1.o.s, .int .i64 e1.o.k, .string (txt e1.o.acct), .string (txt e1.o.peer), .int .i64 e1.o.sum, .slice L0.a L0.n L0.c, .int .i64 e1.o.per, .int .i64 e1.o.hold, .string (txt e1.o.note), .bool e1.none, .slice D.a D.n D.c] rfl Tryz.underlying53 rfl entry_size ?_)
  | (refine wpList_load_blk rfl 27 (.tmp 4) rfl w.heap.size 0 rfl hbi1.out [.int .i64 i1.r, .int .i64 i1.n] rfl Tryz.underlying27 rfl inst_size ?_))
 refine kO.out.mono ?_
 rintro e w2 ⟨A2, k2, c2, rfl, ho2, hf2, hm2⟩
 dsimp only
 rw [others3] at ho2
 have hk2 : k2 = 2 := by have := ho2.1; rw [mss_length] at this; simp at this; omega
 subst hk2
 replace ho2 := zH ho2
 replace hf2 := zH hf2
 replace hm2 := zH hm2
 go_wp2_with fail
 go_ret2
 exact ⟨A2, c2, g, X', col1, rfl, ho2.out, hr1.out.mod0 hm2.out, hst.out, htl1.out, hmd1.out.mod hm2.out (fun h => h), hcg1.out, hX1.out, hM1.out.trans (hm2.out.any _)⟩
theorem maj3_ok (w : World) : Calls Tryz.prog 26 #[.int .i64 3] w fun e w' => e = .returned (.int .i64 2) ∧ Mod none_ w w' := by
 go_enter Tryz.func26, Tryz.ntmps26
 go_wp2_with fail
 go_ret
 exact ⟨rfl, Mod.refl _ _⟩
theorem maj5_ok (w : World) : Calls Tryz.prog 26 #[.int .i64 5] w fun e w' => e = .returned (.int .i64 3) ∧ Mod none_ w w' := by
 go_enter Tryz.func26, Tryz.ntmps26
 go_wp2_with fail
 go_ret
 exact ⟨rfl, Mod.refl _ _⟩
theorem hear2_ok (w : World) (col : Col) (k : Nat) (b : RpB) (X : RpS) (h : RpM w col k b 1 3 X) (D0 Ds : SV) (h0 : D0.n = 0) (p hm : Nat) (hl : LdB w p hm e1 L0 D0) (H : List IntV) (hH : MapN w hm H) (hHl : H.length = 2) (hHs : ∀ v ∈ H, ∃ A c, v.2 = .slice A 0 c)  :
  Calls Tryz.prog 76 #[.pointer (some ⟨b.q, 0, none⟩), .agg #[.int .i64 i1.r, .int .i64 i1.n], .pointer (some ⟨p, 0, none⟩), .bool false] w (fun e w' => e = .returned (.tuple #[.slice none 0 0, .int .i64 0]) ∧ Mod none_ w w') := by
 have hlp := hl.blk.lt
 have hlq := h.q.lt
 obtain ⟨w0, hw0⟩ : ∃ w0, w0 = (w.alloc (.cells #[.int .i64 i1.r, .int .i64 i1.n] 27)) := ⟨_, rfl⟩
 have hm0 : Mod none_ w w0 := by rw [hw0]; exact (Mod.refl none_ w).alloc _
 have hbi : Blk w0 w.heap.size 27 #[.int .i64 i1.r, .int .i64 i1.n] := by rw [hw0]; exact Blk.new w _ _
 have hl0 := hl.blk.mod hm0 (fun h => h)
 have hH0 := hH.mod hm0 (fun h => h)
 have hlen := MapN.len_run hH0 (t := 92) Tryz.underlying92 3
 rw [hHl] at hlen
 have p3 : w0.cell? ⟨p, 14, none⟩ = some (.map (some hm)) := hl0.cell_ rfl
 have lp0 := hl0.lt
 replace hm0 := zH hm0
 replace hbi := zH hbi
 replace h := zH h
 replace hH := zH hH
 replace hl := zH hl
 replace hHs := zH hHs
 replace hl0 := zH hl0
 replace hH0 := zH hH0
 replace h0 := zH h0
 go_enter Tryz.func76, Tryz.ntmps76
 go_upto_region 1 with fail
 rw [← hw0]
 replace hw0 := zH hw0
 go_wp2_with (refine rangeN_it rfl (.tmp 22) rfl Tryz.underlying92 hm H rfl hH0.out ?_; intro w1 hit hmr hsz; replace hit := zH hit; have hm1 := zH (hm0.out.trans hmr); have hm01 := zH hmr; clear hmr hsz)
 go_frame
 have hl1 := zH (hl0.out.mod hm01.out (fun h => h))
 go_loopw [11] (fun v wr => v = .bool true ∧ (∃ R, ItN wr hm w0.heap.size H R) ∧ w1.heap.size ≤ wr.heap.size ∧ Mod (· = w0.heap.size) w1 wr) (fun _ wr => wr.rangeLeft hm w0.heap.size)
 case atStart => exact ⟨rfl, ⟨H, hit.out⟩, Nat.le_refl _, Mod.refl _ _⟩
 case round =>
  obtain ⟨rfl, ⟨R, hI⟩, hsz, hmr⟩ := hrel
  have hpr : p ≠ w0.heap.size := by omega
  rcases hI.next 0 with ⟨_, hrun⟩ | ⟨v, w2, hvR, hvH, hI2, ⟨_, hml⟩, hm2, hs2, hrun, hen⟩
  ·have hlr := zH (hl1.out.mod hmr (fun e => hpr e))
   have hMr := zH (hm1.out.then hmr (fun j hj e => by have e2 : j = w0.heap.size := e; have := hm0.out.size; omega))
   have hbr := zH (((hbi.out.mod hm01.out (fun h => h)).mod hmr (fun e => by have e2 : w.heap.size = w0.heap.size := e; have := hbi.out.lt; omega)))
   have hrr := zH (h.out.mod0 hMr.out)
   have lr0 : wr.cell? ⟨p, 0, none⟩ = some (.int .i64 0) := hlr.out.cell_ rfl
   have lpr := hlr.out.lt
   have qr1 : wr.cell? ⟨b.q, 1, none⟩ = some (.int .i64 3) := hrr.out.q.cell_ rfl
   have lqr := hrr.out.q.lt
   clear hI hmr hsz
   go_wp2_with fail
   refine (maj3_ok _).mono ?_
   rintro e w3 ⟨rfl, hm3⟩
   dsimp only
   have hend := zH (hMr.out.trans hm3)
   have hl3 := hlr.out.mod hm3 (fun h => h)
   have lr3 : w3.cell? ⟨p, 0, none⟩ = some (.int .i64 0) := hl3.cell_ rfl
   have lp3 := hl3.lt
   clear hm3 hl3
   go_wp2_with fail
   go_ret2
   exact ⟨rfl, hend.out⟩
  ·obtain ⟨Av, cv, hv⟩ := hHs.out v hvH
   obtain ⟨vk, vv⟩ := v
   dsimp only at hv hrun hen hI2
   subst hv
   unfold inV at hrun hen
   have hl2 := hl1.out.mod (hmr.trans hm2) (fun e => hpr e)
   have d13 : w2.cell? ⟨p, 13, none⟩ = some (.slice D0.a D0.n D0.c) := hl2.cell_ rfl
   have lp2 := hl2.lt
   have kE := zH (eqP_ok w2 Av D0.a 0 D0.n cv D0.c [] [] rd_zero (by rw [h0.out]; exact rd_zero) (by omega) (by rw [h0.out]; omega))
   have hM2 := zH (hmr.trans hm2)
   clear hl2 hI hmr hm2
   replace hI2 := zH hI2
   go_wp2_with fail
   refine kE.out.mono ?_
   rintro e w3 ⟨rfl, q3, rfl⟩
   dsimp only
   go_wp2_with fail
   go_roundw
   case rel => exact ⟨rfl, ⟨_, hI2.out.mod ((Mod.refl none_ w2).drewN q3) (fun h => h) (fun h => h)⟩, hM2.out.size, hM2.out.trans ((Mod.refl _ w2).drewN q3)⟩
   case measure => exact hml
theorem hear3_ok (w : World) (col : Col) (k : Nat) (b : RpB) (X : RpS) (h : RpM w col k b 1 3 X) (D0 Ds : SV) (h0 : D0.n = 0) (p hm : Nat) (hl : LdB w p hm e1 L0 D0) (H : List IntV) (hH : MapN w hm H) (hHl : H.length = 3) (hHs : ∀ v ∈ H, ∃ A c, v.2 = .slice A 0 c) (hX : Heard X Ds) (hDs : Ds.n = 0) (htl : X.Tl = []) (hk9 : k ≠ 99) (hcn : ∀ j, w.heap.size ≤ j → col j = (99, 0)) (hcp : col p = (50 + k, 18)) :
  Calls Tryz.prog 76 #[.pointer (some ⟨b.q, 0, none⟩), .agg #[.int .i64 i1.r, .int .i64 i1.n], .pointer (some ⟨p, 0, none⟩), .bool false] w (SettlePost w col k b X D0) := by
 have hlp := hl.blk.lt
 have hlq := h.q.lt
 obtain ⟨w0, hw0⟩ : ∃ w0, w0 = (w.alloc (.cells #[.int .i64 i1.r, .int .i64 i1.n] 27)) := ⟨_, rfl⟩
 have hm0 : Mod none_ w w0 := by rw [hw0]; exact (Mod.refl none_ w).alloc _
 have hbi : Blk w0 w.heap.size 27 #[.int .i64 i1.r, .int .i64 i1.n] := by rw [hw0]; exact Blk.new w _ _
 have hl0 := hl.blk.mod hm0 (fun h => h)
 have hH0 := hH.mod hm0 (fun h => h)
 have hlen := MapN.len_run hH0 (t := 92) Tryz.underlying92 3
 rw [hHl] at hlen
 have p3 : w0.cell? ⟨p, 14, none⟩ = some (.map (some hm)) := hl0.cell_ rfl
 have lp0 := hl0.lt
 replace hm0 := zH hm0
 replace hbi := zH hbi
 replace h := zH h
 replace hH := zH hH
 replace hl := zH hl
 replace hHs := zH hHs
 replace hl0 := zH hl0
 replace hH0 := zH hH0
 replace h0 := zH h0
 replace hX := zH hX
 replace hDs := zH hDs
 replace htl := zH htl
 replace hcn := zH hcn
 replace hcp := zH hcp
 go_enter Tryz.func76, Tryz.ntmps76
 go_upto_region 1 with fail
 rw [← hw0]
 replace hw0 := zH hw0
 go_wp2_with (refine rangeN_it rfl (.tmp 22) rfl Tryz.underlying92 hm H rfl hH0.out ?_; intro w1 hit hmr hsz; replace hit := zH hit; have hm1 := zH (hm0.out.trans hmr); have hm01 := zH hmr; clear hmr hsz)
 go_frame
 have hl1 := zH (hl0.out.mod hm01.out (fun h => h))
 go_loopw [11] (fun v wr => v = .bool true ∧ (∃ R, ItN wr hm w0.heap.size H R) ∧ w1.heap.size ≤ wr.heap.size ∧ Mod (· = w0.heap.size) w1 wr) (fun _ wr => wr.rangeLeft hm w0.heap.size)
 case atStart => exact ⟨rfl, ⟨H, hit.out⟩, Nat.le_refl _, Mod.refl _ _⟩
 case round =>
  obtain ⟨rfl, ⟨R, hI⟩, hsz, hmr⟩ := hrel
  have hpr : p ≠ w0.heap.size := by omega
  rcases hI.next 0 with ⟨_, hrun⟩ | ⟨v, w2, hvR, hvH, hI2, ⟨_, hml⟩, hm2, hs2, hrun, hen⟩
  ·have hlr := zH (hl1.out.mod hmr (fun e => hpr e))
   have hMr := zH (hm1.out.then hmr (fun j hj e => by have e2 : j = w0.heap.size := e; have := hm0.out.size; omega))
   have hbr := zH (((hbi.out.mod hm01.out (fun h => h)).mod hmr (fun e => by have e2 : w.heap.size = w0.heap.size := e; have := hbi.out.lt; omega)))
   have hrr := zH (h.out.mod0 hMr.out)
   have lr0 : wr.cell? ⟨p, 0, none⟩ = some (.int .i64 0) := hlr.out.cell_ rfl
   have lpr := hlr.out.lt
   have qr1 : wr.cell? ⟨b.q, 1, none⟩ = some (.int .i64 3) := hrr.out.q.cell_ rfl
   have lqr := hrr.out.q.lt
   clear hI hmr hsz
   have hcp' := zH (show ¬ own col k p from by unfold own; rw [hcp.out]; show ¬ (50 + k = k); omega)
   have hcw' := zH (show ¬ own col k w.heap.size from by unfold own; rw [hcn.out _ (Nat.le_refl _)]; exact fun e => hk9 e.symm)
   have kS := zH (settle_ok wr.drew col k b X (hrr.out.mod0 (Mod.refl none_ wr).drew) Ds D0 hDs.out h0.out hX.out htl.out hk9 (fun j hj => hcn.out j (Nat.le_trans hMr.out.size hj)))
   go_upto_region 8 with fail
   refine wp_region_held_drew (S := fun W => Mod (own col k) wr W) (by kernel_rfl) (Mod.refl (own col k) wr).drew (fun hHeld => ?_)
   refine tkZ 0 ?_ rfl ?_ ?_
   rotate_left
   ·intro W hSw; (try dsimp only at hSw); go_simp; (try with_reducible rfl)
   try simp only [Act.put, q1Z, q2Z, q3Z, q4Z, q5Z, q6Z]
   refine wpAnyH_take (i := 1) rfl (by kernel_rfl) (by kernel_rfl) (by kernel_rfl) (fun _ _ _ h => h) (yieldsIf_load_mid (by rfl) 27 (.tmp 5) rfl w.heap.size 0 rfl [.int .i64 i1.r, .int .i64 i1.n] _ (fun W hW => Blk.range (hbr.out.mod hW hcw'.out) 0 _ rfl) Tryz.underlying27 rfl inst_size) (by assumption) ?_
   try simp only [Act.put, q1Z, q2Z, q3Z, q4Z, q5Z, q6Z]
   refine tkZ 2 ?_ rfl ?_ ?_
   rotate_left
   ·intro W hSw; (try dsimp only at hSw); go_simp; (try with_reducible rfl)
   try simp only [Act.put, q1Z, q2Z, q3Z, q4Z, q5Z, q6Z]
   refine tkZ 3 ?_ rfl ?_ ?_
   rotate_left
   ·intro W hSw; (try dsimp only at hSw); go_simp; (try with_reducible rfl)
   try simp only [Act.put, q1Z, q2Z, q3Z, q4Z, q5Z, q6Z]
   refine tkZ 4 ?_ rfl ?_ ?_
   rotate_left
   ·intro W hSw; (try dsimp only at hSw); go_simp; (try with_reducible rfl)
   try simp only [Act.put, q1Z, q2Z, q3Z, q4Z, q5Z, q6Z]
   refine wpAnyH_take (i := 5) rfl (by kernel_rfl) (by kernel_rfl) (by kernel_rfl) (fun _ _ _ h => h) (yieldsIf_load_mid (by rfl) 53 (.tmp 59) rfl p 2 rfl [.int .i64 e1.o.c, .int .i64 e1.o.s, .int .i64 e1.o.k, .string (txt e1.o.acct), .string (txt e1.o.peer), .int .i64 e1.o.sum, .slice L0.a L0.n L0.c, .int .i64 e1.o.per, .int .i64 e1.o.hold, .string (txt e1.o.note), .bool e1.none, .slice D0.a D0.n D0.c] _ (fun W hW => Blk.range (hlr.out.mod hW hcp'.out) 2 _ rfl) Tryz.underlying53 rfl entry_size) (by assumption) ?_
   try simp only [Act.put, q1Z, q2Z, q3Z, q4Z, q5Z, q6Z]
   refine rdZ 6 rfl (fun K hK => ?_)
   go_simp
   refine kS.out.mono ?_
   rintro e w3 ⟨A3, c3, g, X', col3, rfl, ho3, hr3, hst3, htl3, hmd3, hcg3, hx3, hm3⟩
   dsimp only
   have hm3' := (Mod.refl (own col k) wr).drew.trans hm3
   refine hK.out _ _ (hm3') (fun hHeld => ?_)
   clear hK K
   try simp only [Act.put, q1Z, q2Z, q3Z, q4Z, q5Z, q6Z]
   refine tkZ 7 ?_ rfl ?_ ?_
   rotate_left
   ·intro W hSw; (try dsimp only at hSw); go_simp; (try with_reducible rfl)
   try simp only [Act.put, q1Z, q2Z, q3Z, q4Z, q5Z, q6Z]
   refine tkZ 8 ?_ rfl ?_ ?_
   rotate_left
   ·intro W hSw; (try dsimp only at hSw); go_simp; (try with_reducible rfl)
   try simp only [Act.put, q1Z, q2Z, q3Z, q4Z, q5Z, q6Z]
   refine rdZ 9 rfl (fun K hK => ?_)
   go_simp
   refine hK.out _ _ (hm3') (fun hHeld => ?_)
   clear hK K
   try simp only [Act.put, q1Z, q2Z, q3Z, q4Z, q5Z, q6Z]
   refine rdZ 10 rfl (fun K hK => ?_)
   go_simp
   refine hK.out _ _ (hm3') (fun hHeld => ?_)
   clear hK K
   try simp only [Act.put, q1Z, q2Z, q3Z, q4Z, q5Z, q6Z]
   refine wpAnyH_done (by kernel_rfl) ?_ _
   clear hHeld
   have hMz := zH ((hMr.out.any (own col k)).trans hm3')
   have hXz := zH (show Ext w col col3 from fun j hj => hx3 j (Nat.lt_of_lt_of_le hj hMr.out.size))
   clear hm3 hm3' hx3
   replace ho3 := zH ho3
   replace hr3 := zH hr3
   replace hst3 := zH hst3
   replace htl3 := zH htl3
   replace hmd3 := zH hmd3
   replace hcg3 := zH hcg3
   go_wp2_with fail
   go_ret2
   exact ⟨A3, c3, g, X', col3, rfl, ho3.out, hr3.out, hst3.out, htl3.out, hmd3.out, hcg3.out, hXz.out, hMz.out⟩
  ·obtain ⟨Av, cv, hv⟩ := hHs.out v hvH
   obtain ⟨vk, vv⟩ := v
   dsimp only at hv hrun hen hI2
   subst hv
   unfold inV at hrun hen
   have hl2 := hl1.out.mod (hmr.trans hm2) (fun e => hpr e)
   have d13 : w2.cell? ⟨p, 13, none⟩ = some (.slice D0.a D0.n D0.c) := hl2.cell_ rfl
   have lp2 := hl2.lt
   have kE := zH (eqP_ok w2 Av D0.a 0 D0.n cv D0.c [] [] rd_zero (by rw [h0.out]; exact rd_zero) (by omega) (by rw [h0.out]; omega))
   have hM2 := zH (hmr.trans hm2)
   clear hl2 hI hmr hm2
   replace hI2 := zH hI2
   go_wp2_with fail
   refine kE.out.mono ?_
   rintro e w3 ⟨rfl, q3, rfl⟩
   dsimp only
   go_wp2_with fail
   go_roundw
   case rel => exact ⟨rfl, ⟨_, hI2.out.mod ((Mod.refl none_ w2).drewN q3) (fun h => h) (fun h => h)⟩, hM2.out.size, hM2.out.trans ((Mod.refl _ w2).drewN q3)⟩
   case measure => exact hml
def owns (col : Col) (k : Nat) : Nat → Prop := fun j => (col j).1 = k ∨ (col j).1 = 50 + k
theorem own_owns {col : Col} {k j : Nat} (h : own col k j) : owns col k j := .inl h
theorem led_ok (w : World) (col : Col) (k : Nat) (b : RpB) (me n : Int) (X : RpS) (h : RpM w col k b me n X) (p hm : Nat) (D0 : SV) (hl : LdB w p hm e1 L0 D0) (hLd : X.Ld = [(i1, .pointer (some ⟨p, 0, none⟩))]) (frm : Int) (Dm : SV) :
  Calls Tryz.prog 222 #[.pointer (some ⟨b.q, 0, none⟩), .agg #[.int .i64 frm, .int .i64 1, .int .i64 2, .int .i64 i1.r, .int .i64 i1.n, .int .i64 0, .int .i64 1, .int .i64 0, .int .i64 e1.o.c, .int .i64 e1.o.s, .int .i64 e1.o.k, .string (txt e1.o.acct), .string (txt e1.o.peer), .int .i64 e1.o.sum, .slice L0.a L0.n L0.c, .int .i64 e1.o.per, .int .i64 e1.o.hold, .string (txt e1.o.note), .bool e1.none, .slice Dm.a Dm.n Dm.c], .int .i64 2] w fun e w' => e = .returned (.pointer (some ⟨p, 0, none⟩)) ∧ Mod none_ w w' := by
 have hlp := hl.blk.lt
 have hlq := h.q.lt
 obtain ⟨w0, hw0⟩ : ∃ w0, w0 = (w.alloc (.cells #[.int .i64 frm, .int .i64 1, .int .i64 2, .int .i64 i1.r, .int .i64 i1.n, .int .i64 0, .int .i64 1, .int .i64 0, .int .i64 e1.o.c, .int .i64 e1.o.s, .int .i64 e1.o.k, .string (txt e1.o.acct), .string (txt e1.o.peer), .int .i64 e1.o.sum, .slice L0.a L0.n L0.c, .int .i64 e1.o.per, .int .i64 e1.o.hold, .string (txt e1.o.note), .bool e1.none, .slice Dm.a Dm.n Dm.c] 66)) := ⟨_, rfl⟩
 have hm0 : Mod none_ w w0 := by rw [hw0]; exact (Mod.refl none_ w).alloc _
 have hbm : Blk w0 w.heap.size 66 #[.int .i64 frm, .int .i64 1, .int .i64 2, .int .i64 i1.r, .int .i64 i1.n, .int .i64 0, .int .i64 1, .int .i64 0, .int .i64 e1.o.c, .int .i64 e1.o.s, .int .i64 e1.o.k, .string (txt e1.o.acct), .string (txt e1.o.peer), .int .i64 e1.o.sum, .slice L0.a L0.n L0.c, .int .i64 e1.o.per, .int .i64 e1.o.hold, .string (txt e1.o.note), .bool e1.none, .slice Dm.a Dm.n Dm.c] := by rw [hw0]; exact Blk.new w _ _
 have h0 := h.mod0 hm0
 have lk : ∀ q, (Instr.lookup 84 (.map (some b.ld)) (.agg #[.int .i64 i1.r, .int .i64 i1.n]) false).run Tryz.prog (w0.drewN q) = .ok (.pointer (some ⟨p, 0, none⟩)) (w0.drewN q) := by
  intro q
  have := (h0.ld.mod ((Mod.refl none_ w0).drewN q) (fun h => h)).get_run (t := 84) (z := .pointer none) Tryz.underlying84 (by rfl) i1_in
  rw [hLd] at this
  exact this
 have q5 : w0.cell? ⟨b.q, 5, none⟩ = some (.map (some b.ld)) := h0.q.cell_ rfl
 have lq0 := h0.q.lt
 have hl0 := hl.blk.mod hm0 (fun h => h)
 have p0 : w0.cell? ⟨p, 0, none⟩ = some (.int .i64 0) := hl0.cell_ rfl
 have p1 : w0.cell? ⟨p, 1, none⟩ = some (.int .i64 2) := hl0.cell_ rfl
 have lp0 := hl0.lt
 have lm0 := hbm.lt
 have m3 : w0.cell? ⟨w.heap.size, 3, none⟩ = some (.int .i64 i1.r) := hbm.cell_ rfl
 have m4 : w0.cell? ⟨w.heap.size, 4, none⟩ = some (.int .i64 i1.n) := hbm.cell_ rfl
 have m5 : w0.cell? ⟨w.heap.size, 5, none⟩ = some (.int .i64 0) := hbm.cell_ rfl
 replace hm0 := zH hm0
 replace hbm := zH hbm
 replace h := zH h
 replace h0 := zH h0
 replace hl := zH hl
 replace hl0 := zH hl0
 replace hLd := zH hLd
 go_enter Tryz.func222, Tryz.ntmps222
 go_upto_region 1 with fail
 rw [← hw0]
 replace hw0 := zH hw0
 go_quiet (fail)
 go_upto_region 2 with fail
 go_quiet (fail)
 go_wp2_with fail
 go_ret
 refine ⟨rfl, hm0.out.trans ?_⟩
 first | exact (Mod.refl none_ w0).drewN _ | exact ((Mod.refl none_ w0).drewN _).drewN _
def SettleMPost (w : World) (col : Col) (k : Nat) (b : RpB) (X : RpS) (D : SV) (e : Ending) (w' : World) : Prop :=
 ∃ A c g X' col', e = .returned (.tuple #[.slice A 2 c, .int .i64 0]) ∧ OwM w' A 2 c [ms1 1 0 5 0 D, ms1 1 2 5 0 D] ∧ RpM w' col' k b 1 3 X' ∧ Stood X X' D ∧ X'.Tl = [(i1, .map (some g))] ∧ MapN w' g [] ∧ col' g = (50 + k, 20) ∧ Ext w col col' ∧ Mod (owns col k) w w'
theorem preOK2_ok (w : World) (col : Col) (k : Nat) (b : RpB) (X : RpS) (h : RpM w col k b 1 3 X) (D0 Ds Dm : SV) (frm : Int) (h0 : D0.n = 0) (p hm : Nat) (hl : LdB w p hm e1 L0 D0) (hLd : X.Ld = [(i1, .pointer (some ⟨p, 0, none⟩))]) (H : List IntV) (hH : MapN w hm H) (hHl : (putN frm (.slice Dm.a Dm.n Dm.c) H).length = 2) (hHs : ∀ v ∈ H, ∃ A c, v.2 = .slice A 0 c) (hHm : H.length + 1 < maxLen) (hfr : inN frm) (hDm : Dm.n = 0) (hch : col hm = (50 + k, 19)) :
  Calls Tryz.prog 187 #[.pointer (some ⟨b.q, 0, none⟩), .agg #[.int .i64 frm, .int .i64 1, .int .i64 2, .int .i64 i1.r, .int .i64 i1.n, .int .i64 0, .int .i64 1, .int .i64 0, .int .i64 e1.o.c, .int .i64 e1.o.s, .int .i64 e1.o.k, .string (txt e1.o.acct), .string (txt e1.o.peer), .int .i64 e1.o.sum, .slice L0.a L0.n L0.c, .int .i64 e1.o.per, .int .i64 e1.o.hold, .string (txt e1.o.note), .bool e1.none, .slice Dm.a Dm.n Dm.c]] w (fun e w' => e = .returned (.tuple #[.slice none 0 0, .int .i64 0]) ∧ MapN w' hm (putN frm (.slice Dm.a Dm.n Dm.c) H) ∧ Mod (· = hm) w w') := by
 have hlp := hl.blk.lt
 have hlq := h.q.lt
 have hlh := hH.lt
 obtain ⟨w0, hw0⟩ : ∃ w0, w0 = (w.alloc (.cells #[.int .i64 frm, .int .i64 1, .int .i64 2, .int .i64 i1.r, .int .i64 i1.n, .int .i64 0, .int .i64 1, .int .i64 0, .int .i64 e1.o.c, .int .i64 e1.o.s, .int .i64 e1.o.k, .string (txt e1.o.acct), .string (txt e1.o.peer), .int .i64 e1.o.sum, .slice L0.a L0.n L0.c, .int .i64 e1.o.per, .int .i64 e1.o.hold, .string (txt e1.o.note), .bool e1.none, .slice Dm.a Dm.n Dm.c] 66)) := ⟨_, rfl⟩
 have hm0 : Mod none_ w w0 := by rw [hw0]; exact (Mod.refl none_ w).alloc _
 have hbm : Blk w0 w.heap.size 66 #[.int .i64 frm, .int .i64 1, .int .i64 2, .int .i64 i1.r, .int .i64 i1.n, .int .i64 0, .int .i64 1, .int .i64 0, .int .i64 e1.o.c, .int .i64 e1.o.s, .int .i64 e1.o.k, .string (txt e1.o.acct), .string (txt e1.o.peer), .int .i64 e1.o.sum, .slice L0.a L0.n L0.c, .int .i64 e1.o.per, .int .i64 e1.o.hold, .string (txt e1.o.note), .bool e1.none, .slice Dm.a Dm.n Dm.c] := by rw [hw0]; exact Blk.new w _ _
 have kL := zH (led_ok w0 col k b 1 3 X (h.mod0 hm0) p hm D0 ⟨hl.blk.mod hm0 (fun h => h)⟩ hLd frm Dm)
 have lm0 := hbm.lt
 have hl0 := zH (hl.blk.mod hm0 (fun h => h))
 have hH0 := zH (hH.mod hm0 (fun h => h))
 have hpm : Hid (p ≠ hm) := zH (fun e => absurd (hl.blk) (by intro hb; obtain ⟨n9, D9, _, ho9, _⟩ := hH; obtain ⟨es, ck, h9, _⟩ := ho9; unfold Blk at hb; rw [e, h9] at hb; cases hb))
 replace hm0 := zH hm0
 replace hbm := zH hbm
 replace h := zH h
 replace hl := zH hl
 replace hLd := zH hLd
 replace hH := zH hH
 replace hHl := zH hHl
 replace hHs := zH hHs
 replace hch := zH hch
 replace h0 := zH h0
 replace hDm := zH hDm
 go_enter Tryz.func187, Tryz.ntmps187
 go_upto_region 1 with fail
 rw [← hw0]
 replace hw0 := zH hw0
 go_wp2_with (refine wpList_load_blk rfl 66 (.tmp 3) rfl w.heap.size 0 rfl hbm.out [.int .i64 frm, .int .i64 1, .int .i64 2, .int .i64 i1.r, .int .i64 i1.n, .int .i64 0, .int .i64 1, .int .i64 0, .int .i64 e1.o.c, .int .i64 e1.o.s, .int .i64 e1.o.k, .string (txt e1.o.acct), .string (txt e1.o.peer), .int .i64 e1.o.sum, .slice L0.a L0.n L0.c, .int .i64 e1.o.per, .int .i64 e1.o.hold, .string (txt e1.o.note), .bool e1.none, .slice Dm.a Dm.n Dm.c] rfl Tryz.underlying66 rfl msg_size ?_)
 refine kL.out.mono ?_
 rintro e w1 ⟨rfl, hm1⟩
 dsimp only
 have hM1 := zH (hm0.out.trans hm1)
 have hl1 := hl0.out.mod hm1 (fun h => h)
 have hbm1 := hbm.out.mod hm1 (fun h => h)
 have hH1 := hH0.out.mod hm1 (fun h => h)
 obtain ⟨w2, hrun, hH2, hm2, hs2⟩ := MapN.store_run (w := w1.drew) (hH1.mod (Mod.refl none_ w1).drew (fun h => h)) (t := 92) Tryz.underlying92 hHm (i := frm) hfr (.slice Dm.a Dm.n Dm.c)
 unfold inV at hrun
 have hm12 : Mod (· = hm) w1 w2 := (Mod.refl (· = hm) w1).drew.trans hm2
 have hl2 := zH (hl1.mod hm12 hpm.out)
 have hbm2 := zH (hbm1.mod hm12 (fun e => by have e2 : w.heap.size = hm := e; omega))
 have hM2 := zH ((hM1.out.any (· = hm)).trans hm12)
 have hr2 := zH ((h.out.mod0 hM1.out).far hm12 (by
  rintro j hj hh c _ e
  have e2 : j = hm := hh
  rw [e2, hch.out] at e
  simp at e))
 have p14 : w1.cell? ⟨p, 14, none⟩ = some (.map (some hm)) := hl1.cell_ rfl
 have lp1 := hl1.lt
 have lm1 := hbm1.lt
 have m0 : w1.cell? ⟨w.heap.size, 0, none⟩ = some (.int .i64 frm) := hbm1.cell_ rfl
 have m19 : w1.cell? ⟨w.heap.size, 19, none⟩ = some (.slice Dm.a Dm.n Dm.c) := hbm1.cell_ rfl
 clear hm1 kL hm2 hm12 hs2
 replace hl1 := zH hl1
 replace hbm1 := zH hbm1
 replace hH1 := zH hH1
 replace hH2 := zH hH2
 go_upto_region 4 with fail
 refine wp_region_still_tail 9 (by kernel_rfl) (by kernel_rfl) ?_
 simp only [List.take_succ_cons, List.take_zero, List.drop_succ_cons, List.drop_zero]
 change wpStill _ _ (World.drew _) _ _ _
 repeat still_step
 refine wpStill_nil ?_
 change wpList _ _ _ _ _ (World.drew _)
 have hHs2 : ∀ v ∈ putN frm (.slice Dm.a Dm.n Dm.c) H, ∃ A c, v.2 = .slice A 0 c := by
  intro v hv
  rcases List.mem_cons.1 hv with rfl | hv
  ·exact ⟨_, _, by rw [hDm.out]⟩
  ·exact hHs.out v (List.mem_filter.1 hv).1
 have kH := zH (hear2_ok w2 col k b X hr2.out D0 Ds h0.out p hm ⟨hl2.out⟩ _ hH2.out hHl.out hHs2)
 go_upto_region 5 with fail
 go_wp2_with (refine wpList_load_blk rfl 27 (.tmp 22) rfl w.heap.size 3 rfl hbm2.out [.int .i64 i1.r, .int .i64 i1.n] rfl Tryz.underlying27 rfl inst_size ?_)
 refine kH.out.mono ?_
 rintro e w3 ⟨rfl, hm3⟩
 dsimp only
 have hend := zH (hM2.out.trans (hm3.any _))
 have hH3 := zH (hH2.out.mod hm3 (fun h => h))
 clear hm3
 go_wp2_with fail
 go_ret2
 exact ⟨rfl, hH3.out, hend.out⟩
theorem preOK3_ok (w : World) (col : Col) (k : Nat) (b : RpB) (X : RpS) (h : RpM w col k b 1 3 X) (D0 Ds Dm : SV) (frm : Int) (h0 : D0.n = 0) (p hm : Nat) (hl : LdB w p hm e1 L0 D0) (hLd : X.Ld = [(i1, .pointer (some ⟨p, 0, none⟩))]) (H : List IntV) (hH : MapN w hm H) (hHl : (putN frm (.slice Dm.a Dm.n Dm.c) H).length = 3) (hHs : ∀ v ∈ H, ∃ A c, v.2 = .slice A 0 c) (hHm : H.length + 1 < maxLen) (hfr : inN frm) (hDm : Dm.n = 0) (hX : Heard X Ds) (hDs : Ds.n = 0) (htl : X.Tl = []) (hk9 : k ≠ 99) (hcn : ∀ j, w.heap.size ≤ j → col j = (99, 0)) (hcp : col p = (50 + k, 18)) (hch : col hm = (50 + k, 19)) :
  Calls Tryz.prog 187 #[.pointer (some ⟨b.q, 0, none⟩), .agg #[.int .i64 frm, .int .i64 1, .int .i64 2, .int .i64 i1.r, .int .i64 i1.n, .int .i64 0, .int .i64 1, .int .i64 0, .int .i64 e1.o.c, .int .i64 e1.o.s, .int .i64 e1.o.k, .string (txt e1.o.acct), .string (txt e1.o.peer), .int .i64 e1.o.sum, .slice L0.a L0.n L0.c, .int .i64 e1.o.per, .int .i64 e1.o.hold, .string (txt e1.o.note), .bool e1.none, .slice Dm.a Dm.n Dm.c]] w (SettleMPost w col k b X D0) := by
 have hlp := hl.blk.lt
 have hlq := h.q.lt
 have hlh := hH.lt
 obtain ⟨w0, hw0⟩ : ∃ w0, w0 = (w.alloc (.cells #[.int .i64 frm, .int .i64 1, .int .i64 2, .int .i64 i1.r, .int .i64 i1.n, .int .i64 0, .int .i64 1, .int .i64 0, .int .i64 e1.o.c, .int .i64 e1.o.s, .int .i64 e1.o.k, .string (txt e1.o.acct), .string (txt e1.o.peer), .int .i64 e1.o.sum, .slice L0.a L0.n L0.c, .int .i64 e1.o.per, .int .i64 e1.o.hold, .string (txt e1.o.note), .bool e1.none, .slice Dm.a Dm.n Dm.c] 66)) := ⟨_, rfl⟩
 have hm0 : Mod none_ w w0 := by rw [hw0]; exact (Mod.refl none_ w).alloc _
 have hbm : Blk w0 w.heap.size 66 #[.int .i64 frm, .int .i64 1, .int .i64 2, .int .i64 i1.r, .int .i64 i1.n, .int .i64 0, .int .i64 1, .int .i64 0, .int .i64 e1.o.c, .int .i64 e1.o.s, .int .i64 e1.o.k, .string (txt e1.o.acct), .string (txt e1.o.peer), .int .i64 e1.o.sum, .slice L0.a L0.n L0.c, .int .i64 e1.o.per, .int .i64 e1.o.hold, .string (txt e1.o.note), .bool e1.none, .slice Dm.a Dm.n Dm.c] := by rw [hw0]; exact Blk.new w _ _
 have kL := zH (led_ok w0 col k b 1 3 X (h.mod0 hm0) p hm D0 ⟨hl.blk.mod hm0 (fun h => h)⟩ hLd frm Dm)
 have lm0 := hbm.lt
 have hl0 := zH (hl.blk.mod hm0 (fun h => h))
 have hH0 := zH (hH.mod hm0 (fun h => h))
 have hpm : Hid (p ≠ hm) := zH (fun e => by rw [e, hch] at hcp; simp at hcp)
 replace hm0 := zH hm0
 replace hbm := zH hbm
 replace h := zH h
 replace hl := zH hl
 replace hLd := zH hLd
 replace hH := zH hH
 replace hHl := zH hHl
 replace hHs := zH hHs
 replace hch := zH hch
 replace h0 := zH h0
 replace hDm := zH hDm
 replace hX := zH hX
 replace hDs := zH hDs
 replace htl := zH htl
 replace hcn := zH hcn
 replace hcp := zH hcp
 go_enter Tryz.func187, Tryz.ntmps187
 go_upto_region 1 with fail
 rw [← hw0]
 replace hw0 := zH hw0
 go_wp2_with (refine wpList_load_blk rfl 66 (.tmp 3) rfl w.heap.size 0 rfl hbm.out [.int .i64 frm, .int .i64 1, .int .i64 2, .int .i64 i1.r, .int .i64 i1.n, .int .i64 0, .int .i64 1, .int .i64 0, .int .i64 e1.o.c, .int .i64 e1.o.s, .int .i64 e1.o.k, .string (txt e1.o.acct), .string (txt e1.o.peer), .int .i64 e1.o.sum, .slice L0.a L0.n L0.c, .int .i64 e1.o.per, .int .i64 e1.o.hold, .string (txt e1.o.note), .bool e1.none, .slice Dm.a Dm.n Dm.c] rfl Tryz.underlying66 rfl msg_size ?_)
 refine kL.out.mono ?_
 rintro e w1 ⟨rfl, hm1⟩
 dsimp only
 have hM1 := zH (hm0.out.trans hm1)
 have hl1 := hl0.out.mod hm1 (fun h => h)
 have hbm1 := hbm.out.mod hm1 (fun h => h)
 have hH1 := hH0.out.mod hm1 (fun h => h)
 obtain ⟨w2, hrun, hH2, hm2, hs2⟩ := MapN.store_run (w := w1.drew) (hH1.mod (Mod.refl none_ w1).drew (fun h => h)) (t := 92) Tryz.underlying92 hHm (i := frm) hfr (.slice Dm.a Dm.n Dm.c)
 unfold inV at hrun
 have hm12 : Mod (· = hm) w1 w2 := (Mod.refl (· = hm) w1).drew.trans hm2
 have hl2 := zH (hl1.mod hm12 hpm.out)
 have hbm2 := zH (hbm1.mod hm12 (fun e => by have e2 : w.heap.size = hm := e; omega))
 have hM2 := zH ((hM1.out.any (· = hm)).trans hm12)
 have hr2 := zH ((h.out.mod0 hM1.out).far hm12 (by
  rintro j hj hh c _ e
  have e2 : j = hm := hh
  rw [e2, hch.out] at e
  simp at e))
 have p14 : w1.cell? ⟨p, 14, none⟩ = some (.map (some hm)) := hl1.cell_ rfl
 have lp1 := hl1.lt
 have lm1 := hbm1.lt
 have m0 : w1.cell? ⟨w.heap.size, 0, none⟩ = some (.int .i64 frm) := hbm1.cell_ rfl
 have m19 : w1.cell? ⟨w.heap.size, 19, none⟩ = some (.slice Dm.a Dm.n Dm.c) := hbm1.cell_ rfl
 clear hm1 kL hm2 hm12 hs2
 replace hl1 := zH hl1
 replace hbm1 := zH hbm1
 replace hH1 := zH hH1
 replace hH2 := zH hH2
 go_upto_region 4 with fail
 refine wp_region_still_tail 9 (by kernel_rfl) (by kernel_rfl) ?_
 simp only [List.take_succ_cons, List.take_zero, List.drop_succ_cons, List.drop_zero]
 change wpStill _ _ (World.drew _) _ _ _
 repeat still_step
 refine wpStill_nil ?_
 change wpList _ _ _ _ _ (World.drew _)
 have hHs2 : ∀ v ∈ putN frm (.slice Dm.a Dm.n Dm.c) H, ∃ A c, v.2 = .slice A 0 c := by
  intro v hv
  rcases List.mem_cons.1 hv with rfl | hv
  ·exact ⟨_, _, by rw [hDm.out]⟩
  ·exact hHs.out v (List.mem_filter.1 hv).1
 have kH := zH (hear3_ok w2 col k b X hr2.out D0 Ds h0.out p hm ⟨hl2.out⟩ _ hH2.out hHl.out hHs2 hX.out hDs.out htl.out hk9 (fun j hj => hcn.out j (Nat.le_trans hM2.out.size hj)) hcp.out)
 go_upto_region 5 with fail
 go_wp2_with (refine wpList_load_blk rfl 27 (.tmp 22) rfl w.heap.size 3 rfl hbm2.out [.int .i64 i1.r, .int .i64 i1.n] rfl Tryz.underlying27 rfl inst_size ?_)
 refine kH.out.mono ?_
 rintro e w3 ⟨A3, c3, g, X', col3, rfl, ho3, hr3, hst3, htl3, hmd3, hcg3, hx3, hm3⟩
 dsimp only
 have hMz := zH ((hM2.out.mono (fun j hj => show owns col k j from .inr (by have e2 : j = hm := hj; rw [e2, hch.out]))).trans (hm3.mono (fun j hj => own_owns hj)))
 have hXz := zH (show Ext w col col3 from fun j hj => hx3 j (Nat.lt_of_lt_of_le hj hM2.out.size))
 clear hm3 hx3
 replace ho3 := zH ho3
 replace hr3 := zH hr3
 replace hst3 := zH hst3
 replace htl3 := zH htl3
 replace hmd3 := zH hmd3
 replace hcg3 := zH hcg3
 go_wp2_with fail
 go_ret2
 exact ⟨A3, c3, g, X', col3, rfl, ho3.out, hr3.out, hst3.out, htl3.out, hmd3.out, hcg3.out, hXz.out, hMz.out⟩
end Go.Proofs.YtfkfiokkjjnhiaaGreat
