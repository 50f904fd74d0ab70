import Derived.Test.YtfkfiokkjjnhiaaGreatUp24
set_option linter.unusedVariables false
set_option linter.unusedSimpArgs false
set_option maxHeartbeats 16000000
namespace Go.Proofs.YtfkfiokkjjnhiaaGreat
open Go.RowKit
def doersL : List IntV := putN 7 (.func (.func 237) #[] #[]) (putN 6 (.func (.func 236) #[] #[]) (putN 5 (.func (.func 235) #[] #[]) (putN 4 (.func (.func 234) #[] #[]) (putN 3 (.func (.func 233) #[] #[]) (putN 2 (.func (.func 232) #[] #[]) (putN 1 (.func (.func 231) #[] #[]) []))))))
def DoersPost (w : World) (e : Ending) (w' : World) : Prop := ∃ b, e = .returned (.map (some b)) ∧ MapN w' b doersL ∧ Mod none_ w w'
set_option maxRecDepth 100000
theorem doers_ok (w : World) : Calls Tryz.prog 210 #[] w (DoersPost w) := by
 have hmk := fun W => run_makeMap (P := Tryz.prog) 283 W
 have hmd := zH (MapN.made w)
 have hm0 := zH ((Mod.refl none_ w).alloc (.map #[] 0))
 go_enter Tryz.func210, Tryz.ntmps210
 go_wp2_with (show wpList _ _ _ (⟨none, _, _, _, _, _⟩ :: _) _ _; go_loud (refine mapN_insert _ rfl (.tmp 1) _ _ 283 rfl Tryz.underlying283 w.heap.size _ rfl hmd.out (by simp [putN, maxLen]) _ (by decide) rfl _ rfl ?_; intro w2 hD2 hm2 hs2; replace hm0 := zH (hm0.out.then hm2 (fun i hi e => by have e2 : i = w.heap.size := e; omega)); replace hmd := zH hD2; clear hD2 hm2 hs2))
 go_ret
 exact ⟨_, rfl, hmd.out, hm0.out⟩
def rep6 : Value := .agg #[.int .i64 6, .int .i64 0, .int .i64 0, .int .i64 0]
set_option maxRecDepth 512
theorem reply_size : (Tryz.prog.info? 156).map (·.size) = some 4 := by kernel_rfl
set_option maxRecDepth 100000
theorem tells_ok (w : World) (b : RnB) (C : List Ac) (cl : Int) (hb : BkM w b C cl) (o : Od) (L : SV) (hg : getV C o.acct = (zeroA, 6)) (hsz : (txt o.acct).size ≤ maxLen) :
  Calls Tryz.prog 265 #[.pointer (some ⟨b.bk, 0, none⟩), .agg #[.int .i64 o.c, .int .i64 o.s, .int .i64 o.k, .string (txt o.acct), .string (txt o.peer), .int .i64 o.sum, .slice L.a L.n L.c, .int .i64 o.per, .int .i64 o.hold, .string (txt o.note)], .int .i64 0] w fun e w' => e = .returned rep6 ∧ Mod none_ w w' := by
 have hbk := hb.bk
 have hlb := hbk.lt
 obtain ⟨w0, hw0⟩ : ∃ w0, w0 = ((w.alloc (.cells #[.int .i64 o.c, .int .i64 o.s, .int .i64 o.k, .string (txt o.acct), .string (txt o.peer), .int .i64 o.sum, .slice L.a L.n L.c, .int .i64 o.per, .int .i64 o.hold, .string (txt o.note)] 40)).alloc (.cells #[.int .i64 0, .int .i64 0, .int .i64 0, .int .i64 0] 156)) := ⟨_, rfl⟩
 have hs0 : w0.heap.size = w.heap.size + 2 := by rw [hw0]; simp
 have hm0 : Mod none_ w w0 := by rw [hw0]; exact ((Mod.refl none_ w).alloc _).alloc _
 have hbo : Blk w0 w.heap.size 40 #[.int .i64 o.c, .int .i64 o.s, .int .i64 o.k, .string (txt o.acct), .string (txt o.peer), .int .i64 o.sum, .slice L.a L.n L.c, .int .i64 o.per, .int .i64 o.hold, .string (txt o.note)] := by rw [hw0]; exact (Blk.new w _ _).alloc _
 have hbr : Blk w0 (w.heap.size + 1) 156 #[.int .i64 0, .int .i64 0, .int .i64 0, .int .i64 0] := by
  have := Blk.new (w.alloc (.cells #[.int .i64 o.c, .int .i64 o.s, .int .i64 o.k, .string (txt o.acct), .string (txt o.peer), .int .i64 o.sum, .slice L.a L.n L.c, .int .i64 o.per, .int .i64 o.hold, .string (txt o.note)] 40)) 156 #[.int .i64 0, .int .i64 0, .int .i64 0, .int .i64 0]
  rw [hw0]; simpa using this
 have hbk0 := zH (hbk.mod hm0 (fun h => h))
 have hch0 := zH (hb.ch.mod0 hm0)
 have kG := zH (fun W (hW : Mod none_ w0 W) => show Calls Tryz.prog 285 #[.pointer (some ⟨b.ch, 0, none⟩), .string (txt o.acct)] W (ChGetPost (zeroA, 6) W) from by
  rw [← hg]; exact chGet_ok W b.ch b.cm C (txt o.acct) (hch0.out.mod0 hW) hsz)
 clear hb hbk
 replace hm0 := zH hm0
 replace hbo := zH hbo
 replace hbr := zH hbr
 replace hg := zH hg
 go_enter Tryz.func265, Tryz.ntmps265
 go_upto_region 3 with fail
 rw [← hw0]
 replace hw0 := zH hw0
 go_cut [2, 7] from 12 to 21 (fun s2 s7 wx => ∃ p : Nat, s2 = .int .i64 6 ∧ s7 = .pointer (some ⟨p, 0, none⟩) ∧ Mod none_ w0 wx)
 case first =>
  have hzA := zH (fun W => Blk.new W 355 #[.string ⟨#[]⟩, .int .i64 0, .int .i64 0, .int .i64 0])
  refine wp_region_held_drew (S := fun W => Mod none_ w0 W) (by kernel_rfl) (Mod.refl none_ w0).drew (fun hHeld => ?_)
  refine tkZ 0 ?_ rfl ?_ ?_
  rotate_left
  ·intro W hSw; (try dsimp only at hSw); go_simp; (try with_reducible rfl)
  try simp only [Act.put, q1Z, q2Z, q3Z, q4Z, q5Z, q6Z]
  refine tkZ 1 ?_ rfl ?_ ?_
  rotate_left
  ·intro W hSw; (try dsimp only at hSw); go_simp; (try with_reducible rfl)
  try simp only [Act.put, q1Z, q2Z, q3Z, q4Z, q5Z, q6Z]
  refine tkZ 2 ?_ rfl ?_ ?_
  rotate_left
  ·intro W hSw; (try dsimp only at hSw); go_simp; (try with_reducible rfl)
  try simp only [Act.put, q1Z, q2Z, q3Z, q4Z, q5Z, q6Z]
  refine tkZ 3 ?_ rfl ?_ ?_
  rotate_left
  ·intro W hSw; have c3 := (hbk0.out.mod hSw (fun h => h)).cell_ (i := 0) rfl; go_simp; (try with_reducible rfl)
  try simp only [Act.put, q1Z, q2Z, q3Z, q4Z, q5Z, q6Z]
  refine tkZ 4 ?_ rfl ?_ ?_
  rotate_left
  ·intro W hSw; (try dsimp only at hSw); go_simp; (try with_reducible rfl)
  try simp only [Act.put, q1Z, q2Z, q3Z, q4Z, q5Z, q6Z]
  refine tkZ 5 ?_ rfl ?_ ?_
  rotate_left
  ·intro W hSw; have c3 := (hbo.out.mod hSw (fun h => h)).cell_ (i := 3) rfl; go_simp; (try with_reducible rfl)
  try simp only [Act.put, q1Z, q2Z, q3Z, q4Z, q5Z, q6Z]
  refine wpAnyH_ready (rs := [6, 10]) (by kernel_rfl) (by simp) ?_
  refine AllReadyH.cons rfl (fun K hK => ?_) (AllReadyH.cons rfl (fun K hK => ?_) AllReadyH.nil)
  focus
   go_simp
   refine (kG.out _ (Mod.refl none_ w0).drew).mono ?_
   rintro e w1 ⟨rfl, hm1⟩
   dsimp only [zeroA]
   have hM1 := (Mod.refl none_ w0).drew.trans hm1
   refine hK.out _ _ (hM1) (fun hHeld => ?_)
   clear hK K
   try simp only [Act.put, q1Z, q2Z, q3Z, q4Z, q5Z, q6Z]
   refine tkZ 7 ?_ rfl ?_ ?_
   rotate_left
   ·intro W hSw; (try dsimp only at hSw); go_simp; (try with_reducible rfl)
   try simp only [Act.put, q1Z, q2Z, q3Z, q4Z, q5Z, q6Z]
   refine tkZ 8 ?_ rfl ?_ ?_
   rotate_left
   ·intro W hSw; (try dsimp only at hSw); go_simp; (try with_reducible rfl)
   try simp only [Act.put, q1Z, q2Z, q3Z, q4Z, q5Z, q6Z]
   refine tkZ 9 ?_ rfl ?_ ?_
   rotate_left
   ·intro W hSw; (try dsimp only at hSw); go_simp; (try with_reducible rfl)
   try simp only [Act.put, q1Z, q2Z, q3Z, q4Z, q5Z, q6Z]
   refine rdZ 10 rfl (fun K hK => ?_)
   go_simp
   refine hK.out _ _ ((hM1.alloc _)) (fun hHeld => ?_)
   clear hK K
   try simp only [Act.put, q1Z, q2Z, q3Z, q4Z, q5Z, q6Z]
   refine rdZ 11 rfl (fun K hK => ?_)
   refine step_store_blk rfl 355 (.tmp 7) (.tmp 20) rfl w1.heap.size 0 _ rfl rfl (hzA.out w1) (by simp) acct_size (by rfl) #[.string ⟨#[]⟩, .int .i64 0, .int .i64 0, .int .i64 0] rfl ?_
   intro w2 hb2 hm2
   have hM2 := (hM1.alloc (.cells #[.string ⟨#[]⟩, .int .i64 0, .int .i64 0, .int .i64 0] 355)).in_new (g := w1.heap.size) hM1.size hm2
   refine hK.out _ _ (hM2) (fun hHeld => ?_)
   clear hK K
   try simp only [Act.put, q1Z, q2Z, q3Z, q4Z, q5Z, q6Z]
   refine rdZ 12 rfl (fun K hK => ?_)
   go_simp
   refine hK.out _ _ (hM2) (fun hHeld => ?_)
   clear hK K
   try simp only [Act.put, q1Z, q2Z, q3Z, q4Z, q5Z, q6Z]
   refine wpAnyH_done (by kernel_rfl) ?_ _
   clear hHeld hm1 hm2 hb2 hM1
   have hend := zH hM2
   clear hM2
   go_wp2_with fail
   all_goals go_meet
   exact ⟨_, rfl, rfl, hend.out⟩
  focus
   go_simp
   have hMa := (Mod.refl none_ w0).drew.alloc (.cells #[.string ⟨#[]⟩, .int .i64 0, .int .i64 0, .int .i64 0] 355)
   refine hK.out _ _ (hMa) (fun hHeld => ?_)
   clear hK K
   try simp only [Act.put, q1Z, q2Z, q3Z, q4Z, q5Z, q6Z]
   refine rdZ 6 rfl (fun K hK => ?_)
   go_simp
   refine (kG.out _ hMa).mono ?_
   rintro e w1 ⟨rfl, hm1⟩
   dsimp only [zeroA]
   have hM1 := hMa.trans hm1
   refine hK.out _ _ (hM1) (fun hHeld => ?_)
   clear hK K
   try simp only [Act.put, q1Z, q2Z, q3Z, q4Z, q5Z, q6Z]
   refine tkZ 7 ?_ rfl ?_ ?_
   rotate_left
   ·intro W hSw; (try dsimp only at hSw); go_simp; (try with_reducible rfl)
   try simp only [Act.put, q1Z, q2Z, q3Z, q4Z, q5Z, q6Z]
   refine tkZ 8 ?_ rfl ?_ ?_
   rotate_left
   ·intro W hSw; (try dsimp only at hSw); go_simp; (try with_reducible rfl)
   try simp only [Act.put, q1Z, q2Z, q3Z, q4Z, q5Z, q6Z]
   refine tkZ 9 ?_ rfl ?_ ?_
   rotate_left
   ·intro W hSw; (try dsimp only at hSw); go_simp; (try with_reducible rfl)
   try simp only [Act.put, q1Z, q2Z, q3Z, q4Z, q5Z, q6Z]
   refine rdZ 11 rfl (fun K hK => ?_)
   have hz1 := (hzA.out w0.drew).mod hm1 (fun h => h)
   rw [show w0.drew.heap.size = w.heap.size + 2 from hs0] at hz1
   refine step_store_blk rfl 355 (.tmp 7) (.tmp 20) rfl (w.heap.size + 2) 0 _ rfl rfl hz1 (by simp) acct_size (by rfl) #[.string ⟨#[]⟩, .int .i64 0, .int .i64 0, .int .i64 0] rfl ?_
   intro w2 hb2 hm2
   have hM2 := hM1.in_new (g := w.heap.size + 2) (by omega) hm2
   refine hK.out _ _ (hM2) (fun hHeld => ?_)
   clear hK K
   try simp only [Act.put, q1Z, q2Z, q3Z, q4Z, q5Z, q6Z]
   refine rdZ 12 rfl (fun K hK => ?_)
   go_simp
   refine hK.out _ _ (hM2) (fun hHeld => ?_)
   clear hK K
   try simp only [Act.put, q1Z, q2Z, q3Z, q4Z, q5Z, q6Z]
   refine wpAnyH_done (by kernel_rfl) ?_ _
   clear hHeld hm1 hm2 hb2 hM1 hMa hz1
   have hend := zH hM2
   clear hM2
   go_wp2_with fail
   all_goals go_meet
   exact ⟨_, rfl, rfl, hend.out⟩
 case rest =>
  obtain ⟨p, rfl, rfl, hmx⟩ := hcut
  have hbr2 := zH (hbr.out.mod hmx (fun h => h))
  have hM := zH (hm0.out.trans hmx)
  replace hmx := zH hmx
  go_wp2_with (refine wpList_store_blk rfl 156 (.tmp 6) (.tmp 25) rfl (w.heap.size + 1) 0 _ rfl rfl hbr2.out (by simp) reply_size (by rfl) #[.int .i64 6, .int .i64 0, .int .i64 0, .int .i64 0] rfl ?_; intro w3 hb3 hm3)
  have hend := zH (hM.out.in_new (g := w.heap.size + 1) (by omega) hm3)
  exact ret_row rfl (w.heap.size + 1) rfl hb3 Tryz.underlying156 rfl reply_size rfl ⟨rfl, hend.out⟩
theorem ask_ok (w : World) (b : RnB) (C : List Ac) (cl : Int) (hb : BkM w b C cl) (o : Od) (L : SV) (hg : getV C o.acct = (zeroA, 6)) (hsz : (txt o.acct).size ≤ maxLen) :
  Calls Tryz.prog 237 #[.pointer (some ⟨b.bk, 0, none⟩), .agg #[.int .i64 o.c, .int .i64 o.s, .int .i64 o.k, .string (txt o.acct), .string (txt o.peer), .int .i64 o.sum, .slice L.a L.n L.c, .int .i64 o.per, .int .i64 o.hold, .string (txt o.note)]] w fun e w' => e = .returned rep6 ∧ Mod none_ w w' := by
 obtain ⟨w0, hw0⟩ : ∃ w0, w0 = ((w.alloc (.cells #[.int .i64 o.c, .int .i64 o.s, .int .i64 o.k, .string (txt o.acct), .string (txt o.peer), .int .i64 o.sum, .slice L.a L.n L.c, .int .i64 o.per, .int .i64 o.hold, .string (txt o.note)] 40)).alloc (.cells #[.int .i64 0, .int .i64 0, .int .i64 0, .int .i64 0] 156)) := ⟨_, rfl⟩
 have hs0 : w0.heap.size = w.heap.size + 2 := by rw [hw0]; simp
 have hm0 : Mod none_ w w0 := by rw [hw0]; exact ((Mod.refl none_ w).alloc _).alloc _
 have hbo : Blk w0 w.heap.size 40 #[.int .i64 o.c, .int .i64 o.s, .int .i64 o.k, .string (txt o.acct), .string (txt o.peer), .int .i64 o.sum, .slice L.a L.n L.c, .int .i64 o.per, .int .i64 o.hold, .string (txt o.note)] := by rw [hw0]; exact (Blk.new w _ _).alloc _
 have hbr : Blk w0 (w.heap.size + 1) 156 #[.int .i64 0, .int .i64 0, .int .i64 0, .int .i64 0] := by
  have := Blk.new (w.alloc (.cells #[.int .i64 o.c, .int .i64 o.s, .int .i64 o.k, .string (txt o.acct), .string (txt o.peer), .int .i64 o.sum, .slice L.a L.n L.c, .int .i64 o.per, .int .i64 o.hold, .string (txt o.note)] 40)) 156 #[.int .i64 0, .int .i64 0, .int .i64 0, .int .i64 0]
  rw [hw0]; simpa using this
 have kT := zH (tells_ok w0 b C cl (hb.mod hm0 (fun h => h) (fun h => h) (fun h => h) (fun h => h) (fun h => h)) o L hg hsz)
 clear hb
 replace hm0 := zH hm0
 replace hbo := zH hbo
 replace hbr := zH hbr
 replace hg := zH hg
 go_enter Tryz.func237, Tryz.ntmps237
 go_upto_region 1 with fail
 rw [← hw0]
 replace hw0 := zH hw0
 go_wp2_with (refine wpList_load_blk rfl 40 (.tmp 3) rfl w.heap.size 0 rfl hbo.out [.int .i64 o.c, .int .i64 o.s, .int .i64 o.k, .string (txt o.acct), .string (txt o.peer), .int .i64 o.sum, .slice L.a L.n L.c, .int .i64 o.per, .int .i64 o.hold, .string (txt o.note)] rfl Tryz.underlying40 rfl order_size ?_)
 refine kT.out.mono ?_
 rintro e w1 ⟨rfl, hm1⟩
 dsimp only [rep6]
 have hbr2 := zH (hbr.out.mod hm1 (fun h => h))
 have hM := zH (hm0.out.trans hm1)
 replace hm1 := zH hm1
 go_wp2_with (refine wpList_store_blk rfl 156 (.tmp 4) (.tmp 7) rfl (w.heap.size + 1) 0 _ rfl rfl hbr2.out (by simp) reply_size (by rfl) #[.int .i64 6, .int .i64 0, .int .i64 0, .int .i64 0] rfl ?_; intro w3 hb3 hm3)
 have hend := zH (hM.out.in_new (g := w.heap.size + 1) (by omega) hm3)
 exact ret_row rfl (w.heap.size + 1) rfl hb3 Tryz.underlying156 rfl reply_size rfl ⟨rfl, hend.out⟩
theorem bookDo_ok (w : World) (b : RnB) (C : List Ac) (cl : Int) (hb : BkM w b C cl) (o : Od) (L : SV) (ho : OdM w o L) (hk : o.k = 7) (hr : rightO o = true) (hL : L.n ≤ 140737488355328) (hz : ∀ l ∈ o.legs, (txt l.n).size ≤ maxLen) (hg : getV C o.acct = (zeroA, 6)) (hsz : (txt o.acct).size ≤ maxLen) :
  Calls Tryz.prog 164 #[.pointer (some ⟨b.bk, 0, none⟩), .agg #[.int .i64 o.c, .int .i64 o.s, .int .i64 o.k, .string (txt o.acct), .string (txt o.peer), .int .i64 o.sum, .slice L.a L.n L.c, .int .i64 o.per, .int .i64 o.hold, .string (txt o.note)]] w fun e w' => e = .returned rep6 ∧ Mod none_ w w' := by
 obtain ⟨w0, hw0⟩ : ∃ w0, w0 = ((w.alloc (.cells #[.int .i64 o.c, .int .i64 o.s, .int .i64 o.k, .string (txt o.acct), .string (txt o.peer), .int .i64 o.sum, .slice L.a L.n L.c, .int .i64 o.per, .int .i64 o.hold, .string (txt o.note)] 40)).alloc (.cells #[.int .i64 0, .int .i64 0, .int .i64 0, .int .i64 0] 156)) := ⟨_, rfl⟩
 have hs0 : w0.heap.size = w.heap.size + 2 := by rw [hw0]; simp
 have hm0 : Mod none_ w w0 := by rw [hw0]; exact ((Mod.refl none_ w).alloc _).alloc _
 have hbo : Blk w0 w.heap.size 40 #[.int .i64 o.c, .int .i64 o.s, .int .i64 o.k, .string (txt o.acct), .string (txt o.peer), .int .i64 o.sum, .slice L.a L.n L.c, .int .i64 o.per, .int .i64 o.hold, .string (txt o.note)] := by rw [hw0]; exact (Blk.new w _ _).alloc _
 have hbr : Blk w0 (w.heap.size + 1) 156 #[.int .i64 0, .int .i64 0, .int .i64 0, .int .i64 0] := by
  have := Blk.new (w.alloc (.cells #[.int .i64 o.c, .int .i64 o.s, .int .i64 o.k, .string (txt o.acct), .string (txt o.peer), .int .i64 o.sum, .slice L.a L.n L.c, .int .i64 o.per, .int .i64 o.hold, .string (txt o.note)] 40)) 156 #[.int .i64 0, .int .i64 0, .int .i64 0, .int .i64 0]
  rw [hw0]; simpa using this
 have kR := zH (rightO_ok w0 o L (ho.mod0 hm0) hL (by rw [hk]; decide) hz)
 rw [hr] at kR
 have hb0 : ∀ W, Mod none_ w W → BkM W b C cl := fun W hm => hb.mod hm (fun h => h) (fun h => h) (fun h => h) (fun h => h) (fun h => h)
 have kA := zH (fun W (hm : Mod none_ w W) => ask_ok W b C cl (hb0 W hm) o L hg hsz)
 have hlb := hb.bk.lt
 clear hb hb0
 replace hm0 := zH hm0
 replace hbo := zH hbo
 replace hbr := zH hbr
 replace hg := zH hg
 replace ho := zH ho
 replace hr := zH hr
 replace hk := zH hk
 go_enter Tryz.func164, Tryz.ntmps164
 go_upto_region 1 with fail
 rw [← hw0]
 replace hw0 := zH hw0
 go_wp2_with (refine wpList_step (fun K hK => ?_); rw [if_pos (by rfl)]; refine wp_load_mid 40 (.tmp 3) rfl w.heap.size 0 rfl [.int .i64 o.c, .int .i64 o.s, .int .i64 o.k, .string (txt o.acct), .string (txt o.peer), .int .i64 o.sum, .slice L.a L.n L.c, .int .i64 o.per, .int .i64 o.hold, .string (txt o.note)] _ (Blk.range hbo.out 0 _ rfl) Tryz.underlying40 rfl order_size ?_; refine hK _ _ ?_)
 refine kR.out.mono ?_
 rintro e w1 ⟨rfl, hm1⟩
 dsimp only
 have hbo1 := zH (hbo.out.mod hm1 (fun h => h))
 have hbr1 := zH (hbr.out.mod hm1 (fun h => h))
 have hM1 := zH (hm0.out.trans hm1)
 clear kR
 replace hm1 := zH hm1
 go_upto_region 3 with fail
 refine wp_region_held_drew (S := fun W => Mod (only (w.heap.size + 1)) w1 W) (by kernel_rfl) (Mod.refl (only (w.heap.size + 1)) w1).drew (fun hHeld => ?_)
 refine tkZ 1 ?_ rfl ?_ ?_
 rotate_left
 ·intro W hSw; (try dsimp only at hSw); go_simp; (try with_reducible rfl)
 try simp only [Act.put, q1Z, q2Z, q3Z, q4Z, q5Z, q6Z]
 refine tkZ 2 ?_ rfl ?_ ?_
 rotate_left
 ·intro W hSw; have c3 := (hbo1.out.mod hSw (fun h => by have e2 : w.heap.size = w.heap.size + 1 := h; omega)).cell_ (i := 2) rfl; rw [hk.out] at c3; go_simp; (try with_reducible rfl)
 try simp only [Act.put, q1Z, q2Z, q3Z, q4Z, q5Z, q6Z]
 refine tkZ 4 ?_ rfl ?_ ?_
 rotate_left
 ·intro W hSw; (try dsimp only at hSw); go_simp; (try with_reducible rfl)
 try simp only [Act.put, q1Z, q2Z, q3Z, q4Z, q5Z, q6Z]
 refine wpAnyH_take (i := 5) rfl (by kernel_rfl) (by kernel_rfl) (by kernel_rfl) (fun _ _ _ h => h) (yieldsIf_load_mid (by rfl) 40 (.tmp 3) rfl w.heap.size 0 rfl [.int .i64 o.c, .int .i64 o.s, .int .i64 o.k, .string (txt o.acct), .string (txt o.peer), .int .i64 o.sum, .slice L.a L.n L.c, .int .i64 o.per, .int .i64 o.hold, .string (txt o.note)] _ (fun W hW => Blk.range (hbo1.out.mod hW (fun h => by have e2 : w.heap.size = w.heap.size + 1 := h; omega)) 0 _ rfl) Tryz.underlying40 rfl order_size) (by assumption) ?_
 try simp only [Act.put, q1Z, q2Z, q3Z, q4Z, q5Z, q6Z]
 refine rdZ 0 rfl (fun K hK => ?_)
 go_simp
 refine (doers_ok _).mono ?_
 rintro e w2 ⟨bm, rfl, hmd, hm2⟩
 dsimp only
 have hM2 := (Mod.refl none_ w1).drew.trans hm2
 refine hK.out _ _ ((hM2.any _)) (fun hHeld => ?_)
 clear hK K
 try simp only [Act.put, q1Z, q2Z, q3Z, q4Z, q5Z, q6Z]
 have lk : (Instr.lookup 283 (.map (some bm)) (.int .i64 7) false).run Tryz.prog w2 = .ok (.func (.func 237) #[] #[]) w2 := by
  have := hmd.get_run (t := 283) Tryz.underlying283 (z := .nilFunc) (by rfl) (i := 7) (by decide)
  exact this
 replace hM2 := zH hM2
 replace hmd := zH hmd
 refine rdZ 3 rfl (fun K hK => ?_)
 go_simp
 refine hK.out _ _ ((hM2.out.any _)) (fun hHeld => ?_)
 clear hK K
 try simp only [Act.put, q1Z, q2Z, q3Z, q4Z, q5Z, q6Z]
 refine rdZ 6 rfl (fun K hK => ?_)
 go_simp
 have hMw := hM1.out.trans hM2.out
 refine (kA.out _ hMw).mono ?_
 rintro e w3 ⟨rfl, hm3⟩
 dsimp only [rep6]
 have hM3 := hM2.out.trans hm3
 refine hK.out _ _ ((hM3.any _)) (fun hHeld => ?_)
 clear hK K
 try simp only [Act.put, q1Z, q2Z, q3Z, q4Z, q5Z, q6Z]
 refine rdZ 7 rfl (fun K hK => ?_)
 have hbr3 := hbr1.out.mod hM3 (fun h => h)
 refine step_store_blk rfl 156 (.tmp 4) (.tmp 19) rfl (w.heap.size + 1) 0 _ rfl rfl hbr3 (by simp) reply_size (by rfl) #[.int .i64 6, .int .i64 0, .int .i64 0, .int .i64 0] rfl ?_
 intro w4 hb4 hm4
 have hS4 : Mod (only (w.heap.size + 1)) w1 w4 := (hM3.any _).trans hm4
 refine hK.out _ _ (hS4) (fun hHeld => ?_)
 clear hK K
 try simp only [Act.put, q1Z, q2Z, q3Z, q4Z, q5Z, q6Z]
 refine wpAnyH_done (by kernel_rfl) ?_ _
 clear hHeld
 have hend := zH (hM1.out.in_new (g := w.heap.size + 1) (by omega) hS4)
 clear hS4 hm4 hM3 hm3 hMw
 go_wp2_with fail
 exact ret_row rfl (w.heap.size + 1) rfl hb4 Tryz.underlying156 rfl reply_size rfl ⟨rfl, hend.out⟩
end Go.Proofs.YtfkfiokkjjnhiaaGreat
