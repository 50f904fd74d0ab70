import Derived.Test.YtfkfiokkjjnhiaaGreatUp28
import Derived.Test.YtfkfiokkjjnhiaaGreatUp29
set_option linter.unusedVariables false
set_option linter.unusedSimpArgs false
set_option maxHeartbeats 16000000
namespace Go.Proofs.YtfkfiokkjjnhiaaGreat
open Go.RowKit
theorem own_tint {w w' : World} {col : Col} {k : Nat} {c : Nat × Nat} (h : Mod (own (tint w col c) k) w w') : Mod (own col k) w w' :=
 (Mod.refl (own col k) w).then h (fun j hj hh => by unfold own at *; rwa [tint_ext w col _ j hj] at hh)
def KnownNoPost (w : World) (col : Col) (k : Nat) (b : RpB) (me n : Int) (X : RpS) (i : Is) (e : En) (en : Ending) (w' : World) : Prop :=
 en = .returned (.tuple #[]) ∧ ∃ L' D' col', RpM w' col' k b me n { X with K := putI' i (enV e L' D') X.K } ∧ EnM w' e L' D' ∧ Ext w col col' ∧ Mod (own col k) w w'
set_option maxRecDepth 100000
theorem knownNoAux_ok (w : World) (col : Col) (k : Nat) (b : RpB) (me n : Int) (X : RpS) (h : RpM w col k b me n X) (i : Is) (hin : inI i) (hnone : findI X.K i = none) (hlen : X.K.length + 1 < maxLen) (e : En) (L D : SV) (hE : EnM w e L D) (hL : L.n ≤ 100000000) (hD : D.n ≤ 100000000) (hk : (Lit.int .i64 e.o.k).wf = true) (hz : ∀ l ∈ e.o.legs, (txt l.n).size ≤ maxLen) (hr : rightE i e = true) (hme : i.r ≠ me) (hcn : ∀ j, w.heap.size ≤ j → col j = (50 + k, 20)) :
  Calls Tryz.prog 53 #[.pointer (some ⟨b.q, 0, none⟩), .agg #[.int .i64 i.r, .int .i64 i.n], .agg #[.int .i64 e.o.c, .int .i64 e.o.s, .int .i64 e.o.k, .string (txt e.o.acct), .string (txt e.o.peer), .int .i64 e.o.sum, .slice L.a L.n L.c, .int .i64 e.o.per, .int .i64 e.o.hold, .string (txt e.o.note), .bool e.none, .slice D.a D.n D.c]] w (KnownNoPost w col k b me n X i e) := by
 have hlq := h.q.lt
 obtain ⟨w0, hw0⟩ : ∃ w0, w0 = ((w.alloc (.cells #[.int .i64 i.r, .int .i64 i.n] 27)).alloc (.cells #[.int .i64 e.o.c, .int .i64 e.o.s, .int .i64 e.o.k, .string (txt e.o.acct), .string (txt e.o.peer), .int .i64 e.o.sum, .slice L.a L.n L.c, .int .i64 e.o.per, .int .i64 e.o.hold, .string (txt e.o.note), .bool e.none, .slice D.a D.n D.c] 53)) := ⟨_, rfl⟩
 have hs0 : w0.heap.size = w.heap.size + 2 := by rw [hw0]; simp
 have hm0 : Mod none_ w w0 := by rw [hw0]; exact ((Mod.refl none_ w).alloc _).alloc _
 have hbi : Blk w0 w.heap.size 27 #[.int .i64 i.r, .int .i64 i.n] := by rw [hw0]; exact (Blk.new w _ _).alloc _
 have hbe : Blk w0 (w.heap.size + 1) 53 #[.int .i64 e.o.c, .int .i64 e.o.s, .int .i64 e.o.k, .string (txt e.o.acct), .string (txt e.o.peer), .int .i64 e.o.sum, .slice L.a L.n L.c, .int .i64 e.o.per, .int .i64 e.o.hold, .string (txt e.o.note), .bool e.none, .slice D.a D.n D.c] := by
  have := Blk.new (w.alloc (.cells #[.int .i64 i.r, .int .i64 i.n] 27)) 53 #[.int .i64 e.o.c, .int .i64 e.o.s, .int .i64 e.o.k, .string (txt e.o.acct), .string (txt e.o.peer), .int .i64 e.o.sum, .slice L.a L.n L.c, .int .i64 e.o.per, .int .i64 e.o.hold, .string (txt e.o.note), .bool e.none, .slice D.a D.n D.c]
  rw [hw0]; simpa using this
 have h0 := zH (h.mod0 hm0)
 have h0d := (h0.out.mod0 (Mod.refl none_ w0).drew)
 have kC := zH (commit_ok w0.drew b.rn.q b.rn.kn X.K (h0d.rn.q.cell_ rfl) h0d.rn.kn hlen i hin hnone e L D ((hE.mod0 hm0).mod0 (Mod.refl none_ w0).drew) hL hD hk hz hr)
 have hkl : b.rn.kn < w.heap.size := (h.lies (b.rn.kn, 9) (by simp [RpB.all])).1
 have hqk : b.q ≠ b.rn.kn := h.lies.ne (c := 0) (c' := 9) (by simp [RpB.all]) (by simp [RpB.all]) (by decide)
 clear h0d
 replace h := zH h
 replace hm0 := zH hm0
 replace hbi := zH hbi
 replace hbe := zH hbe
 replace hE := zH hE
 replace hqk := zH hqk
 replace hnone := zH hnone
 replace hin := zH hin
 replace hr := zH hr
 replace hcn := zH hcn
 replace hme := zH hme
 go_enter Tryz.func53, Tryz.ntmps53
 go_upto_region 1 with fail
 rw [← hw0]
 replace hw0 := zH hw0
 refine wp_region_held_drew (S := fun W => Mod (· = b.rn.kn) w0 W) (by kernel_rfl) (Mod.refl (· = b.rn.kn) w0).drew (fun hHeld => ?_)
 refine tkZ 0 ?_ rfl ?_ ?_
 rotate_left
 ·intro W hSw; (try dsimp only at hSw); go_simp; (try with_reducible rfl)
 try simp only [Act.put, q1Z, q2Z, q3Z, q4Z, q5Z, q6Z]
 refine tkZ 1 ?_ rfl ?_ ?_
 rotate_left
 ·intro W hSw; (try dsimp only at hSw); go_simp; (try with_reducible rfl)
 try simp only [Act.put, q1Z, q2Z, q3Z, q4Z, q5Z, q6Z]
 refine tkZ 2 ?_ rfl ?_ ?_
 rotate_left
 ·intro W hSw; (try dsimp only at hSw); go_simp; (try with_reducible rfl)
 try simp only [Act.put, q1Z, q2Z, q3Z, q4Z, q5Z, q6Z]
 refine tkZ 3 ?_ rfl ?_ ?_
 rotate_left
 ·intro W hSw; have c3 : W.cell? ⟨b.q, 4, none⟩ = some (.pointer (some ⟨b.rn.q, 0, none⟩)) := (h0.out.q.mod hSw hqk.out).cell_ rfl; go_simp; (try with_reducible rfl)
 try simp only [Act.put, q1Z, q2Z, q3Z, q4Z, q5Z, q6Z]
 refine wpAnyH_take (i := 4) rfl (by kernel_rfl) (by kernel_rfl) (by kernel_rfl) (fun _ _ _ h => h) (yieldsIf_load_mid (by rfl) 27 (.tmp 4) rfl w.heap.size 0 rfl [.int .i64 i.r, .int .i64 i.n] _ (fun W hW => Blk.range (hbi.out.mod hW (fun h => by have e2 : w.heap.size = b.rn.kn := h; omega)) 0 _ rfl) Tryz.underlying27 rfl inst_size) (by assumption) ?_
 try simp only [Act.put, q1Z, q2Z, q3Z, q4Z, q5Z, q6Z]
 refine wpAnyH_take (i := 5) rfl (by kernel_rfl) (by kernel_rfl) (by kernel_rfl) (fun _ _ _ h => h) (yieldsIf_load_mid (by rfl) 53 (.tmp 5) rfl (w.heap.size + 1) 0 rfl [.int .i64 e.o.c, .int .i64 e.o.s, .int .i64 e.o.k, .string (txt e.o.acct), .string (txt e.o.peer), .int .i64 e.o.sum, .slice L.a L.n L.c, .int .i64 e.o.per, .int .i64 e.o.hold, .string (txt e.o.note), .bool e.none, .slice D.a D.n D.c] _ (fun W hW => Blk.range (hbe.out.mod hW (fun h => by have e2 : w.heap.size + 1 = b.rn.kn := h; omega)) 0 _ rfl) Tryz.underlying53 rfl entry_size) (by assumption) ?_
 try simp only [Act.put, q1Z, q2Z, q3Z, q4Z, q5Z, q6Z]
 refine rdZ 6 rfl (fun K hK => ?_)
 go_simp
 refine kC.out.mono ?_
 rintro en w1 ⟨rfl, L', D', hK1, hE1, hf1, hf2, hm1⟩
 dsimp only
 have hm1' := (Mod.refl (· = b.rn.kn) w0).drew.trans hm1
 refine hK.out _ _ (hm1') (fun hHeld => ?_)
 clear hK K
 try simp only [Act.put, q1Z, q2Z, q3Z, q4Z, q5Z, q6Z]
 refine wpAnyH_done (by kernel_rfl) ?_ _
 clear hHeld
 have h0' := h0.out
 have hO := Off.one h0'.lies (g := b.rn.kn) (c := 9) (by simp [RpB.all])
 have hO' : Off w0 col k [8, 9, 10, 11, 12, 13, 14, 15, 16, 17] (· = b.rn.kn) := fun j hj hf c hc => hO j hj hf c (fun hh => hc (by simp at hh ⊢; omega))
 have h1 := zH (h0'.set_rn hm1' hO' (K := putI' i (enV e L' D') X.K) (D := X.D) (T := X.T) (A := X.LA) (ln := X.ln) (c := X.lc) (C := X.C) (cl := X.cl) (lv := X.lv)
  ⟨h0'.rn.q.mod hm1' (hO.nf h0'.lies (c := 8) (by simp [RpB.all]) (by decide)), hK1, h0'.rn.dn.mod hm1' (hO.nf h0'.lies (c := 10) (by simp [RpB.all]) (by decide)), h0'.rn.tl.mod hm1' (hO.nf h0'.lies (c := 11) (by simp [RpB.all]) (by decide)),
   h0'.rn.book.mod hm1' (hO.nf h0'.lies (c := 12) (by simp [RpB.all]) (by decide)) (hO.nf h0'.lies (c := 13) (by simp [RpB.all]) (by decide)) (hO.nf h0'.lies (c := 14) (by simp [RpB.all]) (by decide)) (hO.nf h0'.lies (c := 15) (by simp [RpB.all]) (by decide)) (hO.nf h0'.lies (c := 16) (by simp [RpB.all]) (by decide))⟩ (h0'.la.grow (Ext.refl _ _) hm1'.size) (h0'.ls.mod hm1' (hO.nfa h0'.la (by decide))))
 have hM1 := zH ((hm0.out.any (own col k)).trans (hm1'.mono (fun j hj => own_one h.out.lies (c := 9) (by simp [RpB.all]) j hj)))
 have hbi1 := hbi.out.mod hm1' (fun h => by have e2 : w.heap.size = b.rn.kn := h; omega)
 have hs1 : w.heap.size + 2 ≤ w1.heap.size := by have := hm1'.size; omega
 have hq1 := h1.out.q
 have cq0 : w1.cell? ⟨b.q, 0, none⟩ = some (.int .i64 me) := hq1.cell_ rfl
 have ci0 : w1.cell? ⟨w.heap.size, 0, none⟩ = some (.int .i64 i.r) := hbi1.cell_ rfl
 have lq1 := hq1.lt
 have li1 := hbi1.lt
 clear hm1 hm1' hO hO' kC h0' hK1
 replace hbi1 := zH hbi1
 replace hE1 := zH hE1
 replace hq1 := zH hq1
 replace hf1 := zH hf1
 replace hf2 := zH hf2
 have hmeb : (i.r == me) = false := by simpa using hme.out
 have hmed : decide (i.r = me) = false := by simpa using hme.out
 have hmen : ¬ i.r = me := hme.out
 go_upto_region 2 with fail
 go_quiet (fail)
 go_wp2_with fail
 refine bodyPost_ret (results_none rfl _ _ _) rfl ?_
 have hmz : Mod none_ w1 (w1.drewN nq) := (Mod.refl none_ w1).drewN _
 exact ⟨rfl, L', D', col, h1.out.mod0 hmz, hE1.out.mod0 hmz, Ext.refl _ _, hM1.out.trans (hmz.any _)⟩
theorem knownNo_ok (w : World) (col : Col) (k : Nat) (b : RpB) (me n : Int) (X : RpS) (h : RpM w col k b me n X) (i : Is) (hin : inI i) (hnone : findI X.K i = none) (hlen : X.K.length + 1 < maxLen) (e : En) (L D : SV) (hE : EnM w e L D) (hL : L.n ≤ 100000000) (hD : D.n ≤ 100000000) (hk : (Lit.int .i64 e.o.k).wf = true) (hz : ∀ l ∈ e.o.legs, (txt l.n).size ≤ maxLen) (hr : rightE i e = true) (hme : i.r ≠ me) :
  Calls Tryz.prog 53 #[.pointer (some ⟨b.q, 0, none⟩), .agg #[.int .i64 i.r, .int .i64 i.n], .agg #[.int .i64 e.o.c, .int .i64 e.o.s, .int .i64 e.o.k, .string (txt e.o.acct), .string (txt e.o.peer), .int .i64 e.o.sum, .slice L.a L.n L.c, .int .i64 e.o.per, .int .i64 e.o.hold, .string (txt e.o.note), .bool e.none, .slice D.a D.n D.c]] w (KnownNoPost w col k b me n X i e) := by
 refine (knownNoAux_ok w (tint w col (50 + k, 20)) k b me n X (h.ext (tint_ext w col _)) i hin hnone hlen e L D hE hL hD hk hz hr hme (fun j hj => tint_new hj)).mono ?_
 rintro en w' ⟨h1, L', D', col', h2, h3, h6, h7⟩
 exact ⟨h1, L', D', col', h2, h3, (tint_ext w col _).trans h6 (Nat.le_refl _), own_tint h7⟩
def KnownMePost (w : World) (col : Col) (k : Nat) (b : RpB) (me n : Int) (X : RpS) (i : Is) (e : En) (en : Ending) (w' : World) : Prop :=
 en = .returned (.tuple #[]) ∧ ∃ L' D' g col', RpM w' col' k b me n { X with K := putI' i (enV e L' D') X.K, Tl := putI' i (.map (some g)) X.Tl } ∧ EnM w' e L' D' ∧ MapN w' g [] ∧ col' g = (50 + k, 20) ∧ Ext w col col' ∧ Mod (own col k) w w'
theorem knownMeAux_ok (w : World) (col : Col) (k : Nat) (b : RpB) (me n : Int) (X : RpS) (h : RpM w col k b me n X) (i : Is) (hin : inI i) (hnone : findI X.K i = none) (hlen : X.K.length + 1 < maxLen) (e : En) (L D : SV) (hE : EnM w e L D) (hL : L.n ≤ 100000000) (hD : D.n ≤ 100000000) (hk : (Lit.int .i64 e.o.k).wf = true) (hz : ∀ l ∈ e.o.legs, (txt l.n).size ≤ maxLen) (hr : rightE i e = true) (hme : i.r = me) (htl : X.Tl.length + 1 < maxLen) (hcn : ∀ j, w.heap.size ≤ j → col j = (50 + k, 20)) :
  Calls Tryz.prog 53 #[.pointer (some ⟨b.q, 0, none⟩), .agg #[.int .i64 i.r, .int .i64 i.n], .agg #[.int .i64 e.o.c, .int .i64 e.o.s, .int .i64 e.o.k, .string (txt e.o.acct), .string (txt e.o.peer), .int .i64 e.o.sum, .slice L.a L.n L.c, .int .i64 e.o.per, .int .i64 e.o.hold, .string (txt e.o.note), .bool e.none, .slice D.a D.n D.c]] w (KnownMePost w col k b me n X i e) := by
 have hlq := h.q.lt
 obtain ⟨w0, hw0⟩ : ∃ w0, w0 = ((w.alloc (.cells #[.int .i64 i.r, .int .i64 i.n] 27)).alloc (.cells #[.int .i64 e.o.c, .int .i64 e.o.s, .int .i64 e.o.k, .string (txt e.o.acct), .string (txt e.o.peer), .int .i64 e.o.sum, .slice L.a L.n L.c, .int .i64 e.o.per, .int .i64 e.o.hold, .string (txt e.o.note), .bool e.none, .slice D.a D.n D.c] 53)) := ⟨_, rfl⟩
 have hs0 : w0.heap.size = w.heap.size + 2 := by rw [hw0]; simp
 have hm0 : Mod none_ w w0 := by rw [hw0]; exact ((Mod.refl none_ w).alloc _).alloc _
 have hbi : Blk w0 w.heap.size 27 #[.int .i64 i.r, .int .i64 i.n] := by rw [hw0]; exact (Blk.new w _ _).alloc _
 have hbe : Blk w0 (w.heap.size + 1) 53 #[.int .i64 e.o.c, .int .i64 e.o.s, .int .i64 e.o.k, .string (txt e.o.acct), .string (txt e.o.peer), .int .i64 e.o.sum, .slice L.a L.n L.c, .int .i64 e.o.per, .int .i64 e.o.hold, .string (txt e.o.note), .bool e.none, .slice D.a D.n D.c] := by
  have := Blk.new (w.alloc (.cells #[.int .i64 i.r, .int .i64 i.n] 27)) 53 #[.int .i64 e.o.c, .int .i64 e.o.s, .int .i64 e.o.k, .string (txt e.o.acct), .string (txt e.o.peer), .int .i64 e.o.sum, .slice L.a L.n L.c, .int .i64 e.o.per, .int .i64 e.o.hold, .string (txt e.o.note), .bool e.none, .slice D.a D.n D.c]
  rw [hw0]; simpa using this
 have h0 := zH (h.mod0 hm0)
 have h0d := (h0.out.mod0 (Mod.refl none_ w0).drew)
 have kC := zH (commit_ok w0.drew b.rn.q b.rn.kn X.K (h0d.rn.q.cell_ rfl) h0d.rn.kn hlen i hin hnone e L D ((hE.mod0 hm0).mod0 (Mod.refl none_ w0).drew) hL hD hk hz hr)
 have hkl : b.rn.kn < w.heap.size := (h.lies (b.rn.kn, 9) (by simp [RpB.all])).1
 have hqk : b.q ≠ b.rn.kn := h.lies.ne (c := 0) (c' := 9) (by simp [RpB.all]) (by simp [RpB.all]) (by decide)
 clear h0d
 replace h := zH h
 replace hm0 := zH hm0
 replace hbi := zH hbi
 replace hbe := zH hbe
 replace hE := zH hE
 replace hqk := zH hqk
 replace hnone := zH hnone
 replace hin := zH hin
 replace hr := zH hr
 replace hcn := zH hcn
 replace hme := zH hme
 go_enter Tryz.func53, Tryz.ntmps53
 go_upto_region 1 with fail
 rw [← hw0]
 replace hw0 := zH hw0
 refine wp_region_held_drew (S := fun W => Mod (· = b.rn.kn) w0 W) (by kernel_rfl) (Mod.refl (· = b.rn.kn) w0).drew (fun hHeld => ?_)
 refine tkZ 0 ?_ rfl ?_ ?_
 rotate_left
 ·intro W hSw; (try dsimp only at hSw); go_simp; (try with_reducible rfl)
 try simp only [Act.put, q1Z, q2Z, q3Z, q4Z, q5Z, q6Z]
 refine tkZ 1 ?_ rfl ?_ ?_
 rotate_left
 ·intro W hSw; (try dsimp only at hSw); go_simp; (try with_reducible rfl)
 try simp only [Act.put, q1Z, q2Z, q3Z, q4Z, q5Z, q6Z]
 refine tkZ 2 ?_ rfl ?_ ?_
 rotate_left
 ·intro W hSw; (try dsimp only at hSw); go_simp; (try with_reducible rfl)
 try simp only [Act.put, q1Z, q2Z, q3Z, q4Z, q5Z, q6Z]
 refine tkZ 3 ?_ rfl ?_ ?_
 rotate_left
 ·intro W hSw; have c3 : W.cell? ⟨b.q, 4, none⟩ = some (.pointer (some ⟨b.rn.q, 0, none⟩)) := (h0.out.q.mod hSw hqk.out).cell_ rfl; go_simp; (try with_reducible rfl)
 try simp only [Act.put, q1Z, q2Z, q3Z, q4Z, q5Z, q6Z]
 refine wpAnyH_take (i := 4) rfl (by kernel_rfl) (by kernel_rfl) (by kernel_rfl) (fun _ _ _ h => h) (yieldsIf_load_mid (by rfl) 27 (.tmp 4) rfl w.heap.size 0 rfl [.int .i64 i.r, .int .i64 i.n] _ (fun W hW => Blk.range (hbi.out.mod hW (fun h => by have e2 : w.heap.size = b.rn.kn := h; omega)) 0 _ rfl) Tryz.underlying27 rfl inst_size) (by assumption) ?_
 try simp only [Act.put, q1Z, q2Z, q3Z, q4Z, q5Z, q6Z]
 refine wpAnyH_take (i := 5) rfl (by kernel_rfl) (by kernel_rfl) (by kernel_rfl) (fun _ _ _ h => h) (yieldsIf_load_mid (by rfl) 53 (.tmp 5) rfl (w.heap.size + 1) 0 rfl [.int .i64 e.o.c, .int .i64 e.o.s, .int .i64 e.o.k, .string (txt e.o.acct), .string (txt e.o.peer), .int .i64 e.o.sum, .slice L.a L.n L.c, .int .i64 e.o.per, .int .i64 e.o.hold, .string (txt e.o.note), .bool e.none, .slice D.a D.n D.c] _ (fun W hW => Blk.range (hbe.out.mod hW (fun h => by have e2 : w.heap.size + 1 = b.rn.kn := h; omega)) 0 _ rfl) Tryz.underlying53 rfl entry_size) (by assumption) ?_
 try simp only [Act.put, q1Z, q2Z, q3Z, q4Z, q5Z, q6Z]
 refine rdZ 6 rfl (fun K hK => ?_)
 go_simp
 refine kC.out.mono ?_
 rintro en w1 ⟨rfl, L', D', hK1, hE1, hf1, hf2, hm1⟩
 dsimp only
 have hm1' := (Mod.refl (· = b.rn.kn) w0).drew.trans hm1
 refine hK.out _ _ (hm1') (fun hHeld => ?_)
 clear hK K
 try simp only [Act.put, q1Z, q2Z, q3Z, q4Z, q5Z, q6Z]
 refine wpAnyH_done (by kernel_rfl) ?_ _
 clear hHeld
 have h0' := h0.out
 have hO := Off.one h0'.lies (g := b.rn.kn) (c := 9) (by simp [RpB.all])
 have hO' : Off w0 col k [8, 9, 10, 11, 12, 13, 14, 15, 16, 17] (· = b.rn.kn) := fun j hj hf c hc => hO j hj hf c (fun hh => hc (by simp at hh ⊢; omega))
 have h1 := zH (h0'.set_rn hm1' hO' (K := putI' i (enV e L' D') X.K) (D := X.D) (T := X.T) (A := X.LA) (ln := X.ln) (c := X.lc) (C := X.C) (cl := X.cl) (lv := X.lv)
  ⟨h0'.rn.q.mod hm1' (hO.nf h0'.lies (c := 8) (by simp [RpB.all]) (by decide)), hK1, h0'.rn.dn.mod hm1' (hO.nf h0'.lies (c := 10) (by simp [RpB.all]) (by decide)), h0'.rn.tl.mod hm1' (hO.nf h0'.lies (c := 11) (by simp [RpB.all]) (by decide)),
   h0'.rn.book.mod hm1' (hO.nf h0'.lies (c := 12) (by simp [RpB.all]) (by decide)) (hO.nf h0'.lies (c := 13) (by simp [RpB.all]) (by decide)) (hO.nf h0'.lies (c := 14) (by simp [RpB.all]) (by decide)) (hO.nf h0'.lies (c := 15) (by simp [RpB.all]) (by decide)) (hO.nf h0'.lies (c := 16) (by simp [RpB.all]) (by decide))⟩ (h0'.la.grow (Ext.refl _ _) hm1'.size) (h0'.ls.mod hm1' (hO.nfa h0'.la (by decide))))
 have hM1 := zH ((hm0.out.any (own col k)).trans (hm1'.mono (fun j hj => own_one h.out.lies (c := 9) (by simp [RpB.all]) j hj)))
 have hbi1 := hbi.out.mod hm1' (fun h => by have e2 : w.heap.size = b.rn.kn := h; omega)
 have hs1 : w.heap.size + 2 ≤ w1.heap.size := by have := hm1'.size; omega
 have hq1 := h1.out.q
 have cq0 : w1.cell? ⟨b.q, 0, none⟩ = some (.int .i64 me) := hq1.cell_ rfl
 have ci0 : w1.cell? ⟨w.heap.size, 0, none⟩ = some (.int .i64 i.r) := hbi1.cell_ rfl
 have lq1 := hq1.lt
 have li1 := hbi1.lt
 clear hm1 hm1' hO hO' kC h0' hK1
 replace hbi1 := zH hbi1
 replace hE1 := zH hE1
 replace hq1 := zH hq1
 replace hf1 := zH hf1
 replace hf2 := zH hf2
 have hmeb : (i.r == me) = true := by simpa using hme.out
 have hmed : decide (i.r = me) = true := by simpa using hme.out
 go_upto_region 2 with fail
 go_quiet (fail)
 go_upto_region 3 with fail
 obtain ⟨w2, hw2⟩ : ∃ w2, w2 = w1.drewN nq := ⟨_, rfl⟩
 rw [← hw2]
 have hmz : Mod none_ w1 w2 := by rw [hw2]; exact (Mod.refl none_ w1).drewN _
 have h2 := zH (h1.out.mod0 hmz)
 have hE2 := zH (hE1.out.mod0 hmz)
 have hM2 := zH (hM1.out.trans (hmz.any _))
 have hbi2 := hbi1.out.mod hmz (fun h => h)
 have hs2 : w.heap.size + 2 ≤ w2.heap.size := Nat.le_trans hs1 hmz.size
 have hmk := fun W => run_makeMap (P := Tryz.prog) 93 W
 have hmd := zH (show MapN (w2.alloc (.map #[] 0)).drew w2.heap.size [] from (MapN.made w2).mod (Mod.refl none_ _).drew (fun h => h))
 have hma := zH (show Mod none_ w2 (w2.alloc (.map #[] 0)).drew from ((Mod.refl none_ w2).alloc (.map #[] 0)).drew)
 have h3 := h2.out.mod0 hma.out
 obtain ⟨w4, hrun, htl4, hm4, hs4⟩ := MapK.store_run h3.tl Tryz.underlying86 htl hin.out (.map (some w2.heap.size))
 unfold isVal at hrun
 have h4 := zH (h3.set_tl hm4 (Off.one h3.lies (by simp [RpB.all])) htl4)
 have htll : b.tl < w.heap.size := (h.out.lies (b.tl, 7) (by simp [RpB.all])).1
 have hmd4 := zH (hmd.out.mod hm4 (fun e => by have e2 : w2.heap.size = b.tl := e; omega))
 have hm24 := zH ((hma.out.any (· = b.tl)).trans hm4)
 have hE4 : Hid (EnM w4 e L' D') := zH (by
  have hE3 := hE2.out.mod0 hma.out
  exact ⟨⟨Rd.mod hE3.od.rd hm4 (fun j ⟨a, ha, hj⟩ hh => by have e2 : j = b.tl := hh; have := hf1.out a ha; have h9 : w0.drew.heap.size = w0.heap.size := rfl; omega), hE3.od.cap⟩, Rd.mod hE3.rd hm4 (fun j ⟨a, ha, hj⟩ hh => by have e2 : j = b.tl := hh; have := hf2.out a ha; have h9 : w0.drew.heap.size = w0.heap.size := rfl; omega), hE3.cap⟩)
 have hM4 := zH (hM2.out.trans (hm24.out.mono (fun j hj => own_one h.out.lies (c := 7) (by simp [RpB.all]) j hj)))
 clear cq0 ci0 lq1 li1 hmz h3 htl4 hm4 hs4
 replace hbi2 := zH hbi2
 replace hw2 := zH hw2
 refine wp_region_held_drew (S := fun W => Mod (· = b.tl) w2 W) (by kernel_rfl) (Mod.refl (· = b.tl) w2).drew (fun hHeld => ?_)
 have hqt : Hid (b.q ≠ b.tl) := zH (h.out.lies.ne (c := 0) (c' := 7) (by simp [RpB.all]) (by simp [RpB.all]) (by decide))
 refine tkZ 0 ?_ rfl ?_ ?_
 rotate_left
 ·intro W hSw; (try dsimp only at hSw); go_simp; (try with_reducible rfl)
 try simp only [Act.put, q1Z, q2Z, q3Z, q4Z, q5Z, q6Z]
 refine tkZ 1 ?_ rfl ?_ ?_
 rotate_left
 ·intro W hSw; (try dsimp only at hSw); go_simp; (try with_reducible rfl)
 try simp only [Act.put, q1Z, q2Z, q3Z, q4Z, q5Z, q6Z]
 refine tkZ 2 ?_ rfl ?_ ?_
 rotate_left
 ·intro W hSw; (try dsimp only at hSw); go_simp; (try with_reducible rfl)
 try simp only [Act.put, q1Z, q2Z, q3Z, q4Z, q5Z, q6Z]
 refine tkZ 3 ?_ rfl ?_ ?_
 rotate_left
 ·intro W hSw; have c3 : W.cell? ⟨b.q, 8, none⟩ = some (.map (some b.tl)) := (h2.out.q.mod hSw hqt.out).cell_ rfl; go_simp; (try with_reducible rfl)
 try simp only [Act.put, q1Z, q2Z, q3Z, q4Z, q5Z, q6Z]
 refine wpAnyH_take (i := 4) rfl (by kernel_rfl) (by kernel_rfl) (by kernel_rfl) (fun _ _ _ h => h) (yieldsIf_load_mid (by rfl) 27 (.tmp 4) rfl w.heap.size 0 rfl [.int .i64 i.r, .int .i64 i.n] _ (fun W hW => Blk.range (hbi2.out.mod hW (fun h => by have e2 : w.heap.size = b.tl := h; omega)) 0 _ rfl) Tryz.underlying27 rfl inst_size) (by assumption) ?_
 try simp only [Act.put, q1Z, q2Z, q3Z, q4Z, q5Z, q6Z]
 refine rdZ 5 rfl (fun K hK => ?_)
 go_simp
 refine hK.out _ _ ((hma.out.any _)) (fun hHeld => ?_)
 clear hK K
 try simp only [Act.put, q1Z, q2Z, q3Z, q4Z, q5Z, q6Z]
 refine rdZ 6 rfl (fun K hK => ?_)
 go_simp
 refine hK.out _ _ (hm24.out) (fun hHeld => ?_)
 clear hK K
 try simp only [Act.put, q1Z, q2Z, q3Z, q4Z, q5Z, q6Z]
 refine wpAnyH_done (by kernel_rfl) ?_ _
 clear hHeld
 go_wp2_with fail
 refine bodyPost_ret (results_none rfl _ _ _) rfl ?_
 exact ⟨rfl, L', D', w2.heap.size, col, h4.out, hE4.out, hmd4.out, hcn.out _ (by omega), Ext.refl _ _, hM4.out⟩
theorem knownMe_ok (w : World) (col : Col) (k : Nat) (b : RpB) (me n : Int) (X : RpS) (h : RpM w col k b me n X) (i : Is) (hin : inI i) (hnone : findI X.K i = none) (hlen : X.K.length + 1 < maxLen) (e : En) (L D : SV) (hE : EnM w e L D) (hL : L.n ≤ 100000000) (hD : D.n ≤ 100000000) (hk : (Lit.int .i64 e.o.k).wf = true) (hz : ∀ l ∈ e.o.legs, (txt l.n).size ≤ maxLen) (hr : rightE i e = true) (hme : i.r = me) (htl : X.Tl.length + 1 < maxLen) :
  Calls Tryz.prog 53 #[.pointer (some ⟨b.q, 0, none⟩), .agg #[.int .i64 i.r, .int .i64 i.n], .agg #[.int .i64 e.o.c, .int .i64 e.o.s, .int .i64 e.o.k, .string (txt e.o.acct), .string (txt e.o.peer), .int .i64 e.o.sum, .slice L.a L.n L.c, .int .i64 e.o.per, .int .i64 e.o.hold, .string (txt e.o.note), .bool e.none, .slice D.a D.n D.c]] w (KnownMePost w col k b me n X i e) := by
 refine (knownMeAux_ok w (tint w col (50 + k, 20)) k b me n X (h.ext (tint_ext w col _)) i hin hnone hlen e L D hE hL hD hk hz hr hme htl (fun j hj => tint_new hj)).mono ?_
 rintro en w' ⟨h1, L', D', g, col', h2, h3, h4, h5, h6, h7⟩
 exact ⟨h1, L', D', g, col', h2, h3, h4, h5, (tint_ext w col _).trans h6 (Nat.le_refl _), own_tint h7⟩
end Go.Proofs.YtfkfiokkjjnhiaaGreat
