import Derived.Test.YtfkfiokkjjnhiaaGreatUp12
import Derived.Test.YtfkfiokkjjnhiaaGreatUp16
set_option linter.unusedVariables false
set_option linter.unusedSimpArgs false
set_option maxHeartbeats 16000000
namespace Go.Proofs.YtfkfiokkjjnhiaaGreat
open Go.RowKit
theorem step_store_blk {ops : Array Oper} {op : Oper} {a : Act} {w : World} {K : Act → World → Prop} {Q : Exit → Act → World → Prop} {E : Prop} {P : Program} (hgd : op.guard = none) (ty : TypeId) (x y : Operand) (ho : op.op = .store ty x y)
  (g o : Nat) (cells : Array Value) (hx : a.eval x = .pointer (some ⟨g, o, none⟩)) (hy : a.eval y = .agg cells) {t : TypeId} {cs : Array Value} (hb : Blk w g t cs) (hn : o + cells.size ≤ cs.size)
  (hi : (P.info? ty).map (·.size) = some cells.size) (h1 : cells.toList.all (·.oneCell') = true) (cs' : Array Value) (hcs : cs.toList.take o ++ (cells.toList ++ cs.toList.drop (o + cells.size)) = cs'.toList)
  (h : ∀ w', Blk w' g t cs' → Mod (only g) w w' → K (a.put op.dst undef) w') : if Region.wanted op (yielded ops a.tmps) = true then Oper.wp P op a w K Q else E := by
 rw [if_pos (by simp [Region.wanted, hgd])]
 exact wp_store_mid ty x y ho g o cells hx hy (hb.there o _ hn) hi (by rw [← Array.all_toList]; exact h1) (h _ (by have e := setL_toList cells.toList cs o (by simpa using hn); rw [Array.length_toList, hcs, Array.toList_inj] at e; rw [← e]; exact Blk.setCells _ _ _ _ hb) (Mod.setCells _ _ _ _ (Mod.refl _ w) rfl))
set_option maxRecDepth 100000
theorem lsame1_ne (w : World) (x y : Rs) (hi : x.r.i = y.r.i) (hst : x.r.st ≠ y.r.st) :
  Calls Tryz.prog 132 #[.agg #[.int .i64 x.r.i.r, .int .i64 x.r.i.n, .int .i64 x.r.bal, .int .i64 x.r.st, .int .i64 x.r.by_, .int .i64 x.r.e.o.c, .int .i64 x.r.e.o.s, .int .i64 x.r.e.o.k, .string (txt x.r.e.o.acct), .string (txt x.r.e.o.peer), .int .i64 x.r.e.o.sum, .slice x.L.a x.L.n x.L.c, .int .i64 x.r.e.o.per, .int .i64 x.r.e.o.hold, .string (txt x.r.e.o.note), .bool x.r.e.none, .slice x.D.a x.D.n x.D.c], .agg #[.int .i64 y.r.i.r, .int .i64 y.r.i.n, .int .i64 y.r.bal, .int .i64 y.r.st, .int .i64 y.r.by_, .int .i64 y.r.e.o.c, .int .i64 y.r.e.o.s, .int .i64 y.r.e.o.k, .string (txt y.r.e.o.acct), .string (txt y.r.e.o.peer), .int .i64 y.r.e.o.sum, .slice y.L.a y.L.n y.L.c, .int .i64 y.r.e.o.per, .int .i64 y.r.e.o.hold, .string (txt y.r.e.o.note), .bool y.r.e.none, .slice y.D.a y.D.n y.D.c]] w fun e w' => e = .returned (.bool false) ∧ Mod none_ w w' := by
 have hei := fun W => eql_is W x.r.i y.r.i
 rw [decide_eq_true hi] at hei
 unfold isV at hei
 replace hi := zH hi
 have hst1 : (x.r.st == y.r.st) = false := by simpa using hst
 have hst2 : decide (x.r.st = y.r.st) = false := by simpa using hst
 have hm0 := ((Mod.refl none_ w).alloc (.cells #[.int .i64 x.r.i.r, .int .i64 x.r.i.n, .int .i64 x.r.bal, .int .i64 x.r.st, .int .i64 x.r.by_, .int .i64 x.r.e.o.c, .int .i64 x.r.e.o.s, .int .i64 x.r.e.o.k, .string (txt x.r.e.o.acct), .string (txt x.r.e.o.peer), .int .i64 x.r.e.o.sum, .slice x.L.a x.L.n x.L.c, .int .i64 x.r.e.o.per, .int .i64 x.r.e.o.hold, .string (txt x.r.e.o.note), .bool x.r.e.none, .slice x.D.a x.D.n x.D.c] 57)).alloc (.cells #[.int .i64 y.r.i.r, .int .i64 y.r.i.n, .int .i64 y.r.bal, .int .i64 y.r.st, .int .i64 y.r.by_, .int .i64 y.r.e.o.c, .int .i64 y.r.e.o.s, .int .i64 y.r.e.o.k, .string (txt y.r.e.o.acct), .string (txt y.r.e.o.peer), .int .i64 y.r.e.o.sum, .slice y.L.a y.L.n y.L.c, .int .i64 y.r.e.o.per, .int .i64 y.r.e.o.hold, .string (txt y.r.e.o.note), .bool y.r.e.none, .slice y.D.a y.D.n y.D.c] 57)
 have hb1 := (Blk.new w 57 #[.int .i64 x.r.i.r, .int .i64 x.r.i.n, .int .i64 x.r.bal, .int .i64 x.r.st, .int .i64 x.r.by_, .int .i64 x.r.e.o.c, .int .i64 x.r.e.o.s, .int .i64 x.r.e.o.k, .string (txt x.r.e.o.acct), .string (txt x.r.e.o.peer), .int .i64 x.r.e.o.sum, .slice x.L.a x.L.n x.L.c, .int .i64 x.r.e.o.per, .int .i64 x.r.e.o.hold, .string (txt x.r.e.o.note), .bool x.r.e.none, .slice x.D.a x.D.n x.D.c]).alloc (.cells #[.int .i64 y.r.i.r, .int .i64 y.r.i.n, .int .i64 y.r.bal, .int .i64 y.r.st, .int .i64 y.r.by_, .int .i64 y.r.e.o.c, .int .i64 y.r.e.o.s, .int .i64 y.r.e.o.k, .string (txt y.r.e.o.acct), .string (txt y.r.e.o.peer), .int .i64 y.r.e.o.sum, .slice y.L.a y.L.n y.L.c, .int .i64 y.r.e.o.per, .int .i64 y.r.e.o.hold, .string (txt y.r.e.o.note), .bool y.r.e.none, .slice y.D.a y.D.n y.D.c] 57)
 have hb2 := Blk.new (w.alloc (.cells #[.int .i64 x.r.i.r, .int .i64 x.r.i.n, .int .i64 x.r.bal, .int .i64 x.r.st, .int .i64 x.r.by_, .int .i64 x.r.e.o.c, .int .i64 x.r.e.o.s, .int .i64 x.r.e.o.k, .string (txt x.r.e.o.acct), .string (txt x.r.e.o.peer), .int .i64 x.r.e.o.sum, .slice x.L.a x.L.n x.L.c, .int .i64 x.r.e.o.per, .int .i64 x.r.e.o.hold, .string (txt x.r.e.o.note), .bool x.r.e.none, .slice x.D.a x.D.n x.D.c] 57)) 57 #[.int .i64 y.r.i.r, .int .i64 y.r.i.n, .int .i64 y.r.bal, .int .i64 y.r.st, .int .i64 y.r.by_, .int .i64 y.r.e.o.c, .int .i64 y.r.e.o.s, .int .i64 y.r.e.o.k, .string (txt y.r.e.o.acct), .string (txt y.r.e.o.peer), .int .i64 y.r.e.o.sum, .slice y.L.a y.L.n y.L.c, .int .i64 y.r.e.o.per, .int .i64 y.r.e.o.hold, .string (txt y.r.e.o.note), .bool y.r.e.none, .slice y.D.a y.D.n y.D.c]
 have hsz : (w.alloc (.cells #[.int .i64 x.r.i.r, .int .i64 x.r.i.n, .int .i64 x.r.bal, .int .i64 x.r.st, .int .i64 x.r.by_, .int .i64 x.r.e.o.c, .int .i64 x.r.e.o.s, .int .i64 x.r.e.o.k, .string (txt x.r.e.o.acct), .string (txt x.r.e.o.peer), .int .i64 x.r.e.o.sum, .slice x.L.a x.L.n x.L.c, .int .i64 x.r.e.o.per, .int .i64 x.r.e.o.hold, .string (txt x.r.e.o.note), .bool x.r.e.none, .slice x.D.a x.D.n x.D.c] 57)).heap.size = w.heap.size + 1 := by simp
 rw [hsz] at hb2
 clear hsz
 replace hm0 := zH hm0
 replace hb1 := zH hb1
 replace hb2 := zH hb2
 go_enter Tryz.func132, Tryz.ntmps132
 go_upto_region 1 with fail
 obtain ⟨W0, hW0⟩ : ∃ W0, W0 = (w.alloc (.cells #[.int .i64 x.r.i.r, .int .i64 x.r.i.n, .int .i64 x.r.bal, .int .i64 x.r.st, .int .i64 x.r.by_, .int .i64 x.r.e.o.c, .int .i64 x.r.e.o.s, .int .i64 x.r.e.o.k, .string (txt x.r.e.o.acct), .string (txt x.r.e.o.peer), .int .i64 x.r.e.o.sum, .slice x.L.a x.L.n x.L.c, .int .i64 x.r.e.o.per, .int .i64 x.r.e.o.hold, .string (txt x.r.e.o.note), .bool x.r.e.none, .slice x.D.a x.D.n x.D.c] 57)).alloc (.cells #[.int .i64 y.r.i.r, .int .i64 y.r.i.n, .int .i64 y.r.bal, .int .i64 y.r.st, .int .i64 y.r.by_, .int .i64 y.r.e.o.c, .int .i64 y.r.e.o.s, .int .i64 y.r.e.o.k, .string (txt y.r.e.o.acct), .string (txt y.r.e.o.peer), .int .i64 y.r.e.o.sum, .slice y.L.a y.L.n y.L.c, .int .i64 y.r.e.o.per, .int .i64 y.r.e.o.hold, .string (txt y.r.e.o.note), .bool y.r.e.none, .slice y.D.a y.D.n y.D.c] 57) := ⟨_, rfl⟩
 rw [← hW0] at hm0 hb1 hb2 ⊢
 have hW0s := zH (show W0.heap.size = w.heap.size + 2 by rw [hW0]; simp)
 clear hW0
 go_cut [5, 6] from 7 to 10 (fun s5 s6 wx => ∃ p q : Nat, s5 = .pointer (some ⟨p, 0, none⟩) ∧ s6 = .pointer (some ⟨q, 0, none⟩) ∧ Blk wx p 55 #[.int .i64 x.r.bal, .int .i64 x.r.st, .int .i64 x.r.by_, .int .i64 x.r.e.o.c, .int .i64 x.r.e.o.s, .int .i64 x.r.e.o.k, .string (txt x.r.e.o.acct), .string (txt x.r.e.o.peer), .int .i64 x.r.e.o.sum, .slice x.L.a x.L.n x.L.c, .int .i64 x.r.e.o.per, .int .i64 x.r.e.o.hold, .string (txt x.r.e.o.note), .bool x.r.e.none, .slice x.D.a x.D.n x.D.c] ∧ Blk wx q 55 #[.int .i64 y.r.bal, .int .i64 y.r.st, .int .i64 y.r.by_, .int .i64 y.r.e.o.c, .int .i64 y.r.e.o.s, .int .i64 y.r.e.o.k, .string (txt y.r.e.o.acct), .string (txt y.r.e.o.peer), .int .i64 y.r.e.o.sum, .slice y.L.a y.L.n y.L.c, .int .i64 y.r.e.o.per, .int .i64 y.r.e.o.hold, .string (txt y.r.e.o.note), .bool y.r.e.none, .slice y.D.a y.D.n y.D.c] ∧ Mod none_ W0 wx)
 case first =>
  have hSm : ∀ W, Mod none_ W0 W → Blk W w.heap.size 57 #[.int .i64 x.r.i.r, .int .i64 x.r.i.n, .int .i64 x.r.bal, .int .i64 x.r.st, .int .i64 x.r.by_, .int .i64 x.r.e.o.c, .int .i64 x.r.e.o.s, .int .i64 x.r.e.o.k, .string (txt x.r.e.o.acct), .string (txt x.r.e.o.peer), .int .i64 x.r.e.o.sum, .slice x.L.a x.L.n x.L.c, .int .i64 x.r.e.o.per, .int .i64 x.r.e.o.hold, .string (txt x.r.e.o.note), .bool x.r.e.none, .slice x.D.a x.D.n x.D.c] ∧ Blk W (w.heap.size + 1) 57 #[.int .i64 y.r.i.r, .int .i64 y.r.i.n, .int .i64 y.r.bal, .int .i64 y.r.st, .int .i64 y.r.by_, .int .i64 y.r.e.o.c, .int .i64 y.r.e.o.s, .int .i64 y.r.e.o.k, .string (txt y.r.e.o.acct), .string (txt y.r.e.o.peer), .int .i64 y.r.e.o.sum, .slice y.L.a y.L.n y.L.c, .int .i64 y.r.e.o.per, .int .i64 y.r.e.o.hold, .string (txt y.r.e.o.note), .bool y.r.e.none, .slice y.D.a y.D.n y.D.c] := fun W hM => ⟨hb1.out.mod hM (fun h => h), hb2.out.mod hM (fun h => h)⟩
  have hS0 := hSm _ ((Mod.refl none_ W0).drew)
  have hm1 := ((Mod.refl none_ W0).drew).alloc (.cells #[.int .i64 0, .int .i64 0, .int .i64 0, .int .i64 0, .int .i64 0, .int .i64 0, .string ⟨#[]⟩, .string ⟨#[]⟩, .int .i64 0, .slice none 0 0, .int .i64 0, .int .i64 0, .string ⟨#[]⟩, .bool false, .slice none 0 0] 55)
  have hm2 := hm1.alloc (.cells #[.int .i64 0, .int .i64 0, .int .i64 0, .int .i64 0, .int .i64 0, .int .i64 0, .string ⟨#[]⟩, .string ⟨#[]⟩, .int .i64 0, .slice none 0 0, .int .i64 0, .int .i64 0, .string ⟨#[]⟩, .bool false, .slice none 0 0] 55)
  have hS1 := hSm _ hm1
  have hS2 := hSm _ hm2
  have hB1 := (Blk.new W0.drew 55 #[.int .i64 0, .int .i64 0, .int .i64 0, .int .i64 0, .int .i64 0, .int .i64 0, .string ⟨#[]⟩, .string ⟨#[]⟩, .int .i64 0, .slice none 0 0, .int .i64 0, .int .i64 0, .string ⟨#[]⟩, .bool false, .slice none 0 0]).alloc (.cells #[.int .i64 0, .int .i64 0, .int .i64 0, .int .i64 0, .int .i64 0, .int .i64 0, .string ⟨#[]⟩, .string ⟨#[]⟩, .int .i64 0, .slice none 0 0, .int .i64 0, .int .i64 0, .string ⟨#[]⟩, .bool false, .slice none 0 0] 55)
  have hB2 := Blk.new (W0.drew.alloc (.cells #[.int .i64 0, .int .i64 0, .int .i64 0, .int .i64 0, .int .i64 0, .int .i64 0, .string ⟨#[]⟩, .string ⟨#[]⟩, .int .i64 0, .slice none 0 0, .int .i64 0, .int .i64 0, .string ⟨#[]⟩, .bool false, .slice none 0 0] 55)) 55 #[.int .i64 0, .int .i64 0, .int .i64 0, .int .i64 0, .int .i64 0, .int .i64 0, .string ⟨#[]⟩, .string ⟨#[]⟩, .int .i64 0, .slice none 0 0, .int .i64 0, .int .i64 0, .string ⟨#[]⟩, .bool false, .slice none 0 0]
  have hsz : (W0.drew.alloc (.cells #[.int .i64 0, .int .i64 0, .int .i64 0, .int .i64 0, .int .i64 0, .int .i64 0, .string ⟨#[]⟩, .string ⟨#[]⟩, .int .i64 0, .slice none 0 0, .int .i64 0, .int .i64 0, .string ⟨#[]⟩, .bool false, .slice none 0 0] 55)).heap.size = W0.heap.size + 1 := by simp
  rw [hsz] at hB2
  have hsz0 : W0.drew.heap.size = W0.heap.size := rfl
  rw [hsz0] at hB1
  clear hsz hsz0
  refine wp_region_held_drew (S := fun W => Blk W w.heap.size 57 #[.int .i64 x.r.i.r, .int .i64 x.r.i.n, .int .i64 x.r.bal, .int .i64 x.r.st, .int .i64 x.r.by_, .int .i64 x.r.e.o.c, .int .i64 x.r.e.o.s, .int .i64 x.r.e.o.k, .string (txt x.r.e.o.acct), .string (txt x.r.e.o.peer), .int .i64 x.r.e.o.sum, .slice x.L.a x.L.n x.L.c, .int .i64 x.r.e.o.per, .int .i64 x.r.e.o.hold, .string (txt x.r.e.o.note), .bool x.r.e.none, .slice x.D.a x.D.n x.D.c] ∧ Blk W (w.heap.size + 1) 57 #[.int .i64 y.r.i.r, .int .i64 y.r.i.n, .int .i64 y.r.bal, .int .i64 y.r.st, .int .i64 y.r.by_, .int .i64 y.r.e.o.c, .int .i64 y.r.e.o.s, .int .i64 y.r.e.o.k, .string (txt y.r.e.o.acct), .string (txt y.r.e.o.peer), .int .i64 y.r.e.o.sum, .slice y.L.a y.L.n y.L.c, .int .i64 y.r.e.o.per, .int .i64 y.r.e.o.hold, .string (txt y.r.e.o.note), .bool y.r.e.none, .slice y.D.a y.D.n y.D.c]) (by kernel_rfl) hS0 (fun hHeld => ?_)
  refine tkZ 0 ?_ rfl ?_ ?_
  rotate_left
  ·intro W hSw; (try dsimp only at hSw); go_simp; (try with_reducible rfl)
  try simp only [Act.put, q1Z, q2Z, q3Z, q4Z, q5Z, q6Z]
  refine wpAnyH_take (i := 1) rfl (by kernel_rfl) (by kernel_rfl) (by kernel_rfl) (fun _ _ _ h => h) (yieldsIf_load_mid (by rfl) 55 (.tmp 7) rfl w.heap.size 2 rfl [.int .i64 x.r.bal, .int .i64 x.r.st, .int .i64 x.r.by_, .int .i64 x.r.e.o.c, .int .i64 x.r.e.o.s, .int .i64 x.r.e.o.k, .string (txt x.r.e.o.acct), .string (txt x.r.e.o.peer), .int .i64 x.r.e.o.sum, .slice x.L.a x.L.n x.L.c, .int .i64 x.r.e.o.per, .int .i64 x.r.e.o.hold, .string (txt x.r.e.o.note), .bool x.r.e.none, .slice x.D.a x.D.n x.D.c] _ (fun W hW => Blk.range hW.1 2 _ rfl) Tryz.underlying55 rfl slot_size) (by assumption) ?_
  try simp only [Act.put, q1Z, q2Z, q3Z, q4Z, q5Z, q6Z]
  refine tkZ 2 ?_ rfl ?_ ?_
  rotate_left
  ·intro W hSw; (try dsimp only at hSw); go_simp; (try with_reducible rfl)
  try simp only [Act.put, q1Z, q2Z, q3Z, q4Z, q5Z, q6Z]
  refine wpAnyH_take (i := 3) rfl (by kernel_rfl) (by kernel_rfl) (by kernel_rfl) (fun _ _ _ h => h) (yieldsIf_load_mid (by rfl) 55 (.tmp 9) rfl (w.heap.size + 1) 2 rfl [.int .i64 y.r.bal, .int .i64 y.r.st, .int .i64 y.r.by_, .int .i64 y.r.e.o.c, .int .i64 y.r.e.o.s, .int .i64 y.r.e.o.k, .string (txt y.r.e.o.acct), .string (txt y.r.e.o.peer), .int .i64 y.r.e.o.sum, .slice y.L.a y.L.n y.L.c, .int .i64 y.r.e.o.per, .int .i64 y.r.e.o.hold, .string (txt y.r.e.o.note), .bool y.r.e.none, .slice y.D.a y.D.n y.D.c] _ (fun W hW => Blk.range hW.2 2 _ rfl) Tryz.underlying55 rfl slot_size) (by assumption) ?_
  try simp only [Act.put, q1Z, q2Z, q3Z, q4Z, q5Z, q6Z]
  refine wpAnyH_ready (rs := [4, 5]) (by kernel_rfl) (by simp) ?_
  refine AllReadyH.cons rfl (fun K hK => ?_) (AllReadyH.cons rfl (fun K hK => ?_) AllReadyH.nil)
  focus
   go_simp
   refine hK.out _ _ (hS1) (fun hHeld => ?_)
   clear hK K
   try simp only [Act.put, q1Z, q2Z, q3Z, q4Z, q5Z, q6Z]
   refine rdZ 5 rfl (fun K hK => ?_)
   go_simp
   refine hK.out _ _ (hS2) (fun hHeld => ?_)
   clear hK K
   try simp only [Act.put, q1Z, q2Z, q3Z, q4Z, q5Z, q6Z]
   refine rdZ 6 rfl (fun K hK => ?_)
   refine step_store_blk rfl 55 (.tmp 5) (.tmp 8) rfl (W0.heap.size) 0 _ rfl rfl hB1 (by simp) slot_size (by rfl) #[.int .i64 x.r.bal, .int .i64 x.r.st, .int .i64 x.r.by_, .int .i64 x.r.e.o.c, .int .i64 x.r.e.o.s, .int .i64 x.r.e.o.k, .string (txt x.r.e.o.acct), .string (txt x.r.e.o.peer), .int .i64 x.r.e.o.sum, .slice x.L.a x.L.n x.L.c, .int .i64 x.r.e.o.per, .int .i64 x.r.e.o.hold, .string (txt x.r.e.o.note), .bool x.r.e.none, .slice x.D.a x.D.n x.D.c] rfl ?_
   intro w3 hb3 hm3
   have hB3 := hB2.mod hm3 (fun h => by have : W0.heap.size + 1 = W0.heap.size := h; omega)
   have hm3' := hm2.in_new (by omega) hm3
   have hS3 := hSm _ hm3'
   refine hK.out _ _ (hS3) (fun hHeld => ?_)
   clear hK K
   try simp only [Act.put, q1Z, q2Z, q3Z, q4Z, q5Z, q6Z]
   refine rdZ 7 rfl (fun K hK => ?_)
   refine step_store_blk rfl 55 (.tmp 6) (.tmp 10) rfl (W0.heap.size + 1) 0 _ rfl rfl hB3 (by simp) slot_size (by rfl) #[.int .i64 y.r.bal, .int .i64 y.r.st, .int .i64 y.r.by_, .int .i64 y.r.e.o.c, .int .i64 y.r.e.o.s, .int .i64 y.r.e.o.k, .string (txt y.r.e.o.acct), .string (txt y.r.e.o.peer), .int .i64 y.r.e.o.sum, .slice y.L.a y.L.n y.L.c, .int .i64 y.r.e.o.per, .int .i64 y.r.e.o.hold, .string (txt y.r.e.o.note), .bool y.r.e.none, .slice y.D.a y.D.n y.D.c] rfl ?_
   intro w4 hb4 hm4
   have hb4' := hb3.mod hm4 (fun h => by have : W0.heap.size = W0.heap.size + 1 := h; omega)
   have hm4' := hm3'.in_new (by omega) hm4
   have hS4 := hSm _ hm4'
   refine hK.out _ _ (hS4) (fun hHeld => ?_)
   clear hK K
   try simp only [Act.put, q1Z, q2Z, q3Z, q4Z, q5Z, q6Z]
   refine wpAnyH_done (by kernel_rfl) ?_ _
   clear hHeld hS1 hS2 hS3 hS4 hSm hm1 hm2 hm3' hm3 hm4 hB3 hb3 hB1 hB2
   replace hb4 := zH hb4
   replace hb4' := zH hb4'
   replace hm4' := zH hm4'
   go_wp2_with fail
   all_goals go_meet
   exact ⟨W0.heap.size, W0.heap.size + 1, rfl, rfl, hb4'.out, hb4.out, hm4'.out⟩
  focus
   go_simp
   refine hK.out _ _ (hS1) (fun hHeld => ?_)
   clear hK K
   try simp only [Act.put, q1Z, q2Z, q3Z, q4Z, q5Z, q6Z]
   refine rdZ 4 rfl (fun K hK => ?_)
   go_simp
   refine hK.out _ _ (hS2) (fun hHeld => ?_)
   clear hK K
   try simp only [Act.put, q1Z, q2Z, q3Z, q4Z, q5Z, q6Z]
   refine rdZ 6 rfl (fun K hK => ?_)
   refine step_store_blk rfl 55 (.tmp 5) (.tmp 8) rfl (W0.heap.size + 1) 0 _ rfl rfl hB2 (by simp) slot_size (by rfl) #[.int .i64 x.r.bal, .int .i64 x.r.st, .int .i64 x.r.by_, .int .i64 x.r.e.o.c, .int .i64 x.r.e.o.s, .int .i64 x.r.e.o.k, .string (txt x.r.e.o.acct), .string (txt x.r.e.o.peer), .int .i64 x.r.e.o.sum, .slice x.L.a x.L.n x.L.c, .int .i64 x.r.e.o.per, .int .i64 x.r.e.o.hold, .string (txt x.r.e.o.note), .bool x.r.e.none, .slice x.D.a x.D.n x.D.c] rfl ?_
   intro w3 hb3 hm3
   have hB3 := hB1.mod hm3 (fun h => by have : W0.heap.size = W0.heap.size + 1 := h; omega)
   have hm3' := hm2.in_new (by omega) hm3
   have hS3 := hSm _ hm3'
   refine hK.out _ _ (hS3) (fun hHeld => ?_)
   clear hK K
   try simp only [Act.put, q1Z, q2Z, q3Z, q4Z, q5Z, q6Z]
   refine rdZ 7 rfl (fun K hK => ?_)
   refine step_store_blk rfl 55 (.tmp 6) (.tmp 10) rfl (W0.heap.size) 0 _ rfl rfl hB3 (by simp) slot_size (by rfl) #[.int .i64 y.r.bal, .int .i64 y.r.st, .int .i64 y.r.by_, .int .i64 y.r.e.o.c, .int .i64 y.r.e.o.s, .int .i64 y.r.e.o.k, .string (txt y.r.e.o.acct), .string (txt y.r.e.o.peer), .int .i64 y.r.e.o.sum, .slice y.L.a y.L.n y.L.c, .int .i64 y.r.e.o.per, .int .i64 y.r.e.o.hold, .string (txt y.r.e.o.note), .bool y.r.e.none, .slice y.D.a y.D.n y.D.c] rfl ?_
   intro w4 hb4 hm4
   have hb4' := hb3.mod hm4 (fun h => by have : W0.heap.size + 1 = W0.heap.size := h; omega)
   have hm4' := hm3'.in_new (by omega) hm4
   have hS4 := hSm _ hm4'
   refine hK.out _ _ (hS4) (fun hHeld => ?_)
   clear hK K
   try simp only [Act.put, q1Z, q2Z, q3Z, q4Z, q5Z, q6Z]
   refine wpAnyH_done (by kernel_rfl) ?_ _
   clear hHeld hS1 hS2 hS3 hS4 hSm hm1 hm2 hm3' hm3 hm4 hB3 hb3 hB1 hB2
   replace hb4 := zH hb4
   replace hb4' := zH hb4'
   replace hm4' := zH hm4'
   go_wp2_with fail
   all_goals go_meet
   exact ⟨W0.heap.size + 1, W0.heap.size, rfl, rfl, hb4'.out, hb4.out, hm4'.out⟩
 case rest =>
  obtain ⟨p, q, rfl, rfl, hbp, hbq, hmx⟩ := hcut
  have hM2 := zH (hm0.out.trans hmx)
  have hc1 := zH (hb1.out.mod hmx (fun h => h))
  have hc2 := zH (hb2.out.mod hmx (fun h => h))
  have z0 := fun i v (h : (#[.int .i64 x.r.bal, .int .i64 x.r.st, .int .i64 x.r.by_, .int .i64 x.r.e.o.c, .int .i64 x.r.e.o.s, .int .i64 x.r.e.o.k, .string (txt x.r.e.o.acct), .string (txt x.r.e.o.peer), .int .i64 x.r.e.o.sum, .slice x.L.a x.L.n x.L.c, .int .i64 x.r.e.o.per, .int .i64 x.r.e.o.hold, .string (txt x.r.e.o.note), .bool x.r.e.none, .slice x.D.a x.D.n x.D.c] : Array Value)[i]? = some v) => hbp.cell_ h
  have a0 : wc.cell? ⟨p, 0, none⟩ = some (.int .i64 x.r.bal) := hbp.cell_ rfl
  have a1 : wc.cell? ⟨p, 1, none⟩ = some (.int .i64 x.r.st) := hbp.cell_ rfl
  have a2 : wc.cell? ⟨p, 2, none⟩ = some (.int .i64 x.r.by_) := hbp.cell_ rfl
  have b0 : wc.cell? ⟨q, 0, none⟩ = some (.int .i64 y.r.bal) := hbq.cell_ rfl
  have b1 : wc.cell? ⟨q, 1, none⟩ = some (.int .i64 y.r.st) := hbq.cell_ rfl
  have b2 : wc.cell? ⟨q, 2, none⟩ = some (.int .i64 y.r.by_) := hbq.cell_ rfl
  clear z0 hmx
  replace hbp := zH hbp
  replace hbq := zH hbq
  by_cases hbl : x.r.bal = y.r.bal
  ·have hbl1 : (x.r.bal == y.r.bal) = true := by simpa using hbl
   have hbl2 : decide (x.r.bal = y.r.bal) = true := by simpa using hbl
   go_wp2_with (first
    | (refine wpList_load_blk rfl 27 (.tmp 11) rfl w.heap.size 0 rfl hc1.out [.int .i64 x.r.i.r, .int .i64 x.r.i.n] rfl Tryz.underlying27 rfl inst_size ?_)
    | (refine wpList_load_blk rfl 27 (.tmp 13) rfl (w.heap.size + 1) 0 rfl hc2.out [.int .i64 y.r.i.r, .int .i64 y.r.i.n] rfl Tryz.underlying27 rfl inst_size ?_)
    | (refine wpList_step (fun K hK => ?_); rw [if_pos (by rfl)]; refine wp_load_mid 53 (.tmp 38) rfl p 3 rfl [.int .i64 x.r.e.o.c, .int .i64 x.r.e.o.s, .int .i64 x.r.e.o.k, .string (txt x.r.e.o.acct), .string (txt x.r.e.o.peer), .int .i64 x.r.e.o.sum, .slice x.L.a x.L.n x.L.c, .int .i64 x.r.e.o.per, .int .i64 x.r.e.o.hold, .string (txt x.r.e.o.note), .bool x.r.e.none, .slice x.D.a x.D.n x.D.c] _ (Blk.range hbp.out 3 _ rfl) Tryz.underlying53 rfl entry_size ?_; refine hK _ _ ?_)
    | (refine wpList_step (fun K hK => ?_); rw [if_pos (by rfl)]; refine wp_load_mid 53 (.tmp 40) rfl q 3 rfl [.int .i64 y.r.e.o.c, .int .i64 y.r.e.o.s, .int .i64 y.r.e.o.k, .string (txt y.r.e.o.acct), .string (txt y.r.e.o.peer), .int .i64 y.r.e.o.sum, .slice y.L.a y.L.n y.L.c, .int .i64 y.r.e.o.per, .int .i64 y.r.e.o.hold, .string (txt y.r.e.o.note), .bool y.r.e.none, .slice y.D.a y.D.n y.D.c] _ (Blk.range hbq.out 3 _ rfl) Tryz.underlying53 rfl entry_size ?_; refine hK _ _ ?_))
   go_ret
   exact ⟨rfl, hM2.out⟩
  ·have hbl1 : (x.r.bal == y.r.bal) = false := by simpa using hbl
   have hbl2 : decide (x.r.bal = y.r.bal) = false := by simpa using hbl
   go_wp2_with (first
    | (refine wpList_load_blk rfl 27 (.tmp 11) rfl w.heap.size 0 rfl hc1.out [.int .i64 x.r.i.r, .int .i64 x.r.i.n] rfl Tryz.underlying27 rfl inst_size ?_)
    | (refine wpList_load_blk rfl 27 (.tmp 13) rfl (w.heap.size + 1) 0 rfl hc2.out [.int .i64 y.r.i.r, .int .i64 y.r.i.n] rfl Tryz.underlying27 rfl inst_size ?_)
    | (refine wpList_step (fun K hK => ?_); rw [if_pos (by rfl)]; refine wp_load_mid 53 (.tmp 38) rfl p 3 rfl [.int .i64 x.r.e.o.c, .int .i64 x.r.e.o.s, .int .i64 x.r.e.o.k, .string (txt x.r.e.o.acct), .string (txt x.r.e.o.peer), .int .i64 x.r.e.o.sum, .slice x.L.a x.L.n x.L.c, .int .i64 x.r.e.o.per, .int .i64 x.r.e.o.hold, .string (txt x.r.e.o.note), .bool x.r.e.none, .slice x.D.a x.D.n x.D.c] _ (Blk.range hbp.out 3 _ rfl) Tryz.underlying53 rfl entry_size ?_; refine hK _ _ ?_)
    | (refine wpList_step (fun K hK => ?_); rw [if_pos (by rfl)]; refine wp_load_mid 53 (.tmp 40) rfl q 3 rfl [.int .i64 y.r.e.o.c, .int .i64 y.r.e.o.s, .int .i64 y.r.e.o.k, .string (txt y.r.e.o.acct), .string (txt y.r.e.o.peer), .int .i64 y.r.e.o.sum, .slice y.L.a y.L.n y.L.c, .int .i64 y.r.e.o.per, .int .i64 y.r.e.o.hold, .string (txt y.r.e.o.note), .bool y.r.e.none, .slice y.D.a y.D.n y.D.c] _ (Blk.range hbq.out 3 _ rfl) Tryz.underlying53 rfl entry_size ?_; refine hK _ _ ?_))
   go_ret
   exact ⟨rfl, hM2.out⟩
theorem eqFunc_ne (w : World) (A B : Option Addr) (c d : Nat) (x y : Rs) (h : RdR w A 1 [x]) (h2 : RdR w B 1 [y]) (hi : x.r.i = y.r.i) (hst : x.r.st ≠ y.r.st) :
  Calls Tryz.prog 131 #[.slice A 1 c, .slice B 1 d, .func (.func 132) #[] #[]] w fun e w' => e = .returned (.bool false) ∧ Mod none_ w w' := by
 replace h := zH h
 replace h2 := zH h2
 go_enter Tryz.func131, Tryz.ntmps131
 go_wp2_with fail
 go_loopw [17] (fun y wr => y = .int .i64 0 ∧ Mod none_ w wr) (fun y _ => 1 - (intOf y).toNat)
 case atStart => exact ⟨rfl, Mod.refl _ _⟩
 case round =>
  obtain ⟨rfl, hm⟩ := hrel
  obtain ⟨g, o, x', hA, _, hx, hrg⟩ := rdr_get (w := wr) (Rd.mod0 h.out hm) (show 0 < 1 by omega)
  obtain ⟨g', o', y', hB, _, hx', hrg'⟩ := rdr_get (w := wr) (Rd.mod0 h2.out hm) (show 0 < 1 by omega)
  obtain rfl : x = x' := by simpa using hx
  obtain rfl : y = y' := by simpa using hx'
  subst hA
  subst hB
  have kS := zH (fun W => lsame1_ne W x y hi hst)
  replace hi := zH hi
  unfold rsC at hrg hrg'
  rw [Nat.zero_mul] at hrg hrg'
  have hz1 := zH (Blk.new wr 57 #[.int .i64 0, .int .i64 0, .int .i64 0, .int .i64 0, .int .i64 0, .int .i64 0, .int .i64 0, .int .i64 0, .string ⟨#[]⟩, .string ⟨#[]⟩, .int .i64 0, .slice none 0 0, .int .i64 0, .int .i64 0, .string ⟨#[]⟩, .bool false, .slice none 0 0])
  clear hx hx'
  replace hm := zH hm
  replace hrg := zH hrg
  replace hrg' := zH hrg'
  replace h := zH h
  replace h2 := zH h2
  go_wp2_with (first
   | (refine wpList_load_mid rfl 57 (.tmp 20) rfl g (o + 0) rfl _ _ hrg.out Tryz.underlying57 rfl rc_size ?_)
   | (refine wpList_store_blk rfl 57 (.tmp 8) (.tmp 21) rfl wr.heap.size 0 _ rfl rfl hz1.out (by simp) rc_size (by rfl) #[.int .i64 x.r.i.r, .int .i64 x.r.i.n, .int .i64 x.r.bal, .int .i64 x.r.st, .int .i64 x.r.by_, .int .i64 x.r.e.o.c, .int .i64 x.r.e.o.s, .int .i64 x.r.e.o.k, .string (txt x.r.e.o.acct), .string (txt x.r.e.o.peer), .int .i64 x.r.e.o.sum, .slice x.L.a x.L.n x.L.c, .int .i64 x.r.e.o.per, .int .i64 x.r.e.o.hold, .string (txt x.r.e.o.note), .bool x.r.e.none, .slice x.D.a x.D.n x.D.c] rfl ?_; intro w2 hb2 hm2; have hm2' := zH (((Mod.refl none_ wr).alloc (.cells #[.int .i64 0, .int .i64 0, .int .i64 0, .int .i64 0, .int .i64 0, .int .i64 0, .int .i64 0, .int .i64 0, .string ⟨#[]⟩, .string ⟨#[]⟩, .int .i64 0, .slice none 0 0, .int .i64 0, .int .i64 0, .string ⟨#[]⟩, .bool false, .slice none 0 0] 57)).in_new (Nat.le_refl _) hm2); replace hb2 := zH hb2; clear hm2; have hrg2 := zH (rangeAt_mod hrg'.out hm2'.out); have hz2 := zH (Blk.new w2 57 #[.int .i64 0, .int .i64 0, .int .i64 0, .int .i64 0, .int .i64 0, .int .i64 0, .int .i64 0, .int .i64 0, .string ⟨#[]⟩, .string ⟨#[]⟩, .int .i64 0, .slice none 0 0, .int .i64 0, .int .i64 0, .string ⟨#[]⟩, .bool false, .slice none 0 0]))
   | (refine wpList_load_mid rfl 57 (.tmp 24) rfl g' (o' + 0) rfl _ _ hrg2.out Tryz.underlying57 rfl rc_size ?_)
   | (refine wpList_store_blk rfl 57 (.tmp 9) (.tmp 25) rfl w2.heap.size 0 _ rfl rfl hz2.out (by simp) rc_size (by rfl) #[.int .i64 y.r.i.r, .int .i64 y.r.i.n, .int .i64 y.r.bal, .int .i64 y.r.st, .int .i64 y.r.by_, .int .i64 y.r.e.o.c, .int .i64 y.r.e.o.s, .int .i64 y.r.e.o.k, .string (txt y.r.e.o.acct), .string (txt y.r.e.o.peer), .int .i64 y.r.e.o.sum, .slice y.L.a y.L.n y.L.c, .int .i64 y.r.e.o.per, .int .i64 y.r.e.o.hold, .string (txt y.r.e.o.note), .bool y.r.e.none, .slice y.D.a y.D.n y.D.c] rfl ?_; intro w3 hb3 hm3; have hm3' := zH (((Mod.refl none_ w2).alloc (.cells #[.int .i64 0, .int .i64 0, .int .i64 0, .int .i64 0, .int .i64 0, .int .i64 0, .int .i64 0, .int .i64 0, .string ⟨#[]⟩, .string ⟨#[]⟩, .int .i64 0, .slice none 0 0, .int .i64 0, .int .i64 0, .string ⟨#[]⟩, .bool false, .slice none 0 0] 57)).in_new (Nat.le_refl _) hm3); replace hb3 := zH hb3; clear hm3; have hb2' := zH (hb2.out.mod hm3'.out (fun h => h)))
   | (refine wpList_load_row rfl 57 (.tmp 8) rfl wr.heap.size rfl _ _ _ _ hb2'.out Tryz.underlying57 rfl rc_size ?_)
   | (refine wpList_load_row rfl 57 (.tmp 9) rfl w2.heap.size rfl _ _ _ _ hb3.out Tryz.underlying57 rfl rc_size ?_))
  refine (kS.out _).mono ?_
  rintro e w6 ⟨rfl, hm6⟩
  dsimp only
  have hM6 := zH (hm.out.trans (hm2'.out.trans (hm3'.out.trans hm6)))
  clear hm6
  go_wp2_with fail
  go_ret
  exact ⟨rfl, hM6.out⟩
theorem logSame_ne (w : World) (A B : Option Addr) (c d : Nat) (x y : Rs) (h : RdR w A 1 [x]) (h2 : RdR w B 1 [y]) (hi : x.r.i = y.r.i) (hst : x.r.st ≠ y.r.st) :
  Calls Tryz.prog 66 #[.slice A 1 c, .slice B 1 d] w fun e w' => e = .returned (.bool false) ∧ Mod none_ w w' := by
 have kE := zH (eqFunc_ne w A B c d x y h h2 hi hst)
 clear h h2
 go_enter Tryz.func66, Tryz.ntmps66
 go_wp2_with fail
 refine kE.out.mono ?_
 rintro e w1 ⟨rfl, hm1⟩
 dsimp only
 replace hm1 := zH hm1
 go_wp2_with fail
 go_ret
 exact ⟨rfl, hm1.out⟩
end Go.Proofs.YtfkfiokkjjnhiaaGreat
